/- Texts of the proof, merged: what the code computes, and plain laws. No statement stands here. -/
import Derived.WalkSpells
import Derived.KernelRfl
import Derived.Test.YtjdhkocjkfdebaaGreatDoorProg
import Derived.Test.YtjdhkocjkfdebaaGreatDoorH4
namespace Go.Eng
open Go.RowKit Go.Proofs
open Tryz
theorem qoW{n:Int}(h:-9223372036854775808<=n/\n<=9223372036854775807):wrap64 n=n:=by unfold wrap64;omega
set_option maxHeartbeats 2000000 in
set_option maxRecDepth 100000 in
theorem qOc(i k:Nat)(_:i<=1000)(hk:k<=1000)(w:World) :Calls prog 377 #[.int .i64 i,.int .i64 k] w fun e w'=>e=.returned (q0e (if i=k then [49] else [48]))/\w'=w:=by
 have hs:q0e (if i=k then [49] else [48])=if i=k then .string ⟨#[49]⟩ else .string ⟨#[48]⟩:=by split<;>rfl
 rw[hs]
 go_enter func377,ntmps377
 by_cases h:i=k
 ·subst h
  go_wp2
  go_ret
  exact⟨rfl,rfl⟩
 ·have hb:((i:Int)==(k:Int))=false:=by simp;omega
  go_wp2
  go_ret
  exact⟨rfl,rfl⟩
set_option maxHeartbeats 2000000 in
set_option maxRecDepth 100000 in
theorem qNZ(b5 b1 g L cap i n:Nat)(w:World)(h5:w.cell? ⟨b5,2,none⟩=some (.slice (some ⟨g,0,none⟩) L cap))(h1:w.cell? ⟨b1,0,none⟩=some (qot n))(hi:i<=1000)(hn:0<n)(hn2:n<=1000)(hL:(i+1)*n<=L)(hc:L<=cap) :Calls prog 331 #[.int .i64 i,.pointer (some ⟨b5,0,none⟩),.pointer (some ⟨b1,0,none⟩)] w fun e w'=>e=.returned (.slice (some ⟨g,i*n,none⟩) n (cap-i*n))/\w'=w:=by
 unfold qot at h1;obtain⟨lo,hlo⟩:∃lo,lo=i*n:=⟨_,rfl⟩;have hm:i*n<=1000*1000:=qPw hi hn2;have hhi:(i+1)*n=lo+n:=by rw[hlo,qP2,qQo]
 have e1:wrap64 ((i:Int)*(n:Int))=(lo:Int):=by rw[hlo,qoW (by rw[<-qPz];omega)];simp
 have e2:wrap64 (((i:Int)+1)*(n:Int))=((lo+n:Nat):Int):=by
  have:((i:Int)+1)*(n:Int)=((lo+n:Nat):Int):=by rw[<-hhi];simp
  rw[this,qoW (by omega)]
 rw[hhi] at hL;rw[<-hlo];have g1:¬cap=lo:=by omega
 clear hm hhi hlo
 go_enter func331,ntmps331
 go_wp2
 go_ret
 rw[Nat.add_sub_cancel_left];exact⟨rfl,rfl⟩
set_option maxHeartbeats 4000000 in
set_option maxRecDepth 1000000 in
theorem qH6(g:Nat)(hen:qeq prog g)(caps:Array Value)(r c:Nat)(hr:r<=16)(hc:c<=16)(F:Nat->Nat->Bs)(w:World)(hF:∀i k w',i<r->k<c->Below w.heap.size w w'->Calls prog g (#[.int .i64 i,.int .i64 k]++caps) w' fun e w''=>e=.returned (q0e (F i k))/\Below w'.heap.size w' w'') :Calls prog 326 #[.int .i64 r,.int .i64 c,.func (.func g) #[] caps] w fun e w'=>∃v,e=.returned (.agg #[.int .i64 r,.int .i64 c,v])/\Below w.heap.size w w'/\w'.ownsRow w.heap.size 108 1 v (r*c) ((mkL F c r).map q0e):=by
 obtain⟨i0,hi,hz0,hz1,hz2⟩:=info_parts (show (prog.info? 108).map (fun i=>(i.zero,i.size,i.bytes))=some (some (.string ⟨#[]⟩),1,16) by kernel_rfl);obtain⟨B,hB⟩:∃B,B=w.heap.size:=⟨_,rfl⟩;have HF:=Lib.hid hF;clear hF
 go_enter func326,ntmps326
 go_wp2
 go_loopg [14] r (fun g i wr=>∃(ii:Nat) (v:Value),ii<=r/\g=r-ii/\i=.int .i64 ii/\MSt w.heap.size (w.heap.size+1) w.heap.size 370 108 w wr r c v (mkL F c ii))
 case atStart=>exact⟨0,.slice none 0 0,by omega,by omega,rfl,MSt.start w 370 108 (by decide) r c _ rfl _ rfl⟩
 case round=>
  obtain⟨ii,v,hii,rfl,rfl,hM⟩:=hrel;by_cases hlt:ii<r
  ·have HM:=Lib.hid hM;clear hM
   go_wp2
   go_loopg [18] c (fun g k wx=>∃(kk:Nat) (v:Value),kk<=c/\g=c-kk/\k=.int .i64 kk/\MSt w.heap.size (w.heap.size+1) w.heap.size 370 108 w wx r c v (mkL F c ii++(List.range kk).map (F ii)))
   case atStart=>exact⟨0,v,by omega,rfl,rfl,by simpa using HM.out⟩
   case round=>
    clear HM;obtain⟨kk,v,hkk,rfl,rfl,hM⟩:=hrel;have HM:=Lib.hid hM;by_cases hk:kk<c
    ·have c2:=hM.cell.2.2;have hW:Below w.heap.size w wr.drew:=hM.below.drew;have key:=Lib.hid (HF.out ii kk wr.drew hlt hk hW);have own:=Lib.hid hM.own;have hsz:w.heap.size<=wr.heap.size:=hM.below.size;have hl:(mkL F c ii++(List.range kk).map (F ii)).length<=1000:=by rw[qP6,qjW,qOV,qPm];have:=qPw (show ii<=16 by omega) hc;omega
     have key2:=key.out;unfold q0e at key2;clear hM HF
     go_wp2_with fail
     go_region_law (first
      | (refine qHH rfl g caps hen (.tmp 23) #[.tmp 24,.tmp 25] #[3,3] rfl (by simp[Act.eval,Act.put]) (#[.int .i64 ii,.int .i64 kk]++caps) (by simp[Act.eval,Act.put]) (by exact key2) ?_;rintro e w2 ⟨rfl,hb2⟩;have B2:Below wr.heap.size wr w2:=(Below.refl _ wr).drew.trans hb2;have BA:Below wr.heap.size wr (w2.alloc (.cells #[.string ⟨(F ii kk).toArray⟩] 108)):=B2.alloc B2.size _;have k1:=(HM.out.grow B2 hsz).cell.2.2;have k2:=(HM.out.grow BA hsz).cell.2.2;refine⟨_,rfl,?_⟩)
      | (refine qtI rfl (.tmp 22) (.tmp 27) 212 rfl w.heap.size 108 i0 (.string ⟨#[]⟩) 1 16 underlying212 hi hz0 hz1 hz2 rfl (by decide) v _ _ (by simp[Act.eval]) (q0Q own.out BA) ⟨w2.heap.size,0,none⟩ 1 1 [.string ⟨(F ii kk).toArray⟩] (by simp[Act.eval]) rfl (qIs (qyA w2 _ _)) (fun u hu=>by rw[qPf.1 hu];rfl) (by unfold maxLen;omega) (by omega) (qOP hsz BA.size) ?_;intro v' w3 hown' hgrow _;obtain⟨ao,n',cap',rfl⟩:=q7e hown';obtain⟨k3,k4⟩:=(HM.out.grow BA hsz).keepCell hgrow))
     all_goals
      have MA:=Lib.hid ((HM.out.grow BA hsz).app (ys:=mkL F c ii++(List.range (kk+1)).map (F ii)) hgrow (qOP hsz BA.size) (by rw[qPO,qP9,<-qPj,qP6,qP9];exact hown'));clear k1 k2 k3 k4 c2 hown' hgrow key2
      go_wp2
      go_roundg (c-(kk+1))
      case measure=>go_light;omega
      case rel=>
       go_light
       exact⟨kk+1,_,by omega,rfl,by go_num,MA.out⟩
    ·have hkE:kk=c:=by omega
     subst kk;clear hM
     go_wp2
     go_roundg (r-(ii+1))
     case measure=>go_light;omega
     case rel=>
      go_light
      exact⟨ii+1,v,by omega,rfl,by go_num,HM.out⟩
  ·have hiE:ii=r:=by omega
   subst ii;obtain⟨ao,n',cap',rfl⟩:=q7e hM.own;have c1:=hM.cell;have c2:=hM.cellq;have f20:=hM.freeq 0;have f21:=hM.freeq 1;have f22:=hM.freeq 2;have HM:=Lib.hid hM;clear hM;unfold qot at c1 c2;obtain⟨c11,c12,c13⟩:=c1;obtain⟨c21,c22,c23⟩:=c2
   go_wp2
   refine bodyPost_ret (by simp[results,results326,go_sem, *];try rfl) rfl ?_;obtain⟨q1,q2⟩:=HM.out.fin (qON _) (.int .i64 r) (.int .i64 c) (.slice ao n' cap');rw[qjW] at q2;exact⟨_,rfl,q1,q2⟩
end Go.Eng

namespace Go.Eng
open Go.RowKit Go.Proofs
open Tryz
set_option maxHeartbeats 2000000 in
set_option maxRecDepth 100000 in
theorem qK2(ab ao n c:Nat)(hn:0<n)(hn2:n<=1000)(row:List Bs)(hl:row.length=n)(w:World)(hc:∀(j:Nat) x,row[j]?=some x->w.cell? ⟨ab,ao+j,none⟩=some (q0e x)) :Calls prog 400 #[.slice (some ⟨ab,ao,none⟩) n c] w fun e w'=>∃v,e=.returned v/\w'.ownsRow w.heap.size 108 1 v n (row.map q0e)/\Below w.heap.size w w':=by
 obtain⟨i0,hi,hz0,hz1,hz2⟩:=info_parts (show (prog.info? 108).map (fun i=>(i.zero,i.size,i.bytes))=some (some (.string ⟨#[]⟩),1,16) by kernel_rfl);have hnil:=Lib.run_eql_slice_nil (P:=prog)
 go_enter func400,ntmps400
 have hnews:∀(j:Nat) (u:Value),(row.map q0e)[j]?=some u->(w.alloc (.cells #[] 108)).cell? ((⟨ab,ao,none⟩:Addr).add j)=some u:=fun j u hu=>by
  rw[qOU] at hu;obtain⟨x,hx,rfl⟩:=qQu.1 hu;have h1:=hc j x hx;have h2:(⟨ab,ao,none⟩:Addr).add j=⟨ab,ao+j,none⟩:=by
   unfold Addr.add;split
   ·rename_i h;subst h;rfl
   ·rfl
  rw[h2,World.cell?_alloc_lt _ _ _ (qPW w _ h1)];exact h1
 clear hc
 go_wp2_with (at_builtin;refine wpList_append_own _ rfl _ _ 212 rfl w.heap.size 108 i0 (.string ⟨#[]⟩) 1 16 underlying212 hi hz0 hz1 hz2 rfl (by decide) _ 0 [] rfl (World.ownsRow_made w #[] 0 (qON _) (by decide) rfl) ⟨ab,ao,none⟩ n c (row.map q0e) rfl (by rw[qOV,hl,qQr]) hnews qDw (by unfold maxLen;omega) (by omega) (by rw[jf];omega) ?_)
 intro v' w2 hown' hgrow _;obtain⟨ao',n',cap',rfl⟩:=q7e hown'
 go_wp2
 go_ret
 refine⟨_,rfl,hown',((Below.refl w.heap.size w).alloc (qON _) (.cells #[] 108)).grown hgrow (by rw[jf];omega) (fun k hk=>?_)⟩;cases hk;exact qON _
theorem qLw(i n:Nat)(hi:i<=1000)(hn:n<=1000):wrap64 ((i:Int)*(n:Int))=((i*n:Nat):Int):=by have:=qPw hi hn;rw[<-qPz];exact qoW ⟨by omega,by omega⟩
theorem qLj(i n:Nat)(hi:i<=1000)(hn:n<=1000):wrap64 (((i:Int)+1)*(n:Int))=((i*n+n:Nat):Int):=by
 have:=qPw hi hn;have h:((i:Int)+1)*(n:Int)=((i*n+n:Nat):Int):=by rw[Int.add_mul,qQ6,<-qPz,<-qQF]
 rw[h];exact qoW ⟨by omega,by omega⟩
def row0(F G:Nat->Nat->Bs)(n i:Nat):List Bs:=(List.range n).map (F i)++(List.range n).map (G i)
def qOe(B S b2 n:Nat)(vs:Value)(F G:Nat->Nat->Bs)(w0 w:World)(ii:Nat):Prop:=∃vR H,Sch B S 427 212 108 3 ii (2*n) (.int .i64 0) (.int .i64 n) w vR (.slice none 0 0) H ((List.range ii).map (row0 F G n)) [49] []/\Below B w0 w /\
 w.heap[b2]?=some (.cells #[.int .i64 n,.int .i64 n,vs] 370 (0,0))
set_option maxHeartbeats 4000000 in
set_option maxRecDepth 1000000 in
theorem qJh(n:Nat)(hn:n<=16)(F G:Nat->Nat->Bs)(vs:Value)(b5 b1:Nat)(w:World)(hv:0<n->∃ab ao cap,vs=.slice (some ⟨ab,ao,none⟩) (n*n) cap/\n*n<=cap/\∀i k,i<n->k<n->w.cell? ⟨ab,ao+(i*n+k),none⟩=some (q0e (F i k)))(ho:0<n->∃g cap,w.cell? ⟨b5,2,none⟩=some (.slice (some ⟨g,0,none⟩) (n*n) cap)/\n*n<=cap/\∀i k,i<n->k<n->w.cell? ⟨g,i*n+k,none⟩=some (q0e (G i k)))(h1:w.cell? ⟨b1,0,none⟩=some (qot n)) :Calls prog 378 #[.agg #[.int .i64 n,.int .i64 n,vs],.func (.func 331) #[] #[.pointer (some ⟨b5,0,none⟩),.pointer (some ⟨b1,0,none⟩)]] w fun e w' => e=.returned (.pointer (some ⟨w.heap.size+1,0,none⟩))/\qOe w.heap.size (w.heap.size+1) w.heap.size n vs F G w w' n:=by
  obtain⟨i0,hi,hz0,hz1,hz2⟩:=info_parts (show (prog.info? 108).map (fun i=>(i.zero,i.size,i.bytes))=some (some (.string ⟨#[]⟩),1,16) by kernel_rfl);obtain⟨i1,hi',hy0,hy1,hy2⟩:=info_parts (show (prog.info? 212).map (fun i=>(i.zero,i.size,i.bytes))=some (some (.slice none 0 0),1,24) by kernel_rfl);have HV:=Lib.hid hv;have HO:=Lib.hid ho;clear hv ho
  go_enter func378,ntmps378
  go_wp2
  go_loopg [14] n (fun g i wr=>∃ii:Nat,ii<=n/\g=n-ii/\i=.int .i64 ii/\qOe w.heap.size (w.heap.size+1) w.heap.size n vs F G w wr ii)
  case atStart =>
    refine⟨0,by omega,by omega,rfl,.slice none 0 0,[],?_,?_,?_⟩
    · refine Sch.start (by omega) ?_ (by decide)
      rw[<-jf w (.cells #[.int .i64 n,.int .i64 n,vs] 370)];exact heap_alloc_new _ _
    · exact((Below.refl w.heap.size w).alloc (qON _) _).alloc (by rw[jf];omega) _
    · exact qmx w _ _
  case round =>
    obtain⟨ii,hii,rfl,rfl,hI⟩:=hrel;by_cases hlt:ii<n
    · obtain⟨vR,H,hS,hB,h2⟩:=hI
      obtain⟨ab,ao,cap,rfl,hcap,hcell⟩:=HV.out (by omega);obtain⟨lo,hlo⟩:∃lo,lo=ii*n:=⟨_,rfl⟩;have hm:ii*n<=16*16:=qPw (by omega) hn;have hhi:(ii+1)*n=lo+n:=by rw[hlo,qP2,qQo]
      have hle:lo+n<=n*n:=by rw[<-hhi];exact qPb n hlt
      have g1:¬cap=lo:=by omega
      have g2:lo+n<=cap:=by omega
      have q1:ii<=1000:=by omega
      have q2:n<=1000:=by omega
      clear hm hhi hle;have e1:True->wrap64 ((ii:Int)*(n:Int))=(lo:Int):=fun _=>by rw[hlo];exact qLw ii n q1 q2
      have e2:True->wrap64 (((ii:Int)+1)*(n:Int))=((lo+n:Nat):Int):=fun _=>by rw[hlo];exact qLj ii n q1 q2
      have HLO:=Lib.hid hlo;clear hlo;have c2:=q75 h2;obtain⟨c20,c21,c22⟩:=c2;have keyC:=qK2 ab (ao+lo) n (cap-lo) (by omega) q2 ((List.range n).map (F ii)) (by simp) wr (fun j x hx=>by
        rw[qOU] at hx;obtain⟨y,hy,rfl⟩:=qQu.1 hx;have hjn:j<n:=by have:=(qQq.1 hy).1;simpa using this
        rw[qPp hjn] at hy;cases hy;rw[qQj,HLO.out,hB.cell (p:=⟨ab,ao+(ii*n+j),none⟩) (qPW w _ (hcell ii j hlt hjn))];exact hcell ii j hlt hjn)
      obtain⟨g,capo,ho5,hcapo,hoc⟩:=HO.out (by omega);have keyI:=Lib.hid fun (W:World) (hW:Below w.heap.size w W)=>qNZ b5 b1 g (n*n) capo ii n W (by rw[hW.cell (qPW w _ ho5)];exact ho5) (by rw[hW.cell (qPW w _ h1)];exact h1) q1 (by omega) q2 (qPb n hlt) hcapo;have HC:=Lib.hid hoc;have HH:=Lib.hid (And.intro hS (And.intro hB h2));clear hcell hoc ho5 hcapo hcap hS hB h2
      go_wp2_with (go_at_call 400;refine keyC.mono ?_;rintro e w1 ⟨v1,rfl,hv1,hb1⟩;obtain⟨a1,n1,cap1,rfl⟩:=q7e hv1)
      clear keyC e1 e2 g1 g2 c20 c21 c22;have hsz:=HH.out.2.1.size;have B1:Below wr.heap.size wr w1.drew:=hb1.drew;have k1:=(HH.out.1.grow B1).cell.2.1;have BW:Below w.heap.size w w1.drew:=HH.out.2.1.trans (B1.mono hsz);have key2:=keyI.out w1.drew BW;have own1:=Lib.hid (q0Q hv1 (Below.refl _ w1).drew);have LT1:=Lib.hid hv1;have NEW:∀(j:Nat) (u:Value),(((List.range n).map (G ii)).map q0e)[j]?=some u->w1.drew.cell? ((⟨g,ii*n,none⟩:Addr).add j)=some u:=fun j u hu=>by
        rw[qOU] at hu;obtain⟨x,hx,rfl⟩:=qQu.1 hu;rw[qOU] at hx;obtain⟨y,hy,rfl⟩:=qQu.1 hx;have hjn:j<n:=by have:=(qQq.1 hy).1;simpa using this
        rw[qPp hjn] at hy;cases hy;have h2:(⟨g,ii*n,none⟩:Addr).add j=⟨g,ii*n+j,none⟩:=by
          unfold Addr.add;split
          · rename_i h;subst h;rfl
          · rfl
        have h3:=HC.out ii j hlt hjn;rw[h2,BW.cell (qPW w _ h3)];exact h3
      clear hv1;have henI:qeq prog 331:=u9 func331 (by kernel_rfl) (by kernel_rfl);have stepI:∀(o:Oper) (a:Act) (K:Act->World->Prop) (Q:Exit->Act->World->Prop),o.op=.call { callee:=.value (.tmp 36),args:=#[.tmp 37],argTypes:=#[3] } ->
          a.eval (.tmp 36)=.func (.func 331) #[] #[.pointer (some ⟨b5,0,none⟩),.pointer (some ⟨b1,0,none⟩)]->a.eval (.tmp 37)=.int .i64 ii->K (a.put o.dst (.slice (some ⟨g,ii*n,none⟩) n (capo-ii*n))) w1.drew->Oper.wp prog o a w1.drew K Q :=
        fun o a K Q q1 q2 q3 q4=>qDl 331 _ henI (.tmp 36) _ _ q1 q2 (#[.int .i64 ii,.pointer (some ⟨b5,0,none⟩),.pointer (some ⟨b1,0,none⟩)]) (by simp[q3]) key2 (fun e w' h=>⟨_,h.1,by rw[h.2];exact q4⟩)
      have stepA:∀(o:Oper) (a:Act) (K:Act->World->Prop) (Q:Exit->Act->World->Prop),o.op=.call { callee:=.builtin .append,args:=#[.tmp 35,.tmp 38],argTypes:=#[212,212] } ->
          a.eval (.tmp 35)=.slice a1 n1 cap1->a.eval (.tmp 38)=.slice (some ⟨g,ii*n,none⟩) n (capo-ii*n) ->
          (∀a2 n2 cap2 w2,w2.ownsRow wr.heap.size 108 1 (.slice a2 n2 cap2) (2*n) ((row0 F G n ii).map q0e)->Below wr.heap.size wr w2->K (a.put o.dst (.slice a2 n2 cap2)) w2)->Oper.wp prog o a w1.drew K Q :=
        fun o a K Q q1 q2 q3 q4=>wp_append_own w1.drew _ _ 212 q1 wr.heap.size 108 i0 (.string ⟨#[]⟩) 1 16 underlying212 hi hz0 hz1 hz2 rfl (by decide) _ n _ q2 own1.out ⟨g,ii*n,none⟩ n _ (((List.range n).map (G ii)).map q0e) q3 (by simp) NEW qDw (by unfold maxLen;omega) (by omega) B1.size
          (fun v2 w2 h1 h2 _=>by obtain⟨a2,n2,cap2,rfl⟩:=q7e h1;refine q4 _ _ _ _ ?_ (B1.grown h2 B1.size (fun k hk=>(LT1.out.lt k hk).1));rw[Nat.two_mul];unfold row0;rw[qP9];exact h1)
      have stepB:∀(w2:World) (a2:Option Addr) (n2 cap2:Nat) (o:Oper) (a:Act) (K:Act->World->Prop) (Q:Exit->Act->World->Prop),Below wr.heap.size wr w2->o.op=.call { callee:=.builtin .append,args:=#[.tmp 34,.tmp 40],argTypes:=#[342,342] } ->
          a.eval (.tmp 34)=vR->a.eval (.tmp 40)=.slice (some ⟨w2.heap.size,0,none⟩) 1 1 ->
          (∀a3 n3 cap3 w3,w3.ownsRow w.heap.size 212 1 (.slice a3 n3 cap3) (ii+1) (H++[.slice a2 n2 cap2])->(w2.alloc (.cells #[.slice a2 n2 cap2] 212)).grownBy w3 vR.ownBlock->K (a.put o.dst (.slice a3 n3 cap3)) w3)->Oper.wp prog o a (w2.alloc (.cells #[.slice a2 n2 cap2] 212)) K Q :=
        fun w2 a2 n2 cap2 o a K Q hb q1 q2 q3 q4=>by
          have B3:Below wr.heap.size wr (w2.alloc (.cells #[.slice a2 n2 cap2] 212)):=hb.alloc hb.size _;exact wp_append_own _ _ _ 342 q1 w.heap.size 212 i1 (.slice none 0 0) 1 24 underlying342 hi' hy0 hy1 hy2 rfl (by decide) _ ii _ q2 (HH.out.1.grow B3).outer ⟨w2.heap.size,0,none⟩ 1 1 [.slice a2 n2 cap2] q3 rfl (qIs (qyA w2 _ _)) (fun u hu=>by rw[qPf.1 hu];rfl) (by unfold maxLen;omega) (by omega) (qOP hsz B3.size)
            (fun v3 w3 h1 h2 _=>by obtain⟨a3,n3,cap3,rfl⟩:=q7e h1;exact q4 _ _ _ _ h1 h2)
      clear key2 NEW
      go_region_law ((try simp only[Act.put,List.setIfInBounds_toArray,qP1,qP3]);(with_reducible refine qHG rfl ?_);first
        | (with_reducible refine stepI _ _ _ _ ?_ ?_ ?_ ?_
           · with_reducible rfl
           · (first|with_reducible rfl|(simp[Act.eval];done))
           · (first|with_reducible rfl|(simp[Act.eval];done)))
        | (with_reducible refine stepA _ _ _ _ ?_ ?_ ?_ ?_
           · with_reducible rfl
           · (first|with_reducible rfl|(simp[Act.eval];done))
           · (first|with_reducible rfl|(simp[Act.eval];done))
           intro a2 n2 cap2 w2 hown2 B2;have B3:Below wr.heap.size wr (w2.alloc (.cells #[.slice a2 n2 cap2] 212)):=B2.alloc B2.size _;have k2:=(HH.out.1.grow B2).cell.2.1;have k3:=(HH.out.1.grow B3).cell.2.1)
        | (with_reducible refine stepB w2 a2 n2 cap2 _ _ _ _ B2 ?_ ?_ ?_ ?_
           · with_reducible rfl
           · (first|with_reducible rfl|(simp[Act.eval];done))
           · (first|with_reducible rfl|(simp[Act.eval];done))
           intro a3 n3 cap3 w3 hown3 hgrow3;obtain⟨k4,k5⟩:=(HH.out.1.grow B3).rowCell hgrow3)
        | fail "NONE")
      all_goals
        have SR:=(HH.out.1.grow B3).addRow (row:=row0 F G n ii) (q63 (q0Q hown2 ((Below.refl _ w2).alloc (qON _) (.cells #[.slice a2 n2 cap2] 212))) hsz) (HH.out.1.heads hown2) hgrow3 hown3;have BL:=((HH.out.2.1.trans (B3.mono hsz)).grown hgrow3 (qOP hsz B3.size) (fun k hk=>((HH.out.1.grow B3).outer.lt k hk).1)).setCell (p:=⟨w.heap.size+1,1,none⟩) (by show w.heap.size<=w.heap.size+1;omega) (.slice a3 n3 cap3);have MK:=qDg (HH.out.1.grow B3).outer (show (w2.alloc (.cells #[.slice a2 n2 cap2] 212)).heap[w.heap.size]?=_ by rw[B3.block _ (qOR.1 HH.out.2.2).1];exact HH.out.2.2) (by decide) hgrow3;have FIN:qOe w.heap.size (w.heap.size+1) w.heap.size n (.slice (some ⟨ab,ao,none⟩) (n*n) cap) F G w (w3.setCell ⟨w.heap.size+1,1,none⟩ (.slice a3 n3 cap3)) (ii+1) :=
          ⟨_,_,by rw[qPO,qP9];exact SR,BL,by rw[heap_setCell_other w3 ⟨w.heap.size+1,1,none⟩ w.heap.size _ (by show w.heap.size≠w.heap.size+1;omega)];exact MK⟩
        have FIN:=Lib.hid FIN;clear SR BL MK k1 k2 k3 k4 k5 hown2 hown3 hgrow3 B2 B3 stepI stepA stepB
        go_wp2
        go_roundg (n-(ii+1))
        case measure=>go_light;omega
        case rel =>
          go_light
          exact⟨ii+1,by omega,rfl,by go_num,FIN.out⟩
    · have hiE:ii=n:=by omega
      subst ii;have HI:=Lib.hid hI;clear hI
      go_wp2
      go_ret
      exact⟨rfl,HI.out⟩
end Go.Eng

namespace Go.Eng
open Go.RowKit Go.Proofs
open Tryz
theorem Sch.base{B B' S:Nat}{tS tR tE tI:TypeId}{N C:Nat}{ek K:Value}{w:World}{vR vL:Value}{H:List Value}{Z:Mx}{det:Bs}{lead:List Nat}(h:Sch B S tS tR tE tI N C ek K w vR vL H Z det lead)(hB:B'<=B) :Sch B' S tS tR tE tI N C ek K w vR vL H Z det lead:=⟨qOP hB h.bs,h.st,h.dim,q63 h.outer hB,fun j a r e1 e2=>q63 (h.inner j a r e1 e2) hB,q63 h.own hB,h.ap,h.ne⟩
set_option maxHeartbeats 4000000 in
set_option maxRecDepth 1000000 in
theorem qNk(ml dv sb:Op2)(gl:World->Prop)(n:Nat)(hn:n<=16)(F G:Nat->Nat->Bs)(vs:Value)(b5 b1:Nat)(w:World)(hgl:∀w',Below w.heap.size w w'->gl w')(hml:qFz prog gl 77 ml) (hdv:qFz prog gl 315 dv) (hsb:qFz prog gl 210 sb)(hv:0<n->∃ab ao cap,vs=.slice (some ⟨ab,ao,none⟩) (n*n) cap/\n*n<=cap/\∀i k,i<n->k<n->w.cell? ⟨ab,ao+(i*n+k),none⟩=some (q0e (F i k)))(ho:0<n->∃g cap,w.cell? ⟨b5,2,none⟩=some (.slice (some ⟨g,0,none⟩) (n*n) cap)/\n*n<=cap/\∀i k,i<n->k<n->w.cell? ⟨g,i*n+k,none⟩=some (q0e (G i k)))(h1:w.cell? ⟨b1,0,none⟩=some (qot n)) (fin:RS) (hf:qzE ml dv sb n n (2*n) n ⟨(List.range n).map (row0 F G n),[49],[],0⟩=some fin) :Calls prog 330 #[.agg #[.int .i64 n,.int .i64 n,vs],.func (.func 331) #[] #[.pointer (some ⟨b5,0,none⟩),.pointer (some ⟨b1,0,none⟩)]] w fun e w'=> ∃S,e=.returned (.tuple #[.pointer (some ⟨S,0,none⟩),.int .i64 0])/\(∃vR vL H,Sch w.heap.size S 427 212 108 3 n (2*n) (.int .i64 0) (.int .i64 n) w' vR vL H fin.Z fin.det fin.lead)/\Below w.heap.size w w':=by
 have hB1:Below w.heap.size w (w.alloc (.cells #[.int .i64 n,.int .i64 n,vs] 370)):=(Below.refl w.heap.size w).alloc (qON _) _;have keyB:=qJh n hn F G vs b5 b1 (w.alloc (.cells #[.int .i64 n,.int .i64 n,vs] 370))
  (fun h=>by obtain⟨ab,ao,cap,q1,q2,q3⟩:=hv h;exact⟨ab,ao,cap,q1,q2,fun i k hi hk=>by rw[hB1.cell (qPW w _ (q3 i k hi hk))];exact q3 i k hi hk⟩)
  (fun h=>by obtain⟨g,cap,q1,q2,q3⟩:=ho h;exact⟨g,cap,by rw[hB1.cell (qPW w _ q1)];exact q1,q2,fun i k hi hk=>by rw[hB1.cell (qPW w _ (q3 i k hi hk))];exact q3 i k hi hk⟩)
  (by rw[hB1.cell (qPW w _ h1)];exact h1)
 have HG:=Lib.hid hgl;have HF:=Lib.hid hf;clear hv ho hf hgl
 go_enter func330,ntmps330
 go_wp2_with (go_at_call 378;refine keyB.mono ?_;rintro e w1 ⟨rfl,hI⟩)
 have hs1:w.heap.size<=w.heap.size+1:=by omega
 rw[jf] at hI;obtain⟨vR,H,hS,hB,_⟩:=hI;have hB2:Below w.heap.size w w1:=hB1.trans (hB.mono hs1);have keyR:=qN2 w.heap.size _ n n (2*n) w1 ml dv sb gl (fun w' hw'=>HG.out w' (hB2.trans hw')) hml hdv hsb hB2.size (qON _) (by omega) (by omega) (by omega) _ fin ⟨_,_,_,hS.base hs1,Below.refl _ _⟩ rfl rfl HF.out;refine keyR.mono ?_;rintro e w2 ⟨rfl,hR⟩;obtain⟨vR2,vL2,H2,hS2,hB3⟩:=hR;have k0:=hS2.cell.1;clear keyR keyB
 go_wp2_with fail
 go_region_with (fail)
 all_goals
  go_wp2
  refine bodyPost_ret (results_tmp2 rfl _ _ _) rfl ?_;exact⟨_,rfl,⟨_,_,_,hS2.grow (Below.refl _ _).drew⟩,hB2.trans hB3.drew⟩
def qnE(i k:Nat):Bs:=if i=k then [49] else [48]
set_option maxHeartbeats 4000000 in
set_option maxRecDepth 1000000 in
theorem qLL(n:Nat)(hn:n<=16)(w:World) :Calls prog 329 #[.int .i64 n] w fun e w'=>∃v,e=.returned (.agg #[.int .i64 n,.int .i64 n,v])/\Below w.heap.size w w'/\w'.ownsRow w.heap.size 108 1 v (n*n) ((mkL qnE n n).map q0e):=by
 have hB1:Below w.heap.size w (w.alloc (.cells #[.int .i64 0,.int .i64 0,.slice none 0 0] 370)):=(Below.refl w.heap.size w).alloc (qON _) _;have key:=qH6 377 (u9 func377 (by kernel_rfl) (by kernel_rfl)) #[] n n hn hn qnE (w.alloc (.cells #[.int .i64 0,.int .i64 0,.slice none 0 0] 370)) (fun i k w' hi hk _=>(qOc i k (by omega) (by omega) w').mono fun e w'' h=>⟨h.1,by rw[h.2];exact Below.refl _ _⟩);have hq:=heap_alloc_new w (.cells #[.int .i64 0,.int .i64 0,.slice none 0 0] 370);rw[jf] at key
 go_enter func329,ntmps329
 go_wp2_with (go_at_call 326;refine key.mono ?_;rintro e w1 ⟨v,rfl,hb,ho⟩;obtain⟨ao,n1,cap,rfl⟩:=q7e ho;have hq2:w1.heap[w.heap.size]?=some (.cells #[.int .i64 0,.int .i64 0,.slice none 0 0] 370 (0,0)):=(hb.block _ (by omega)).trans hq;obtain⟨c0,c1,c2⟩:=q75 hq2;have f0:=frozen_of_row w1 w.heap.size 0 _ 370 hq2;have f1:=frozen_of_row w1 w.heap.size 1 _ 370 hq2;have f2:=frozen_of_row w1 w.heap.size 2 _ 370 hq2)
 refine bodyPost_ret (by simp[results,results329,go_sem, *];try rfl) rfl ?_;have hn0:(Value.slice ao n1 cap).ownBlock≠some w.heap.size:=fun hv=>by obtain⟨c',hc'⟩:=zc ho hv;exact qdP hq2 hc' (by decide) rfl
 have hle:w.heap.size<=w.heap.size:=qON _;exact⟨_,rfl,(((hB1.trans (hb.mono (by omega))).setCell (p:=⟨w.heap.size,0,none⟩) hle _).setCell (p:=⟨w.heap.size,1,none⟩) hle _).setCell (p:=⟨w.heap.size,2,none⟩) hle _,
  qB (qB (qB (q63 ho (by omega)) hn0 _) hn0 _) hn0 _⟩
end Go.Eng

namespace Go.Eng
open Go.RowKit Go.Proofs
open Tryz
theorem qFo{w:World}{B:Nat}{e:TypeId}{z n:Nat}{v:Value}{xs:List Value}(h:w.ownsRow B e z v n xs):∃ao cap,v=.slice ao n cap:=by
 rcases h.2 with⟨hv,h0⟩|⟨g,cap,cur,hv,_⟩
 ·exact⟨none,0,by rw[hv,h0]⟩
 ·exact⟨_,_,hv⟩
set_option maxHeartbeats 4000000 in
set_option maxRecDepth 1000000 in
theorem qO4(b6 b1 S n:Nat)(w:World){B:Nat}{vR vL:Value}{H:List Value}{Z:Mx}{det:Bs}{lead:List Nat}{ek K:Value}(h6:w.cell? ⟨b6,0,none⟩=some (.pointer (some ⟨S,0,none⟩)))(h1:w.cell? ⟨b1,1,none⟩=some (qot n))(hS:Sch B S 427 212 108 3 n (2*n) ek K w vR vL H Z det lead) (hn:n<=16) (i k:Nat) (hi:i<n) (hk:k<n) :Calls prog 332 #[.int .i64 i,.int .i64 k,.pointer (some ⟨b6,0,none⟩),.pointer (some ⟨b1,0,none⟩)] w fun e w'=>e=.returned (q0e (q8T Z i (n+k)))/\w'=w.drew:=by
 obtain⟨O,cO,rfl,bO,ltO,rO,fO,tO⟩:=hS.rows (by omega);obtain⟨G,cG,eH,bG,ltG,zG,fG,tG⟩:=hS.head hi (by omega);have c1:=hS.cell.2.1;have c2:=rO i _ eH;have c3:=zG (n+k) (by omega);have hlt:n+k<2*n:=by omega
 generalize 2*n=C at *;have hlt2:(n:Int)+(k:Int)<(C:Int):=by omega
 have hlt3:((n:Int)+(k:Int)).toNat=n+k:=by omega
 unfold qot at h1;unfold q0e at c3 ⊢;clear rO zG fO fG tO tG eH
 go_enter func332,ntmps332
 go_wp2_with fail
 go_big_region
 go_wp2
 go_ret
 exact⟨rfl,rfl⟩
set_option maxHeartbeats 4000000 in
set_option maxRecDepth 1000000 in
theorem qNv(ml dv sb:Op2)(gl:World->Prop)(n:Nat)(hn:n<=16)(F:Nat->Nat->Bs)(vs:Value)(w:World)(hgl:∀w',Below w.heap.size w w'->gl w')(hml:qFz prog gl 77 ml) (hdv:qFz prog gl 315 dv) (hsb:qFz prog gl 210 sb)(hck:∀w',Below w.heap.size w w'->Calls prog 328 #[.agg #[.int .i64 n,.int .i64 n,vs]] w' fun e w''=>e=.returned (.int .i64 0)/\Below w'.heap.size w' w'')(hv:0<n->∃ab ao cap,vs=.slice (some ⟨ab,ao,none⟩) (n*n) cap/\n*n<=cap/\∀i k,i<n->k<n->w.cell? ⟨ab,ao+(i*n+k),none⟩=some (q0e (F i k)))(fin:RS) (hf:qzE ml dv sb n n (2*n) n ⟨(List.range n).map (row0 F qnE n),[49],[],0⟩=some fin) (hvs:∃a l c,vs=.slice a l c) :Calls prog 278 #[.agg #[.int .i64 n,.int .i64 n,vs]] w fun e w'=>Below w.heap.size w w' /\((fin.lead.length < n /\ e = .returned (.tuple #[.agg #[.int .i64 0, .int .i64 0, .slice none 0 0], .int .i64 14])) \/(n<=fin.lead.length/\∃v,e=.returned (.tuple #[.agg #[.int .i64 n,.int .i64 n,v],.int .i64 0])/\w'.ownsRow w.heap.size 108 1 v (n*n) ((mkL (fun i k=>q8T fin.Z i (n+k)) n n).map q0e))):=by
  obtain⟨a0,l0,c0,rfl⟩:=hvs;obtain⟨W0,hW0⟩:∃W0,W0=(w.alloc (.cells #[.int .i64 n,.int .i64 n,.slice a0 l0 c0] 370)).alloc (.cells #[.int .i64 0,.int .i64 0,.slice none 0 0] 370):=⟨_,rfl⟩;have hb0:Below w.heap.size w W0:=by rw[hW0];exact((Below.refl w.heap.size w).alloc (qON _) _).alloc (by rw[jf];omega) _
  have h1:W0.heap[w.heap.size]?=some (.cells #[.int .i64 n,.int .i64 n,.slice a0 l0 c0] 370 (0,0)):=by rw[hW0];exact qmx w _ _
  have h2:W0.heap[w.heap.size+1]?=some (.cells #[.int .i64 0,.int .i64 0,.slice none 0 0] 370 (0,0)):=by rw[hW0,<-jf w (.cells #[.int .i64 n,.int .i64 n,.slice a0 l0 c0] 370)];exact heap_alloc_new _ _
  have hs0:W0.heap.size=w.heap.size+1+1:=by rw[hW0,jf,jf]
  have keyC:=hck W0 hb0;obtain⟨c10,c11,c12⟩:=q75 h1;have HV:=Lib.hid hv;have HF:=Lib.hid hf;have HG:=Lib.hid hgl;clear hv hf hgl hck
  go_enter func278,ntmps278
  go_wp2_with fail
  rw[<-hW0];refine keyC.mono ?_;rintro e w1 ⟨rfl,hb1⟩;have B1:Below w.heap.size w w1:=hb0.trans (hb1.mono hb0.size);have g1:=(hb1.block _ (qOR.1 h1).1).trans h1;have g2:=(hb1.block _ (qOR.1 h2).1).trans h2;have hs1:w.heap.size+1+1<=w1.heap.size:=by have:=hb1.size;omega
  clear keyC h1 h2 c10 c11 c12 hW0 hb0 hb1 hs0;clear W0;obtain⟨c10,c11,c12⟩:=q75 g1
  go_wp2_with fail
  refine(qLL n hn w1).mono ?_;rintro e w2 ⟨vo,rfl,hb2,hou⟩;obtain⟨ao,no,co,rfl⟩:=q7e hou;have B2:Below w.heap.size w w2:=B1.trans (hb2.mono B1.size);have k1:=(hb2.block _ (qOR.1 g1).1).trans g1;have k2:=(hb2.block _ (qOR.1 g2).1).trans g2;have hs2:w.heap.size+1+1<=w2.heap.size:=by have:=hb2.size;omega
  clear g1 g2 c10 c11 c12;obtain⟨c10,c11,c12⟩:=q75 k1;have HU:=Lib.hid hou;clear hou hb2;have B3:Below w2.heap.size w2 (w2.alloc (.cells #[.int .i64 n,.int .i64 n,.slice ao no co] 370)):=(Below.refl _ w2).alloc (qON _) _;have l1:=(B3.block _ (qOR.1 k1).1).trans k1;have l2:=(B3.block _ (qOR.1 k2).1).trans k2;obtain⟨d10,d11,d12⟩:=q75 l1
  go_wp2_with fail
  obtain⟨W3,hW3⟩:∃W3,W3=w2.alloc (.cells #[.int .i64 n,.int .i64 n,.slice ao no co] 370):=⟨_,rfl⟩;have m5:W3.heap[w2.heap.size]?=some (.cells #[.int .i64 n,.int .i64 n,.slice ao no co] 370 (0,0)):=by rw[hW3];exact heap_alloc_new _ _
  have hs3:W3.heap.size=w2.heap.size+1:=by rw[hW3,jf]
  rw[<-hW3] at B3 l1 l2 d10 d11 d12 ⊢;clear hW3 c10 c11 c12;have B13:Below w.heap.size w W3:=B2.trans (B3.mono B2.size);have keyE:=qNk ml dv sb gl n hn F qnE (.slice a0 l0 c0) w2.heap.size w.heap.size W3 (fun w' hw'=>HG.out w' (B13.trans (hw'.mono B13.size))) hml hdv hsb
    (fun h=>by obtain⟨ab,ao,cap,q1,q2,q3⟩:=HV.out h;exact⟨ab,ao,cap,q1,q2,fun i k hi hk=>by rw[B13.cell (qPW w _ (q3 i k hi hk))];exact q3 i k hi hk⟩)
    (fun h=>by
      have ho3:=q0Q HU.out B3;obtain⟨g,c,q1,_,_,_⟩:=qhx ho3 (Nat.mul_pos h h);have hcap:n*n<=c:=by
        rcases ho3.2 with⟨z,_⟩|⟨g',cap',cur,z,_,_,z2,_⟩
        · rw[q1] at z;cases z
        · rw[q1] at z;cases z;exact z2
      refine⟨g,c,by rw[<-q1];exact(q75 m5).2.2,hcap,fun i k hi hk=>?_⟩;rw[q1] at ho3;have hik:i*n+k<n*n:=by have:=qPb n (show i+1<=n by omega);rw[qP2] at this;omega
      rw[ho3.cellAt (i*n+k) (by omega),qOU,qC5 qnE n n i k hi hk];rfl)
    d10 fin HF.out
  refine keyE.mono ?_;rintro e w4 ⟨S,rfl,⟨vR,vL,H,hS⟩,hb4⟩;have B4:Below w.heap.size w w4:=B13.trans (hb4.mono B13.size);have k1:=(hb4.block _ (qOR.1 l1).1).trans l1;have k2:=(hb4.block _ (qOR.1 l2).1).trans l2;have hs4:w2.heap.size+1<=w4.heap.size:=by have:=hb4.size;omega
  have B5:Below w4.heap.size w4 (w4.alloc (.cells #[.pointer (some ⟨S,0,none⟩)] 420)):=(Below.refl _ w4).alloc (qON _) _;have HS:=Lib.hid (hS.grow B5);have l1:=(B5.block _ (qOR.1 k1).1).trans k1;have l2:=(B5.block _ (qOR.1 k2).1).trans k2;clear keyE HU HV HF HG hS k1 k2 d10 d11 d12 m5;obtain⟨vl0,vlc,rfl⟩:=qFo HS.out.own;obtain⟨d10,d11,d12⟩:=q75 l1;have s3:=HS.out.cell.2.2.2.1
  go_wp2_with fail
  go_big_region
  have B6:Below w4.heap.size w4 (w4.alloc (.cells #[.pointer (some ⟨S,0,none⟩)] 420)).drew:=B5.drew;have n6:=qyA w4 (.pointer (some ⟨S,0,none⟩)) 420;have SZ:(w4.alloc (.cells #[.pointer (some ⟨S,0,none⟩)] 420)).heap.size=w4.heap.size+1:=jf _ _;obtain⟨W6,hW6⟩:∃W6,W6=(w4.alloc (.cells #[.pointer (some ⟨S,0,none⟩)] 420)).drew:=⟨_,rfl⟩;have l1:W6.heap[w.heap.size]?=some (.cells #[.int .i64 n,.int .i64 n,.slice a0 l0 c0] 370 (0,0)):=by rw[hW6];exact l1
  have l2:W6.heap[w.heap.size+1]?=some (.cells #[.int .i64 0,.int .i64 0,.slice none 0 0] 370 (0,0)):=by rw[hW6];exact l2
  have n6:W6.cell? ⟨w4.heap.size,0,none⟩=some (.pointer (some ⟨S,0,none⟩)):=by rw[hW6];exact n6
  have SZ:W6.heap.size=w4.heap.size+1:=by rw[hW6];exact SZ
  have HS:=Lib.hid (HS.out.grow (Below.refl _ _).drew);rw[<-hW6] at B6 HS ⊢;clear hW6 B5 d10 d11 d12 s3;have B7:Below w.heap.size w W6:=B4.trans (B6.mono B4.size);obtain⟨d10,d11,d12⟩:=q75 l1;obtain⟨d20,d21,d22⟩:=q75 l2;have f20:=frozen_of_row W6 (w.heap.size+1) 0 _ 370 l2;have f21:=frozen_of_row W6 (w.heap.size+1) 1 _ 370 l2;have f22:=frozen_of_row W6 (w.heap.size+1) 2 _ 370 l2;have hle:w.heap.size<=w.heap.size+1:=by omega
  by_cases hl:fin.lead.length<n
  · have hl2:((fin.lead.length:Int)<(n:Int)):=by omega
    go_wp2_with fail
    refine bodyPost_ret (by simp[results,results278,go_sem, *];try rfl) rfl ?_;exact⟨((B7.setCell (p:=⟨w.heap.size+1,0,none⟩) hle _).setCell (p:=⟨w.heap.size+1,1,none⟩) hle _).setCell (p:=⟨w.heap.size+1,2,none⟩) hle _,.inl ⟨hl,rfl⟩⟩
  · have hl2:¬((fin.lead.length:Int)<(n:Int)):=by omega
    have keyM:=qH6 332 (u9 func332 (by kernel_rfl) (by kernel_rfl)) #[.pointer (some ⟨w4.heap.size,0,none⟩),.pointer (some ⟨w.heap.size,0,none⟩)] n n hn hn (fun i k=>q8T fin.Z i (n+k)) W6 (fun i k w' hi hk hb =>
      (qO4 w4.heap.size w.heap.size S n w' (by rw[hb.cell (qPW W6 _ n6)];exact n6) (by rw[hb.cell (qPW W6 _ d11)];exact d11) (HS.out.grow hb) hn i k hi hk).mono
        fun e w'' h=>⟨h.1,by rw[h.2];exact(Below.refl _ _).drew⟩)
    go_wp2_with fail
    refine keyM.mono ?_;rintro e w7 ⟨v,rfl,hb7,ho7⟩;obtain⟨a7,n7,c7,rfl⟩:=q7e ho7;have q2:=(hb7.block _ (qOR.1 l2).1).trans l2;obtain⟨e20,e21,e22⟩:=q75 q2;have f20:=frozen_of_row w7 (w.heap.size+1) 0 _ 370 q2;have f21:=frozen_of_row w7 (w.heap.size+1) 1 _ 370 q2;have f22:=frozen_of_row w7 (w.heap.size+1) 2 _ 370 q2;clear keyM d10 d11 d12 d20 d21 d22
    go_wp2_with fail
    refine bodyPost_ret (by simp[results,results278,go_sem, *];try rfl) rfl ?_;have hn0:(Value.slice a7 n7 c7).ownBlock≠some (w.heap.size+1):=fun hv=>by obtain⟨c',hc'⟩:=zc ho7 hv;exact qdP q2 hc' (by decide) rfl
    exact⟨(((B7.trans (hb7.mono B7.size)).setCell (p:=⟨w.heap.size+1,0,none⟩) hle _).setCell (p:=⟨w.heap.size+1,1,none⟩) hle _).setCell (p:=⟨w.heap.size+1,2,none⟩) hle _,
      .inr ⟨by omega,_,rfl,qB (qB (qB (q63 ho7 B7.size) hn0 _) hn0 _) hn0 _⟩⟩
end Go.Eng

namespace Go.Eng
open Go.RowKit Go.Proofs
open Tryz
def qMl(t:TR):Bool:=match t.run with
 | some (0,[.i e])=>decide (e=0)
 | _=>false
theorem qJy{t:TR}(h:qMl t=true):t.run=some (0,[.i 0]):=by
 unfold qMl at h;split at h
 ·rename_i e he;have:e=0:=by simpa using h
  subst this;exact he
 ·cases h
def qMe(ck ml dv sb:List PV->TR):List PV->TR
 | [.i r,.i c,.r l]=>if r=c/\0<=r/\r<=16/\l.length=r.toNat*r.toNat/\qMl (ck [.i r,.i c,.r l])=true then
   (match qzE (opF ml) (opF dv) (opF sb) r.toNat r.toNat (2*r.toNat) r.toNat ⟨(List.range r.toNat).map (row0 (fun i k=>cS l ((i*r.toNat+k:Nat):Int) 0) qnE r.toNat),[49],[],0⟩ with
   | some fin=>if fin.lead.length<r.toNat then .leaf (0,[.i 0,.i 0,.r [],.i 14]) else .leaf (0,[.i r,.i r,.r ((mkL (fun i k=>q8T fin.Z i (r.toNat+k)) r.toNat r.toNat).map fun x=>[.s x]),.i 0])
   | none=>.fail) else .fail
 | _=>.fail
theorem qIJ{ps:List PV}(h:ps.map PV.kind=[.i,.i,.r]):∃a b c,ps=[.i a,.i b,.r c]:=by
 match ps,h with
 | [.i a,.i b,.r c],_=>exact⟨a,b,c,rfl⟩
theorem qJJ{T:List PV->TR}{a b:Int}{l:R}(h:(T [.i a,.i b,.r l]).run=some (0,[.i 0])) :(q9 ⟨[.agg [.int .i64,.int .i64,.imm [.str]]],[]⟩ [⟨.int .i64,[],none⟩] T [.agg [.int .i64 a,.int .i64 b,.imm [.str] l]] []).run=some (.int .i64 0,[]):=by unfold q9;have ht:(FIn.mk [.agg [.int .i64,.int .i64,.imm [.str]]] []).take [.agg [.int .i64 a,.int .i64 b,.imm [.str] l]] []=some [.i a,.i b,.r l]:=rfl;rw[ht];simp only[Tree.run,okR,h,qQZ];simp[qGP,FOut.kinds,AP.kinds,BP.kindsL,qpe,gI,pR,h,PV.toI,FOut.make,AP.make,BP.makeL,Tree.run]
theorem qEC{w:World}{B:Nat}{e:TypeId}{M:Nat->Prop}{v:Value}{n:Nat}{xs:List Bs}(h:w.ownsRow B e 1 v n (xs.map q0e))(hM:∀b,v.ownBlock=some b->M b):qhB w M [.str] (xs.map fun x=>[U.s x]) v:=by
 have hl:xs.length=n:=by have:=h.1;rw[qOV] at this;omega
 rcases h.2 with⟨rfl,h0⟩|⟨g,cap,cur,rfl,_,_,hc,_⟩
 ·exact .inl ⟨rfl,qQi (by rw[qOV];omega)⟩
 ·refine .inr ⟨⟨g,0,none⟩,cap,by rw[qOV,hl],fun _=>rfl,by rw[qOV,hl];exact hc,fun r j hj hr=>?_⟩;have hj0:j=0:=by simp at hj;exact hj
  subst hj0;rw[qOV] at hr;refine⟨hM g rfl,q0e xs[r],?_,?_⟩
  ·have:=h.cellAt r (by omega);rw[qOU,qOS hr] at this;simpa using this
  ·have:RepU w M .str (U.s xs[r]) (q0e xs[r]):=.str (U.s xs[r]);have e:zJ (xs.map fun x=>[U.s x]) (r:Int) 0=U.s xs[r]:=by simp[zJ,hr]
   rw[e];exact this
theorem qJa{X:Ctx}{a b:Int}{l:R}{vargs:List Value}(h:RepL X [.agg [.int .i64 a,.int .i64 b,.imm [.str] l]] vargs):∃v,vargs=[.agg #[.int .i64 a,.int .i64 b,v]]/\qhB X.w X.M [.str] l v:=by
 cases h with
 | cons h1 t=>
  cases t;cases h1 with
  | agg _ vs h2=>
   cases h2 with
   | cons q1 t1=>
    cases q1;cases t1 with
    | cons q2 t2=>
     cases q2;cases t2 with
     | cons q3 t3=>
      cases t3;cases q3 with
      | imm _ _ _ hv=>exact⟨_,rfl,hv⟩
theorem qGh{gl:List (Nat×AV)}{ck ml dv sb:List PV->TR}(hck:qz prog gl 328 (q9 ⟨[.agg [.int .i64,.int .i64,.imm [.str]]],[]⟩ [⟨.int .i64,[],none⟩] ck))(hml:qz prog gl 77 (q9 ⟨[.str,.str],[]⟩ [⟨.tuple [.str,.int .i64],[],none⟩] ml)) (hdv:qz prog gl 315 (q9 ⟨[.str,.str],[]⟩ [⟨.tuple [.str,.int .i64],[],none⟩] dv))(hsb:qz prog gl 210 (q9 ⟨[.str,.str],[]⟩ [⟨.tuple [.str,.int .i64],[],none⟩] sb)) :qz prog gl 278 (q9 ⟨[.agg [.int .i64,.int .i64,.imm [.str]]],[]⟩ [⟨.tuple [.agg [.int .i64,.int .i64,.imm [.str]],.int .i64],[],none⟩] (qMe ck ml dv sb)):=by
 refine qI7 (u9 func278 (by kernel_rfl) (by kernel_rfl)) rfl fun B X ps j qs vargs hs hgl hX ha hk hT=>?_;obtain⟨r,c,l,rfl⟩:=qIJ hk;have ha:RepL X [.agg [.int .i64 r,.int .i64 c,.imm [.str] l]] vargs:=ha;simp only[qMe] at hT;split at hT
 ·rename_i hc;obtain⟨rfl,hr0,hr16,hl,hok⟩:=hc;obtain⟨n,rfl⟩:∃n:Nat,r=(n:Int):=⟨r.toNat,by omega⟩;rw[qOX] at hT hl;split at hT
  ·rename_i fin hf;obtain⟨v,rfl,hv⟩:=qJa ha;have hgY:∀w',Below X.w.heap.size X.w w'->q4x gl (qJg w' X.y):=fun w' hb=>qO3 hs hX hgl hb;have op:∀{f:FuncId} {T:List PV->TR},qz prog gl f (q9 ⟨[.str,.str],[]⟩ [⟨.tuple [.str,.int .i64],[],none⟩] T)->qFz prog (fun w'=>Below X.w.heap.size X.w w') f (opF T):=
    fun hT w' hb a b r h=>qGu hT (hgY w' hb) h
   have key:=qNv (opF ml) (opF dv) (opF sb) (fun w'=>Below X.w.heap.size X.w w') n (by omega) (fun i k=>cS l ((i*n+k:Nat):Int) 0) v X.w (fun _ h=>h) (op hml) (op hdv) (op hsb)
    (fun w' hb=>by
     have m:=qMO hs hX hb;refine(qAx hck (hgY w' hb) (args:=[.agg [.int .i64 n,.int .i64 n,.imm [.str] l]]) (vargs:=[.agg #[.int .i64 n,.int .i64 n,v]]) ?_ (qJJ (qJy hok))).mono ?_
     ·exact ha.ext0 m
     ·rintro e w'' ⟨u,X',rfl,rfl,hu,_,_,hb'⟩;cases hu;exact⟨rfl,hb'⟩)
    (fun hn=>by
     rcases hv with⟨_,h0⟩|⟨a,cap,rfl,hsp,hcap,hrows⟩
     ·rw[h0] at hl;have:=Nat.mul_pos hn hn;simp at hl;omega
     ·have hpos:0<l.length:=by rw[hl];exact Nat.mul_pos hn hn
      obtain⟨ab,ao,sp⟩:=a;have:sp=none:=hsp hpos;subst this;refine⟨ab,ao,cap,by rw[hl],by omega,fun i k hi hk=>?_⟩;have hik:i*n+k<l.length:=by have:=qPb n (show i+1<=n by omega);rw[qP2] at this;omega
      obtain⟨_,u,q1,q2⟩:=hrows (i*n+k) 0 (by simp) hik;cases q2;simp only[List.length_singleton,qQr,qPB] at q1;rw[q1];rfl)
    fin hf (by
     rcases hv with⟨rfl,_⟩|⟨a,cap,rfl,_⟩
     ·exact⟨_,_,_,rfl⟩
     ·exact⟨_,_,_,rfl⟩)
   split at hT
   ·rename_i hlt;cases hT;refine⟨rfl,rfl,key.mono ?_⟩;rintro e w' ⟨hb,⟨_,rfl⟩|⟨h,_⟩⟩
    ·refine⟨_,X.M,rfl,hb,fun _ h=>h,fun _ h=>.inl h,?_⟩;exact .tuple _ [_,_] (.cons (.agg _ [_,_,_] (.cons (.int _ _) (.cons (.int _ _) (.cons (.imm _ _ _ (.inl ⟨rfl,rfl⟩)) .nil)))) (.cons (.int _ _) .nil))
    ·omega
   ·rename_i hge;cases hT;refine⟨rfl,rfl,key.mono ?_⟩;rintro e w' ⟨hb,⟨h,_⟩|⟨_,u,rfl,ho⟩⟩
    ·exact absurd h hge
    ·refine⟨_,fun m=>X.M m\/u.ownBlock=some m,rfl,hb,fun _ h=>.inl h,fun m h=>?_,?_⟩
     ·rcases h with h|h
      ·exact .inl h
      ·exact .inr (ho.lt m h)
     ·exact .tuple _ [_,_] (.cons (.agg _ [_,_,_] (.cons (.int _ _) (.cons (.int _ _) (.cons (.imm _ _ _ (qEC ho fun b hb=>.inr hb)) .nil)))) (.cons (.int _ _) .nil))
  ·cases hT
 ·cases hT
end Go.Eng

namespace Go.Eng
open Go.Proofs
open Tryz
noncomputable def qi6:List (TypeId×TI):=[(1,(.mk .func 1 [.nilFunc] 8 false false)),(2,(.mk (.int .i64) 1 [(.int .i64 0)] 8 false false)),(3,(.mk (.int .i64) 1 [(.int .i64 0)] 8 false false)),(4,(.mk .bool 1 [(.bool false)] 1 false false)),(5,(.mk (.int .u8) 1 [(.int .u8 0)] 1 false false)),(6,(.mk (.int .u8) 1 [(.int .u8 0)] 1 false false)),(7,(.mk (.struct [(0,(2,1)),(1,(3,1)),(2,(4,1)),(3,(6,1))]) 4 [(.int .i64 0),(.int .i64 0),(.bool false),(.int .u8 0)] 24 true true)),(8,(.mk (.struct [(0,(2,1)),(1,(3,1)),(2,(4,1)),(3,(6,1))]) 4 [(.int .i64 0),(.int .i64 0),(.bool false),(.int .u8 0)] 24 true true)),(9,(.mk .str 1 [(.string (.mk (.mk [])))] 16 false false)),(10,(.mk .str 1 [(.string (.mk (.mk [])))] 16 false false)),(11,(.mk .str 1 [(.string (.mk (.mk [])))] 16 false false)),(12,(.mk (.int .u64) 1 [(.int .u64 0)] 8 false false)),(13,(.mk (.struct [(0,(9,1)),(1,(12,1))]) 2 [(.string (.mk (.mk []))),(.int .u64 0)] 24 false true)),(14,(.mk (.struct [(0,(9,1)),(1,(12,1))]) 2 [(.string (.mk (.mk []))),(.int .u64 0)] 24 false true)),(16,(.mk (.ptr 507) 1 [(.pointer .none)] 8 false false)),(17,(.mk (.ptr 515) 1 [(.pointer .none)] 8 false false)),(18,(.mk (.struct [(0,(17,1))]) 1 [(.pointer .none)] 8 false true)),(24,(.mk (.struct [(0,(3,1)),(1,(3,1))]) 2 [(.int .i64 0),(.int .i64 0)] 16 true true)),(25,(.mk (.int .i64) 1 [(.int .i64 0)] 8 false false)),(29,(.mk (.slice 34 5) 1 [(.slice .none 0 0)] 24 false false)),(30,(.mk (.slice 36 2) 1 [(.slice .none 0 0)] 24 false false)),(32,(.mk (.struct [(0,(29,1)),(1,(30,1)),(2,(24,2))]) 4 [(.slice .none 0 0),(.slice .none 0 0),(.int .i64 0),(.int .i64 0)] 64 true true)),(34,(.mk (.struct [(0,(9,1)),(1,(9,1)),(2,(3,1)),(3,(24,2))]) 5 [(.string (.mk (.mk []))),(.string (.mk (.mk []))),(.int .i64 0),(.int .i64 0),(.int .i64 0)] 56 true true)),(36,(.mk (.struct [(0,(3,1)),(1,(4,1))]) 2 [(.int .i64 0),(.bool false)] 16 true true)),(38,(.mk (.slice 3 1) 1 [(.slice .none 0 0)] 24 false false)),(44,(.mk (.slice 71 3) 1 [(.slice .none 0 0)] 24 false false)),(45,(.mk (.struct [(0,(3,1)),(1,(44,1)),(2,(44,1))]) 3 [(.int .i64 0),(.slice .none 0 0),(.slice .none 0 0)] 56 true true)),(46,(.mk (.struct [(0,(3,1)),(1,(44,1)),(2,(44,1))]) 3 [(.int .i64 0),(.slice .none 0 0),(.slice .none 0 0)] 56 true true)),(47,(.mk .func 1 [.nilFunc] 8 false false)),(48,(.mk (.struct [(0,(3,1)),(1,(44,1)),(2,(44,1))]) 3 [(.int .i64 0),(.slice .none 0 0),(.slice .none 0 0)] 56 true true)),(49,(.mk .func 1 [.nilFunc] 8 false false)),(51,(.mk .func 1 [.nilFunc] 8 false false)),(52,(.mk .func 1 [.nilFunc] 8 false false)),(54,(.mk .func 1 [.nilFunc] 8 false false)),(55,(.mk .func 1 [.nilFunc] 8 false false)),(56,(.mk .func 1 [.nilFunc] 8 false false)),(57,(.mk .func 1 [.nilFunc] 8 false false)),(58,(.mk (.slice 68 2) 1 [(.slice .none 0 0)] 24 false false)),(64,(.mk .func 1 [.nilFunc] 8 false false)),(66,(.mk (.slice 73 6) 1 [(.slice .none 0 0)] 24 false false)),(68,(.mk (.struct [(0,(3,1)),(1,(3,1))]) 2 [(.int .i64 0),(.int .i64 0)] 16 true true)),(71,(.mk (.struct [(0,(3,1)),(1,(3,1)),(2,(3,1))]) 3 [(.int .i64 0),(.int .i64 0),(.int .i64 0)] 24 true true)),(73,(.mk (.struct [(0,(71,3)),(3,(71,3))]) 6 [(.int .i64 0),(.int .i64 0),(.int .i64 0),(.int .i64 0),(.int .i64 0),(.int .i64 0)] 48 true true)),(77,(.mk (.slice 168 6) 1 [(.slice .none 0 0)] 24 false false)),(96,(.mk (.array 3 3 1) 3 [(.int .i64 0),(.int .i64 0),(.int .i64 0)] 24 false false)),(97,(.mk .func 1 [.nilFunc] 8 false false)),(99,(.mk .func 1 [.nilFunc] 8 false false)),(100,(.mk (.int .u16) 1 [(.int .u16 0)] 2 false false)),(101,(.mk .func 1 [.nilFunc] 8 false false)),(103,(.mk (.struct [(0,(3,1)),(1,(58,1))]) 2 [(.int .i64 0),(.slice .none 0 0)] 32 true true)),(104,(.mk (.slice 103 2) 1 [(.slice .none 0 0)] 24 false false)),(105,(.mk .func 1 [.nilFunc] 8 false false)),(108,(.mk .str 1 [(.string (.mk (.mk [])))] 16 false false)),(109,(.mk .func 1 [.nilFunc] 8 false false)),(110,(.mk (.struct [(0,(108,1)),(1,(108,1))]) 2 [(.string (.mk (.mk []))),(.string (.mk (.mk [])))] 32 true true)),(111,(.mk (.struct [(0,(108,1)),(1,(108,1))]) 2 [(.string (.mk (.mk []))),(.string (.mk (.mk [])))] 32 true true)),(112,(.mk .func 1 [.nilFunc] 8 false false)),(115,(.mk .func 1 [.nilFunc] 8 false false)),(116,(.mk .func 1 [.nilFunc] 8 false false)),(120,(.mk .func 1 [.nilFunc] 8 false false)),(121,(.mk (.struct [(0,(3,1)),(1,(3,1)),(2,(3,1))]) 3 [(.int .i64 0),(.int .i64 0),(.int .i64 0)] 24 true true)),(128,(.mk .func 1 [.nilFunc] 8 false false)),(145,(.mk (.array 2 44 1) 2 [(.slice .none 0 0),(.slice .none 0 0)] 48 false false)),(147,(.mk (.array 2 3 1) 2 [(.int .i64 0),(.int .i64 0)] 16 false false)),(149,(.mk .func 1 [.nilFunc] 8 false false)),(162,(.mk (.struct [(0,(3,1)),(1,(3,1))]) 2 [(.int .i64 0),(.int .i64 0)] 16 true true)),(167,(.mk .func 1 [.nilFunc] 8 false false)),(168,(.mk (.struct [(0,(71,3)),(3,(71,3))]) 6 [(.int .i64 0),(.int .i64 0),(.int .i64 0),(.int .i64 0),(.int .i64 0),(.int .i64 0)] 48 true true)),(179,(.mk (.struct [(0,(111,2)),(2,(108,1)),(3,(108,1))]) 4 [(.string (.mk (.mk []))),(.string (.mk (.mk []))),(.string (.mk (.mk []))),(.string (.mk (.mk [])))] 64 true true)),(183,(.mk .str 1 [(.string (.mk (.mk [])))] 16 false false)),(188,(.mk .func 1 [.nilFunc] 8 false false)),(191,(.mk .func 1 [.nilFunc] 8 false false)),(208,(.mk .func 1 [.nilFunc] 8 false false)),(209,(.mk .func 1 [.nilFunc] 8 false false)),(211,(.mk (.array 3 108 1) 3 [(.string (.mk (.mk []))),(.string (.mk (.mk []))),(.string (.mk (.mk [])))] 48 false false)),(212,(.mk (.slice 108 1) 1 [(.slice .none 0 0)] 24 false false)),(214,(.mk (.struct [(0,(211,3)),(3,(108,1)),(4,(212,1))]) 5 [(.string (.mk (.mk []))),(.string (.mk (.mk []))),(.string (.mk (.mk []))),(.string (.mk (.mk []))),(.slice .none 0 0)] 88 true true)),(220,(.mk (.ptr 227) 1 [(.pointer .none)] 8 false false)),(227,(.mk (.struct [(0,(25,1))]) 1 [(.int .i64 0)] 8 true true)),(232,(.mk (.slice 183 1) 1 [(.slice .none 0 0)] 24 false false)),(238,(.mk (.struct [(0,(3,1)),(1,(3,1)),(2,(3,1))]) 3 [(.int .i64 0),(.int .i64 0),(.int .i64 0)] 24 true true)),(243,(.mk (.slice 58 1) 1 [(.slice .none 0 0)] 24 false false)),(245,(.mk (.struct [(0,(3,1)),(1,(3,1))]) 2 [(.int .i64 0),(.int .i64 0)] 16 true true)),(248,(.mk (.ptr 250) 1 [(.pointer .none)] 8 false false)),(250,(.mk (.struct [(0,(25,1))]) 1 [(.int .i64 0)] 8 true true)),(254,(.mk .func 1 [.nilFunc] 8 false false)),(255,(.mk .func 1 [.nilFunc] 8 false false)),(258,(.mk (.struct [(0,(68,2)),(2,(68,2))]) 4 [(.int .i64 0),(.int .i64 0),(.int .i64 0),(.int .i64 0)] 32 true true)),(277,(.mk .func 1 [.nilFunc] 8 false false)),(278,(.mk .func 1 [.nilFunc] 8 false false)),(282,(.mk .func 1 [.nilFunc] 8 false false)),(284,(.mk .func 1 [.nilFunc] 8 false false)),(285,(.mk .func 1 [.nilFunc] 8 false false)),(293,(.mk (.slice 38 1) 1 [(.slice .none 0 0)] 24 false false)),(305,(.mk (.slice 5 1) 1 [(.slice .none 0 0)] 24 false false)),(306,(.mk .func 1 [.nilFunc] 8 false false)),(307,(.mk .func 1 [.nilFunc] 8 false false)),(311,(.mk .func 1 [.nilFunc] 8 false false)),(327,(.mk .func 1 [.nilFunc] 8 false false)),(336,(.mk (.ptr 384) 1 [(.pointer .none)] 8 false false)),(342,(.mk (.slice 212 1) 1 [(.slice .none 0 0)] 24 false false)),(350,(.mk .func 1 [.nilFunc] 8 false false)),(351,(.mk (.ptr 103) 1 [(.pointer .none)] 8 false false)),(370,(.mk (.struct [(0,(3,1)),(1,(3,1)),(2,(212,1))]) 3 [(.int .i64 0),(.int .i64 0),(.slice .none 0 0)] 40 true true)),(382,(.mk (.array 232 3 1) 232 (List.replicate 232 (.int .i64 0)) 1856 false false)),(384,(.mk (.struct [(0,(4,1)),(1,(3,1)),(2,(382,232))]) 234 (List.append [(.bool false)] (List.replicate 233 (.int .i64 0))) 1872 true true)),(400,(.mk (.int .u64) 1 [(.int .u64 0)] 8 false false)),(417,(.mk .func 1 [.nilFunc] 8 false false)),(425,(.mk (.struct [(0,(25,1))]) 1 [(.int .i64 0)] 8 true true)),(429,(.mk (.ptr 425) 1 [(.pointer .none)] 8 false false)),(456,(.mk (.array 20 400 1) 20 [(.int .u64 0),(.int .u64 0),(.int .u64 0),(.int .u64 0),(.int .u64 0),(.int .u64 0),(.int .u64 0),(.int .u64 0),(.int .u64 0),(.int .u64 0),(.int .u64 0),(.int .u64 0),(.int .u64 0),(.int .u64 0),(.int .u64 0),(.int .u64 0),(.int .u64 0),(.int .u64 0),(.int .u64 0),(.int .u64 0)] 160 false false)),(464,(.mk .func 1 [.nilFunc] 8 false false))]
noncomputable def qa:List (Nat×AV):=[(2,(.eptr [.int .u64,.int .u64,.int .u64,.int .u64,.int .u64,.int .u64,.int .u64,.int .u64,.int .u64,.int .u64,.int .u64,.int .u64,.int .u64,.int .u64,.int .u64,.int .u64,.int .u64,.int .u64,.int .u64,.int .u64] [[.i 1,.i 10,.i 100,.i 1000,.i 10000,.i 100000,.i 1000000,.i 10000000,.i 100000000,.i 1000000000,.i 10000000000,.i 100000000000,.i 1000000000000,.i 10000000000000,.i 100000000000000,.i 1000000000000000,.i 10000000000000000,.i 100000000000000000,.i 1000000000000000000,.i 10000000000000000000]] 0 0))]
theorem q8:qi6.map (fun x=>qBr prog x.1)=qi6.map (·.2):=by kernel_rfl
theorem qc:prog.follows .mixedOrders=true:=by kernel_rfl
noncomputable def qe(s:List (FuncId×(List AV->List Blk->Tree (AV×List Blk))))(b:List (FuncId×Func))(l:List ((FuncId×Nat)×(St->Tree (Ex×St))))(n:Nat):Env:=⟨qi6,qa,s,b,l,n,[],[],[]⟩
def q6H:FIn:=⟨[(.int .i64)],[]⟩
def q72:List FOut:=[⟨.bool,[],none⟩]
noncomputable def qjV:=qe [] [(149,f149)] [] 0
noncomputable def qU:=qk qjV 149 f149 true q6H q72
theorem qdW:qz prog qa 149 (q9 q6H q72 qU):=sk qjV qc q8 aln aln (b1 func149) func149
def q10:FIn:=⟨[(.agg [(.int .i64),(.int .i64),(.int .i64)])],[]⟩
def q1p:List FOut:=[⟨.bool,[],none⟩]
noncomputable def qpv:=qe [(149,q9 q6H q72 qU)] [(126,f126)] [] 0
noncomputable def yt:=qk qpv 126 f126 true q10 q1p
theorem q1C:qz prog qa 126 (q9 q10 q1p yt):=sk qpv qc q8 (alc qdW aln) aln (b1 func126) func126
def km:FIn:=⟨[(.fn 126 [] []),(.imm [(.int .i64),(.int .i64),(.int .i64)])],[]⟩
def ko:List FOut:=[⟨(.int .i64),[],none⟩]
def q0W:Tmpl:={ t:=((.fn 126 [] [])::qm 6 ((.imm [(.int .i64),(.int .i64),(.int .i64)])::(.int .i64)::(.int .i64)::qm 8 [])),h:=[] }
def q1m:List Out:=[⟨(.exit 0),{ t:=(qm 18 []),h:=[] }⟩,⟨.ret,{ t:=(qm 4 ((.int .i64)::qm 13 [])),h:=[] }⟩]
noncomputable def yB:=qe [(126,q9 q10 q1p yt)] [(150,f150)] [] 0
noncomputable def zr:=z8 yB 150 f150 3 q0W q1m
theorem qdL:qj prog qa yB.nimp (qp prog yB.iter 150) (qI f150 3) (qh q0W q1m (qf zr)):=gk yB qc q8 (alc q1C aln) aln (b1 func150) func150
noncomputable def q9C:=qe [(126,q9 q10 q1p yt)] [(150,f150)] [((150,3),qh q0W q1m (qf zr))] 0
noncomputable def zo:=qk q9C 150 f150 true km ko
theorem q6g:qz prog qa 150 (q9 km ko zo):=sk q9C qc q8 (alc q1C aln) (alc (lk func150 qdL) aln) (b1 func150) func150
def kU:FIn:=⟨[(.imm [(.int .i64),(.int .i64),(.int .i64)]),(.fn 126 [] [])],[]⟩
def kP:List FOut:=[⟨(.int .i64),[],none⟩]
noncomputable def q4w:=qe [(126,q9 q10 q1p yt),(150,q9 km ko zo)] [(125,f125)] [] 0
noncomputable def wD:=qk q4w 125 f125 true kU kP
theorem qbn:qz prog qa 125 (q9 kU kP wD):=sk q4w qc q8 (alc q1C (alc q6g aln)) aln (b1 func125) func125
def q1b:FIn:=⟨[(.imm [(.int .i64),(.int .i64),(.int .i64)])],[]⟩
def q16:List FOut:=[⟨(.int .i64),[],none⟩]
noncomputable def qdz:=qe [(125,q9 kU kP wD),(126,q9 q10 q1p yt)] [(72,f72)] [] 0
noncomputable def wQ:=qk qdz 72 f72 true q1b q16
theorem q7U:qz prog qa 72 (q9 q1b q16 wQ):=sk qdz qc q8 (alc qbn (alc q1C aln)) aln (b1 func72) func72
def yj:FIn:=⟨[(.agg [(.int .i64),(.int .i64),(.int .i64)]),(.ptr 0 0)],[.cells [(.int .i64)]]⟩
def yh:List FOut:=[⟨(.int .i64),[.cells [(.int .i64)]],none⟩]
noncomputable def qaQ:=qe [] [(127,f127)] [] 1
noncomputable def qG:=qk qaQ 127 f127 true yj yh
theorem q1r:qz prog qa 127 (q9 yj yh qG):=sk qaQ qc q8 aln aln (b1 func127) func127
def q0E:FIn:=⟨[(.imm [(.int .i64),(.int .i64),(.int .i64)]),(.fn 127 [] [(.ptr 0 0)])],[.cells [(.int .i64)]]⟩
def q0i:List FOut:=[⟨(.agg [(.int .i64),(.int .i64)]),[.cells [(.int .i64)]],none⟩]
def uO:Tmpl:={ t:=((.imm [(.int .i64),(.int .i64),(.int .i64)])::(.fn 127 [] [(.ptr 0 0)])::.any::.any::(.ptr 1 0)::(.ptr 2 0)::.any::.any::(.imm [(.int .i64),(.int .i64),(.int .i64)])::(.int .i64)::(.int .i64)::qm 32 []),h:=[.cells [(.int .i64)],.cells [(.int .i64),(.int .i64)],.cells [(.int .i64),(.int .i64)]] }
def uF:List Out:=[⟨(.exit 0),{ t:=(qm 4 ((.ptr 1 0)::(.ptr 2 0)::qm 37 [])),h:=[.cells [(.int .i64)],.cells [(.int .i64),(.int .i64)],.cells [(.int .i64),(.int .i64)]] }⟩]
noncomputable def j6:=qe [(127,q9 yj yh qG)] [(128,f128)] [] 1
noncomputable def zp:=z8 j6 128 f128 4 uO uF
theorem q9L:qj prog qa j6.nimp (qp prog j6.iter 128) (qI f128 4) (qh uO uF (qf zp)):=gk j6 qc q8 (alc q1r aln) aln (b1 func128) func128
noncomputable def q6d:=qe [(127,q9 yj yh qG)] [(128,f128)] [((128,4),qh uO uF (qf zp))] 1
noncomputable def wY:=qk q6d 128 f128 true q0E q0i
theorem qcG:qz prog qa 128 (q9 q0E q0i wY):=sk q6d qc q8 (alc q1r aln) (alc (lk func128 q9L) aln) (b1 func128) func128
def kd:FIn:=⟨[(.imm [(.int .i64),(.int .i64),(.int .i64)]),(.int .i64)],[]⟩
def kp:List FOut:=[⟨(.agg [(.int .i64),(.int .i64)]),[],none⟩]
noncomputable def qdS:=qe [(127,q9 yj yh qG),(128,q9 q0E q0i wY)] [(73,f73)] [] 0
noncomputable def zn:=qk qdS 73 f73 true kd kp
theorem q2R:qz prog qa 73 (q9 kd kp zn):=sk qdS qc q8 (alc q1r (alc qcG aln)) aln (b1 func73) func73
def qeb:FIn:=⟨[(.agg [(.int .i64),(.imm [(.int .i64),(.int .i64),(.int .i64)]),(.imm [(.int .i64),(.int .i64),(.int .i64)])])],[]⟩
def qey:List FOut:=[⟨(.int .i64),[],none⟩]
def qfJ:Tmpl:={ t:=(.any::(.ptr 0 0)::qm 16 ((.agg [(.imm [(.int .i64),(.int .i64),(.int .i64)]),(.imm [(.int .i64),(.int .i64),(.int .i64)])])::(.int .i64)::qm 24 [])),h:=[.cells [(.int .i64),(.imm [(.int .i64),(.int .i64),(.int .i64)]),(.imm [(.int .i64),(.int .i64),(.int .i64)])]] }
def qff:List Out:=[⟨(.exit 0),{ t:=(.any::(.ptr 0 0)::qm 42 []),h:=[.cells [(.int .i64),(.imm [(.int .i64),(.int .i64),(.int .i64)]),(.imm [(.int .i64),(.int .i64),(.int .i64)])]] }⟩,⟨.ret,{ t:=(.any::.any::(.int .i64)::qm 41 []),h:=[] }⟩]
noncomputable def q9a:=qe [(72,q9 q1b q16 wQ),(73,q9 kd kp zn)] [(24,f24)] [] 0
noncomputable def jo:=z8 q9a 24 f24 6 qfJ qff
theorem qre:qj prog qa q9a.nimp (qp prog q9a.iter 24) (qI f24 6) (qh qfJ qff (qf jo)):=gk q9a qc q8 (alc q7U (alc q2R aln)) aln (b1 func24) func24
noncomputable def qs3:=qe [(72,q9 q1b q16 wQ),(73,q9 kd kp zn)] [(24,f24)] [((24,6),qh qfJ qff (qf jo))] 0
noncomputable def kF:=qk qs3 24 f24 true qeb qey
theorem qkE:qz prog qa 24 (q9 qeb qey kF):=sk qs3 qc q8 (alc q7U (alc q2R aln)) (alc (lk func24 qre) aln) (b1 func24) func24
def qbx:FIn:=⟨[(.agg [(.int .i64),(.imm [(.int .i64),(.int .i64),(.int .i64)]),(.imm [(.int .i64),(.int .i64),(.int .i64)])])],[]⟩
def qbg:List FOut:=[⟨(.agg [(.int .i64),(.int .i64)]),[],none⟩]
noncomputable def qpA:=qe [(73,q9 kd kp zn)] [(68,f68)] [] 0
noncomputable def q1a:=qk qpA 68 f68 true qbx qbg
theorem qiU:qz prog qa 68 (q9 qbx qbg q1a):=sk qpA qc q8 (alc q2R aln) aln (b1 func68) func68
def qhC:FIn:=⟨[(.agg [(.int .i64),(.imm [(.int .i64),(.int .i64),(.int .i64)]),(.imm [(.int .i64),(.int .i64),(.int .i64)])]),.bool],[]⟩
def qhj:List FOut:=[⟨(.tuple [(.int .i64),(.int .i64)]),[],none⟩]
noncomputable def qog:=qe [(24,q9 qeb qey kF),(68,q9 qbx qbg q1a)] [(20,f20)] [] 0
noncomputable def q3e:=qk qog 20 f20 true qhC qhj
theorem qsQ:qz prog qa 20 (q9 qhC qhj q3e):=sk qog qc q8 (alc qkE (alc qiU aln)) aln (b1 func20) func20
def qhF:FIn:=⟨[(.agg [(.int .i64),(.imm [(.int .i64),(.int .i64),(.int .i64)]),(.imm [(.int .i64),(.int .i64),(.int .i64)])])],[]⟩
def qhz:List FOut:=[⟨(.tuple [(.agg [(.int .i64),(.int .i64)]),(.int .i64)]),[],none⟩]
noncomputable def qpJ:=qe [(24,q9 qeb qey kF),(68,q9 qbx qbg q1a)] [(22,f22)] [] 0
noncomputable def q6q:=qk qpJ 22 f22 true qhF qhz
theorem qsC:qz prog qa 22 (q9 qhF qhz q6q):=sk qpJ qc q8 (alc qkE (alc qiU aln)) aln (b1 func22) func22
def qmD:FIn:=⟨[(.int .i64)],[]⟩
def qlT:List FOut:=[⟨.str,[],none⟩]
noncomputable def q4D:List PV->TR:=qIn
set_option maxRecDepth 100000 in
theorem qrg:qz prog qa 166 (q9 qmD qlT q4D):=qFJ laysM171 (u9 func166 (by kernel_rfl) (by kernel_rfl)) (by kernel_rfl) (by unfold qa;exact qP8)
def qc4:FIn:=⟨[(.int .i64)],[]⟩
def qc0:List FOut:=[⟨.str,[],none⟩]
noncomputable def qxH:=qe [(166,q9 qmD qlT q4D)] [(105,f105)] [] 0
noncomputable def wB:=qk qxH 105 f105 true qc4 qc0
theorem qbK:qz prog qa 105 (q9 qc4 qc0 wB):=sk qxH qc q8 (alc qrg aln) aln (b1 func105) func105
def q3V:FIn:=⟨[(.int .i64)],[]⟩
def q3O:List FOut:=[⟨.str,[],none⟩]
noncomputable def qoV:=qe [(105,q9 qc4 qc0 wB)] [(53,f53)] [] 0
noncomputable def wN:=qk qoV 53 f53 true q3V q3O
theorem q5f:qz prog qa 53 (q9 q3V q3O wN):=sk qoV qc q8 (alc qbK aln) aln (b1 func53) func53
def q3Z:FIn:=⟨[(.agg [(.int .i64),(.int .i64)])],[]⟩
def q3Q:List FOut:=[⟨.bool,[],none⟩]
noncomputable def qor:=qe [(149,q9 q6H q72 qU)] [(84,f84)] [] 0
noncomputable def kx:=qk qor 84 f84 true q3Z q3Q
theorem q53:qz prog qa 84 (q9 q3Z q3Q kx):=sk qor qc q8 (alc qdW aln) aln (b1 func84) func84
def q2a:FIn:=⟨[(.fn 84 [] []),(.imm [(.int .i64),(.int .i64)])],[]⟩
def q21:List FOut:=[⟨(.int .i64),[],none⟩]
def q0r:Tmpl:={ t:=((.fn 84 [] [])::qm 6 ((.imm [(.int .i64),(.int .i64)])::(.int .i64)::(.int .i64)::qm 8 [])),h:=[] }
def q0G:List Out:=[⟨(.exit 0),{ t:=(qm 18 []),h:=[] }⟩,⟨.ret,{ t:=(qm 4 ((.int .i64)::qm 13 [])),h:=[] }⟩]
noncomputable def jM:=qe [(84,q9 q3Z q3Q kx)] [(83,f83)] [] 0
noncomputable def zb:=z8 jM 83 f83 3 q0r q0G
theorem qdi:qj prog qa jM.nimp (qp prog jM.iter 83) (qI f83 3) (qh q0r q0G (qf zb)):=gk jM qc q8 (alc q53 aln) aln (b1 func83) func83
noncomputable def q7S:=qe [(84,q9 q3Z q3Q kx)] [(83,f83)] [((83,3),qh q0r q0G (qf zb))] 0
noncomputable def j8:=qk q7S 83 f83 true q2a q21
theorem qfB:qz prog qa 83 (q9 q2a q21 j8):=sk q7S qc q8 (alc q53 aln) (alc (lk func83 qdi) aln) (b1 func83) func83
def uI:FIn:=⟨[(.imm [(.int .i64),(.int .i64)]),(.fn 84 [] [])],[]⟩
def uL:List FOut:=[⟨(.int .i64),[],none⟩]
noncomputable def q44:=qe [(83,q9 q2a q21 j8),(84,q9 q3Z q3Q kx)] [(167,f167)] [] 0
noncomputable def w9:=qk q44 167 f167 true uI uL
theorem qa9:qz prog qa 167 (q9 uI uL w9):=sk q44 qc q8 (alc qfB (alc q53 aln)) aln (b1 func167) func167
def qfR:FIn:=⟨[(.imm [(.int .i64),(.int .i64)])],[]⟩
def qeN:List FOut:=[⟨(.int .i64),[],none⟩]
noncomputable def qmG:=qe [(84,q9 q3Z q3Q kx),(167,q9 uI uL w9)] [(106,f106)] [] 0
noncomputable def q4k:=qk qmG 106 f106 true qfR qeN
theorem qqk:qz prog qa 106 (q9 qfR qeN q4k):=sk qmG qc q8 (alc q53 (alc qa9 aln)) aln (b1 func106) func106
def qeV:FIn:=⟨[(.int .i64)],[]⟩
def qeM:List FOut:=[⟨(.int .i64),[],none⟩]
noncomputable def qm7:=qe [] [(183,f183)] [] 0
noncomputable def q4B:=qk qm7 183 f183 true qeV qeM
theorem qqO:qz prog qa 183 (q9 qeV qeM q4B):=sk qm7 qc q8 aln aln (b1 func183) func183
def qfj:FIn:=⟨[(.imm [(.int .i64),(.int .i64)])],[]⟩
def qfs:List FOut:=[⟨(.int .i64),[],none⟩]
noncomputable def qmk:=qe [(106,q9 qfR qeN q4k),(183,q9 qeV qeM q4B)] [(130,f130)] [] 0
noncomputable def q4l:=qk qmk 130 f130 true qfj qfs
theorem qrf:qz prog qa 130 (q9 qfj qfs q4l):=sk qmk qc q8 (alc qqk (alc qqO aln)) aln (b1 func130) func130
def q2b:FIn:=⟨[(.imm [(.int .i64)])],[]⟩
def q25:List FOut:=[⟨(.vec 0),[.vec 3 [(.int .i64)]],none⟩]
noncomputable def qj1:=qe [] [(227,f227)] [] 0
abbrev q5Y:=q2b
abbrev q62:=q25
noncomputable abbrev q5Z:=qj1
noncomputable def q69:=qk q5Z 227 f227 false q5Y q62
theorem qdy:qz prog qa 227 (q9 q5Y q62 q69):=qqL (E:=q5Z) qc ⟨qb0 q8,⟨aln,aln⟩,aln,(b1 func227)⟩ func227 (by kernel_rfl) (by kernel_rfl) (fun _=>rfl)
theorem qf9(x0:R):q69 [.r x0]=(.br (ilt 0 (qg x0)) (.br (ile ((qg [])+(qg x0)) 17592186044416) (.leaf (0,[(.r (zE [] x0))])) .fail) .fail):=by kernel_rfl
def qgq:Go.Shelf.Ren:=⟨fun|41=>227|n=>n,fun|4=>4|22=>38|23=>3|n=>n,fun n=>n⟩
noncomputable def wC:=qIh
theorem qfy:qz prog qa 227 (q9 q2b q25 wC):=qEs (ρ:=qgq) ⟨by kernel_rfl,⟨ "slices.Clone[[]int,int]",by decide,func227.trans (congrArg some (by kernel_rfl))⟩,underlying4,isAgg4,sizeOf4,zeroValue4,underlying38,isAgg38,sizeOf38,zeroValue38,underlying3,isAgg3,sizeOf3,zeroValue3,by kernel_rfl⟩ qdy (qJ1 qf9)
def zK:FIn:=⟨[.str,.str],[]⟩
def zL:List FOut:=[⟨.bool,[],none⟩]
noncomputable def q04:=qe [] [(289,f289)] [] 0
noncomputable def qE:=qk q04 289 f289 true zK zL
theorem uc:qz prog qa 289 (q9 zK zL qE):=sk q04 qc q8 aln aln (b1 func289) func289
def vB:FIn:=⟨[.str,.str],[]⟩
def vS:List FOut:=[⟨.str,[],none⟩]
noncomputable def kg:=qe [(289,q9 zK zL qE)] [(245,f245)] [] 0
noncomputable def qZ:=qk kg 245 f245 true vB vS
theorem q4J:qz prog qa 245 (q9 vB vS qZ):=sk kg qc q8 (alc uc aln) aln (b1 func245) func245
def yg:FIn:=⟨[.str,.str],[]⟩
def yd:List FOut:=[⟨.str,[],none⟩]
noncomputable def qaP:=qe [(245,q9 vB vS qZ)] [(194,f194)] [] 0
noncomputable def qX:=qk qaP 194 f194 true yg yd
theorem q1u:qz prog qa 194 (q9 yg yd qX):=sk qaP qc q8 (alc q4J aln) aln (b1 func194) func194
def qmp:FIn:=⟨[.str,.str],[]⟩
def qmE:List FOut:=[⟨.str,[],none⟩]
noncomputable def q8X:List PV->TR:=qIo
set_option maxRecDepth 100000 in
theorem qqT:qz prog qa 295 (q9 qmp qmE q8X):=qFI lays160 (u9 func295 (by kernel_rfl) (by kernel_rfl)) (by kernel_rfl)
def kh:FIn:=⟨[.str],[]⟩
def kC:List FOut:=[⟨(.int .i64),[],none⟩]
noncomputable def qq3:=qe [(194,q9 yg yd qX),(295,q9 qmp qmE q8X)] [(242,f242)] [] 0
noncomputable def qW:=qk qq3 242 f242 true kh kC
theorem k8:qz prog qa 242 (q9 kh kC qW):=sk qq3 qc q8 (alc q1u (alc qqT aln)) aln (b1 func242) func242
def q2J:FIn:=⟨[(.imm [.str])],[]⟩
def q36:List FOut:=[⟨(.int .i64),[],none⟩]
def qhX:Tmpl:={ t:=(qm 6 ((.imm [.str])::(.int .i64)::(.int .i64)::qm 9 [])),h:=[] }
def qhA:List Out:=[⟨(.exit 0),{ t:=(qm 18 []),h:=[] }⟩,⟨.ret,{ t:=(.any::.any::(.int .i64)::qm 15 []),h:=[] }⟩]
noncomputable def qbf:=qe [(242,q9 kh kC qW)] [(191,f191)] [] 0
noncomputable def q7F:=z8 qbf 191 f191 3 qhX qhA
theorem qsB:qj prog qa qbf.nimp (qp prog qbf.iter 191) (qI f191 3) (qh qhX qhA (qf q7F)):=gk qbf qc q8 (alc k8 aln) aln (b1 func191) func191
noncomputable def quk:=qe [(242,q9 kh kC qW)] [(191,f191)] [((191,3),qh qhX qhA (qf q7F))] 0
noncomputable def we:=qk quk 191 f191 true q2J q36
theorem q1T:qz prog qa 191 (q9 q2J q36 we):=sk quk qc q8 (alc k8 aln) (alc (lk func191 qsB) aln) (b1 func191) func191
def qg0:FIn:=⟨[.str],[]⟩
def qfo:List FOut:=[⟨(.tuple [(.int .i64),.any]),[],none⟩]
noncomputable def js:List PV->TR:=qHl
set_option maxRecDepth 100000 in
theorem qgM:qz prog qa 292 (q9 qg0 qfo js):=qET lays172 (u9 func292 (by kernel_rfl) (by kernel_rfl))
def q6w:FIn:=⟨[.str,.str],[]⟩
def q7t:List FOut:=[⟨(.tuple [(.int .i64),(.int .i64),.bool]),[],none⟩]
noncomputable def qpN:=qe [(292,q9 qg0 qfo js)] [(237,f237)] [] 0
noncomputable def yw:=qk qpN 237 f237 true q6w q7t
theorem qaI:qz prog qa 237 (q9 q6w q7t yw):=sk qpN qc q8 (alc qgM aln) aln (b1 func237) func237
def q8W:FIn:=⟨[(.int .i64)],[]⟩
def q90:List FOut:=[⟨(.tuple [.str,(.int .i64)]),[],none⟩]
noncomputable def qmj:=qe [(105,q9 qc4 qc0 wB)] [(238,f238)] [] 0
noncomputable def kT:=qk qmj 238 f238 true q8W q90
theorem qgB:qz prog qa 238 (q9 q8W q90 kT):=sk qmj qc q8 (alc qbK aln) aln (b1 func238) func238
def vX:FIn:=⟨[(.ptr 0 0)],[.big [.bool,(.int .i64)] .i64 232]⟩
def vY:List FOut:=[⟨(.ptr 0 0),[.big [.bool,(.int .i64)] .i64 232],none⟩]
def q24:Tmpl:={ t:=((.ptr 0 0)::qm 28 []),h:=[.big [.bool,(.int .i64)] .i64 232] }
def q2f:List Out:=[⟨(.exit 0),{ t:=((.ptr 0 0)::qm 28 []),h:=[.big [.bool,(.int .i64)] .i64 232] }⟩]
noncomputable def uo:=qe [] [(293,f293)] [] 1
noncomputable def j7:=z8 uo 293 f293 2 q24 q2f
theorem qeP:qj prog qa uo.nimp (qp prog uo.iter 293) (qI f293 2) (qh q24 q2f (qf j7)):=gk uo qc q8 aln aln (b1 func293) func293
noncomputable def qaW:=qe [] [(293,f293)] [((293,2),qh q24 q2f (qf j7))] 1
noncomputable def qO:=qk qaW 293 f293 false vX vY
theorem yl:qz prog qa 293 (q9 vX vY qO):=qqL (E:=qaW) qc ⟨qb0 q8,⟨aln,aln⟩,(alc (lk func293 qeP) aln),(b1 func293)⟩ func293 (by kernel_rfl) (by kernel_rfl) (fun _=>rfl)
def q5X:FIn:=⟨[.str],[]⟩
def q6e:List FOut:=[⟨(.ptr 0 0),[.big [.bool,(.int .i64)] .i64 232],none⟩]
def qfT:Tmpl:={ t:=(.any::.any::.any::.str::(.ptr 0 0)::qm 43 []),h:=[.big [.bool,(.int .i64)] .i64 232] }
def qeR:List Out:=[⟨(.exit 0),{ t:=(qm 4 ((.ptr 0 0)::qm 43 [])),h:=[.big [.bool,(.int .i64)] .i64 232] }⟩]
noncomputable def qhO:List (FuncId×zj):=[(194,q9 yg yd qX),(292,q9 qg0 qfo js),(293,q9 vX vY qO)]
theorem qmI:∀x,x∈qhO->qz prog qa x.1 x.2:=(alc q1u (alc qgM (alc yl aln)))
noncomputable def q95:=qe qhO [(239,f239)] [] 0
noncomputable def q4N:=z8 q95 239 f239 5 qfT qeR
theorem qrv:qj prog qa q95.nimp (qp prog q95.iter 239) (qI f239 5) (qh qfT qeR (qf q4N)):=gk q95 qc q8 qmI aln (b1 func239) func239
noncomputable def qs2:=qe qhO [(239,f239)] [((239,5),qh qfT qeR (qf q4N))] 0
noncomputable def ww:=qk qs2 239 f239 false q5X q6e
theorem q7r:qz prog qa 239 (q9 q5X q6e ww):=qqL (E:=qs2) qc ⟨qb0 q8,⟨qmI,aln⟩,(alc (lk func239 qrv) aln),(b1 func239)⟩ func239 (by kernel_rfl) (by kernel_rfl) (fun _=>rfl)
def jF:FIn:=⟨[(.ptr 0 0),(.ptr 1 0),(.int .i64),(.int .i64)],[.big [.bool,(.int .i64)] .i64 232,.big [.bool,(.int .i64)] .i64 232]⟩
def jJ:List FOut:=[⟨(.tuple []),[.big [.bool,(.int .i64)] .i64 232,.big [.bool,(.int .i64)] .i64 232],none⟩]
def q4d:Tmpl:={ t:=((.ptr 0 0)::(.ptr 1 0)::(.int .i64)::(.int .i64)::qm 4 ((.int .i64)::(.int .i64)::qm 73 [])),h:=[.big [.bool,(.int .i64)] .i64 232,.big [.bool,(.int .i64)] .i64 232] }
def q48:List Out:=[⟨(.exit 0),{ t:=((.ptr 0 0)::qm 82 []),h:=[.big [.bool,(.int .i64)] .i64 232,.big [.bool,(.int .i64)] .i64 232] }⟩]
noncomputable def q09:=qe [(293,q9 vX vY qO)] [(294,f294)] [] 2
noncomputable def vW:=z8 q09 294 f294 3 q4d q48
theorem qhb:qj prog qa q09.nimp (qp prog q09.iter 294) (qI f294 3) (qh q4d q48 (qf vW)):=gk q09 qc q8 (alc yl aln) aln (b1 func294) func294
noncomputable def qei:=qe [(293,q9 vX vY qO)] [(294,f294)] [((294,3),qh q4d q48 (qf vW))] 2
noncomputable def qR:=qk qei 294 f294 true jF jJ
theorem kj:qz prog qa 294 (q9 jF jJ qR):=sk qei qc q8 (alc yl aln) (alc (lk func294 qhb) aln) (b1 func294) func294
def q7k:FIn:=⟨[(.ptr 0 0),(.ptr 1 0)],[.big [.bool,(.int .i64)] .i64 232,.big [.bool,(.int .i64)] .i64 232]⟩
def q6B:List FOut:=[⟨(.ptr 2 0),[.big [.bool,(.int .i64)] .i64 232,.big [.bool,(.int .i64)] .i64 232,.big [.bool,(.int .i64)] .i64 232],none⟩]
def q4a:Tmpl:={ t:=((.ptr 0 0)::(.ptr 1 0)::.any::.any::.any::(.ptr 2 0)::qm 15 ((.int .i64)::(.int .i64)::qm 14 [])),h:=[.big [.bool,(.int .i64)] .i64 232,.big [.bool,(.int .i64)] .i64 232,.big [.bool,(.int .i64)] .i64 232] }
def q46:List Out:=[⟨(.exit 0),{ t:=(qm 5 ((.ptr 2 0)::qm 31 [])),h:=[.big [.bool,(.int .i64)] .i64 232,.big [.bool,(.int .i64)] .i64 232,.big [.bool,(.int .i64)] .i64 232] }⟩]
noncomputable def q08:=qe [(294,q9 jF jJ qR)] [(240,f240)] [] 2
noncomputable def yi:=z8 q08 240 f240 4 q4a q46
theorem qh3:qj prog qa q08.nimp (qp prog q08.iter 240) (qI f240 4) (qh q4a q46 (qf yi)):=gk q08 qc q8 (alc kj aln) aln (b1 func240) func240
noncomputable def qeu:=qe [(294,q9 jF jJ qR)] [(240,f240)] [((240,4),qh q4a q46 (qf yi))] 2
noncomputable def kn:=qk qeu 240 f240 false q7k q6B
theorem qjN:qz prog qa 240 (q9 q7k q6B kn):=qqL (E:=qeu) qc ⟨qb0 q8,⟨(alc kj aln),aln⟩,(alc (lk func240 qh3) aln),(b1 func240)⟩ func240 (by kernel_rfl) (by kernel_rfl) (fun _=>rfl)
def q3I:FIn:=⟨[(.ptr 0 0)],[.big [.bool,(.int .i64)] .i64 232]⟩
def q3r:List FOut:=[⟨.str,[.big [.bool,(.int .i64)] .i64 232],none⟩]
noncomputable def zd:List PV->TR:=qIC
theorem q47:qz prog qa 288 (q9 q3I q3r zd):=qEy (by unfold qa;exact qP8)
def q0f:FIn:=⟨[(.ptr 0 0)],[.big [.bool,(.int .i64)] .i64 232]⟩
def q06:List FOut:=[⟨(.tuple [.str,(.int .i64)]),[.big [.bool,(.int .i64)] .i64 232],none⟩]
noncomputable def qaX:=qe [(242,q9 kh kC qW),(288,q9 q3I q3r zd)] [(241,f241)] [] 1
noncomputable def wg:=qk qaX 241 f241 true q0f q06
theorem q71:qz prog qa 241 (q9 q0f q06 wg):=sk qaX qc q8 (alc k8 (alc q47 aln)) aln (b1 func241) func241
def qdw:FIn:=⟨[.str,.str],[]⟩
def qcZ:List FOut:=[⟨(.tuple [.str,(.int .i64)]),[],none⟩]
noncomputable def qv7:=qe [(191,q9 q2J q36 we),(237,q9 q6w q7t yw),(238,q9 q8W q90 kT),(239,q9 q5X q6e ww),(240,q9 q7k q6B kn),(241,q9 q0f q06 wg)] [(188,f188)] [] 0
noncomputable def q5w:=qk qv7 188 f188 true qdw qcZ
theorem qg1:qz prog qa 188 (q9 qdw qcZ q5w):=sk qv7 qc q8 (alc q1T (alc qaI (alc qgB (alc q7r (alc qjN (alc q71 aln)))))) aln (b1 func188) func188
def ju:FIn:=⟨[(.ptr 0 0),(.fn 188 [] []),.str,.str],[.cells [(.int .i64)]]⟩
def jp:List FOut:=[⟨.str,[.cells [(.int .i64)]],none⟩]
noncomputable def q4z:=qe [(188,q9 qdw qcZ q5w)] [(187,f187)] [] 1
noncomputable def zy:=qk q4z 187 f187 true ju jp
theorem q2l:qz prog qa 187 (q9 ju jp zy):=sk q4z qc q8 (alc qg1 aln) aln (b1 func187) func187
def jY:FIn:=⟨[(.ptr 0 0),(.imm [.str])],[.cells [(.int .i64)]]⟩
def jZ:List FOut:=[⟨.str,[.cells [(.int .i64)]],none⟩]
def q74:Tmpl:={ t:=(qm 5 (.str::(.fn 187 [(.ptr 0 0)] [])::qm 4 ((.imm [.str])::(.int .i64)::(.int .i64)::qm 9 []))),h:=[.cells [(.int .i64)]] }
def q7h:List Out:=[⟨(.exit 0),{ t:=(qm 5 (.str::qm 17 [])),h:=[.cells [(.int .i64)]] }⟩]
noncomputable def q2w:=qe [(188,q9 qdw qcZ q5w),(187,q9 ju jp zy)] [(136,f136)] [] 1
noncomputable def jP:=z8 q2w 136 f136 4 q74 q7h
theorem qkv:qj prog qa q2w.nimp (qp prog q2w.iter 136) (qI f136 4) (qh q74 q7h (qf jP)):=gk q2w qc q8 (alc qg1 (alc q2l aln)) aln (b1 func136) func136
noncomputable def qig:=qe [(188,q9 qdw qcZ q5w),(187,q9 ju jp zy)] [(136,f136)] [((136,4),qh q74 q7h (qf jP))] 1
noncomputable def qt:=qk qig 136 f136 true jY jZ
theorem u5:qz prog qa 136 (q9 jY jZ qt):=sk qig qc q8 (alc qg1 (alc q2l aln)) (alc (lk func136 qkv) aln) (b1 func136) func136
def q1w:FIn:=⟨[(.ptr 0 0),(.ptr 1 0)],[.big [.bool,(.int .i64)] .i64 232,.big [.bool,(.int .i64)] .i64 232]⟩
def q1d:List FOut:=[⟨(.int .i64),[.big [.bool,(.int .i64)] .i64 232,.big [.bool,(.int .i64)] .i64 232],none⟩]
def q38:Tmpl:={ t:=((.ptr 0 0)::(.ptr 1 0)::.any::.any::.any::(.int .i64)::qm 53 []),h:=[.big [.bool,(.int .i64)] .i64 232,.big [.bool,(.int .i64)] .i64 232] }
def q3a:List Out:=[⟨(.exit 0),{ t:=(qm 59 []),h:=[.big [.bool,(.int .i64)] .i64 232,.big [.bool,(.int .i64)] .i64 232] }⟩,⟨.ret,{ t:=(qm 4 ((.int .i64)::qm 54 [])),h:=[.big [.bool,(.int .i64)] .i64 232,.big [.bool,(.int .i64)] .i64 232] }⟩]
noncomputable def kw:=qe [] [(340,f340)] [] 2
noncomputable def jB:=z8 kw 340 f340 6 q38 q3a
theorem qgF:qj prog qa kw.nimp (qp prog kw.iter 340) (qI f340 6) (qh q38 q3a (qf jB)):=gk kw qc q8 aln aln (b1 func340) func340
noncomputable def qc5:=qe [] [(340,f340)] [((340,6),qh q38 q3a (qf jB))] 2
noncomputable def wR:=qk qc5 340 f340 true q1w q1d
theorem q80:qz prog qa 340 (q9 q1w q1d wR):=sk qc5 qc q8 aln (alc (lk func340 qgF) aln) (b1 func340) func340
def q3m:FIn:=⟨[(.ptr 0 0),(.ptr 1 0)],[.big [.bool,(.int .i64)] .i64 232,.big [.bool,(.int .i64)] .i64 232]⟩
def q3S:List FOut:=[⟨(.tuple []),[.big [.bool,(.int .i64)] .i64 232,.big [.bool,(.int .i64)] .i64 232],none⟩]
noncomputable def qgf:=qe [(294,q9 jF jJ qR),(340,q9 q1w q1d wR)] [(347,f347)] [] 2
noncomputable def wW:=qk qgf 347 f347 true q3m q3S
theorem qaV:qz prog qa 347 (q9 q3m q3S wW):=sk qgf qc q8 (alc kj (alc q80 aln)) aln (b1 func347) func347
def qnf:FIn:=⟨[(.imm [.str])],[]⟩
def qnZ:List FOut:=[⟨(.tuple [.str,(.int .i64)]),[],none⟩]
def qhI:Tmpl:={ t:=(qm 4 ((.ptr 0 0)::qm 4 ((.imm [.str])::(.int .i64)::(.int .i64)::qm 12 []))),h:=[.big [.bool,(.int .i64)] .i64 232] }
def qhL:List Out:=[⟨(.exit 0),{ t:=(qm 4 ((.ptr 0 0)::qm 19 [])),h:=[.big [.bool,(.int .i64)] .i64 232] }⟩]
noncomputable def qjz:List (FuncId×zj):=[(239,q9 q5X q6e ww),(241,q9 q0f q06 wg),(347,q9 q3m q3S wW)]
theorem qq7:∀x,x∈qjz->qz prog qa x.1 x.2:=(alc q7r (alc q71 (alc qaV aln)))
noncomputable def qbH:=qe qjz [(383,f383)] [] 0
noncomputable def q7z:=z8 qbH 383 f383 4 qhI qhL
theorem qsx:qj prog qa qbH.nimp (qp prog qbH.iter 383) (qI f383 4) (qh qhI qhL (qf q7z)):=gk qbH qc q8 qq7 aln (b1 func383) func383
noncomputable def qtG:=qe qjz [(383,f383)] [((383,4),qh qhI qhL (qf q7z))] 0
noncomputable def qcC:=qk qtG 383 f383 true qnf qnZ
theorem qvK:qz prog qa 383 (q9 qnf qnZ qcC):=sk qtG qc q8 qq7 (alc (lk func383 qsx) aln) (b1 func383) func383
def qd4:FIn:=⟨[.str,.str],[]⟩
def qcL:List FOut:=[⟨(.tuple [.str,(.int .i64)]),[],none⟩]
noncomputable def qvm:=qe [(191,q9 q2J q36 we),(237,q9 q6w q7t yw),(238,q9 q8W q90 kT),(383,q9 qnf qnZ qcC)] [(345,f345)] [] 0
noncomputable def q2H:=qk qvm 345 f345 true qd4 qcL
theorem qfV:qz prog qa 345 (q9 qd4 qcL q2H):=sk qvm qc q8 (alc q1T (alc qaI (alc qgB (alc qvK aln)))) aln (b1 func345) func345
def q9v:FIn:=⟨[.str],[]⟩
def q9t:List FOut:=[⟨(.int .i64),[],none⟩]
noncomputable def qrD:=qe [] [(192,f192)] [] 0
noncomputable def yH:=qk qrD 192 f192 true q9v q9t
theorem qcs:qz prog qa 192 (q9 q9v q9t yH):=sk qrD qc q8 aln aln (b1 func192) func192
def qab:FIn:=⟨[.str],[]⟩
def qas:List FOut:=[⟨.str,[],none⟩]
noncomputable def qiv:=qe [(192,q9 q9v q9t yH)] [(346,f346)] [] 0
noncomputable def q1N:=qk qiv 346 f346 true qab qas
theorem qnK:qz prog qa 346 (q9 qab qas q1N):=sk qiv qc q8 (alc qcs aln) aln (b1 func346) func346
def qhn:FIn:=⟨[.str,.str],[]⟩
def qi9:List FOut:=[⟨(.tuple [.str,(.int .i64)]),[],none⟩]
noncomputable def quJ:=qe [(191,q9 q2J q36 we),(345,q9 qd4 qcL q2H),(346,q9 qab qas q1N)] [(290,f290)] [] 0
noncomputable def q8m:=qk quJ 290 f290 true qhn qi9
theorem qlY:qz prog qa 290 (q9 qhn qi9 q8m):=sk quJ qc q8 (alc q1T (alc qfV (alc qnK aln))) aln (b1 func290) func290
def kJ:FIn:=⟨[(.ptr 0 0),(.fn 290 [] []),.str,.str],[.cells [(.int .i64)]]⟩
def kX:List FOut:=[⟨.str,[.cells [(.int .i64)]],none⟩]
noncomputable def q4X:=qe [(290,q9 qhn qi9 q8m)] [(187,f187)] [] 1
noncomputable def wK:=qk q4X 187 f187 true kJ kX
theorem qbk:qz prog qa 187 (q9 kJ kX wK):=sk q4X qc q8 (alc qlY aln) aln (b1 func187) func187
def q5p:FIn:=⟨[(.ptr 0 0),.str,.str],[.cells [(.int .i64)]]⟩
def q52:List FOut:=[⟨.str,[.cells [(.int .i64)]],none⟩]
noncomputable def qiH:=qe [(290,q9 qhn qi9 q8m),(187,q9 kJ kX wK)] [(234,f234)] [] 1
noncomputable def j0:=qk qiH 234 f234 true q5p q52
theorem qcU:qz prog qa 234 (q9 q5p q52 j0):=sk qiH qc q8 (alc qlY (alc qbk aln)) aln (b1 func234) func234
def qba:FIn:=⟨[(.ptr 0 0),.str,.str,.str,.str],[.cells [(.int .i64)]]⟩
def qbm:List FOut:=[⟨(.tuple [.str,.str]),[.cells [(.int .i64)]],none⟩]
noncomputable def qq1:=qe [(136,q9 jY jZ qt),(234,q9 q5p q52 j0)] [(262,f262)] [] 1
noncomputable def q3Y:=qk qq1 262 f262 true qba qbm
theorem qip:qz prog qa 262 (q9 qba qbm q3Y):=sk qq1 qc q8 (alc u5 (alc qcU aln)) aln (b1 func262) func262
def q2q:FIn:=⟨[.str,.str],[]⟩
def q2u:List FOut:=[⟨(.int .i64),[],none⟩]
noncomputable def vh:List PV->TR:=qzW
set_option maxRecDepth 100000 in
theorem q8u:qz prog qa 296 (q9 q2q q2u vh):=qBF lays219 (u9 func296 (by kernel_rfl) (by kernel_rfl))
def uM:FIn:=⟨[.str,.str],[]⟩
def uG:List FOut:=[⟨(.tuple [.str,.str,.bool]),[],none⟩]
noncomputable def q45:=qe [(296,q9 q2q q2u vh)] [(243,f243)] [] 0
noncomputable def zZ:=qk q45 243 f243 true uM uG
theorem qay:qz prog qa 243 (q9 uM uG zZ):=sk q45 qc q8 (alc q8u aln) aln (b1 func243) func243
def qh7:FIn:=⟨[.str,.str],[]⟩
def qh5:List FOut:=[⟨(.tuple [.str,.str,.bool]),[],none⟩]
noncomputable def qpP:=qe [(243,q9 uM uG zZ)] [(190,f190)] [] 0
noncomputable def q6P:=qk qpP 190 f190 true qh7 qh5
theorem qsA:qz prog qa 190 (q9 qh7 qh5 q6P):=sk qpP qc q8 (alc qay aln) aln (b1 func190) func190
def q1c:FIn:=⟨[.str],[]⟩
def q1o:List FOut:=[⟨(.tuple [.str,.str,.bool]),[],none⟩]
noncomputable def qv3:=qe [(190,q9 qh7 qh5 q6P)] [(138,f138)] [] 0
noncomputable def qV:=qk qv3 138 f138 true q1c q1o
theorem kI:qz prog qa 138 (q9 q1c q1o qV):=sk qv3 qc q8 (alc qsA aln) aln (b1 func138) func138
def qg7:FIn:=⟨[.str,.str],[]⟩
def qgm:List FOut:=[⟨(.int .i64),[],none⟩]
noncomputable def q3u:List PV->TR:=qt0
set_option maxRecDepth 100000 in
theorem qlM:qz prog qa 244 (q9 qg7 qgm q3u):=qzh lays106 (u9 func244 (by kernel_rfl) (by kernel_rfl))
def qhH:FIn:=⟨[.str,.str],[]⟩
def qh9:List FOut:=[⟨(.int .i64),[],none⟩]
noncomputable def qpB:=qe [(244,q9 qg7 qgm q3u)] [(193,f193)] [] 0
noncomputable def q6t:=qk qpB 193 f193 true qhH qh9
theorem qsN:qz prog qa 193 (q9 qhH qh9 q6t):=sk qpB qc q8 (alc qlM aln) aln (b1 func193) func193
def q6m:FIn:=⟨[.str,.str],[]⟩
def q7l:List FOut:=[⟨(.tuple [(.int .i64),(.int .i64)]),[],none⟩]
noncomputable def qke:=qe [(191,q9 q2J q36 we),(192,q9 q9v q9t yH),(193,q9 qhH qh9 q6t),(194,q9 yg yd qX)] [(139,f139)] [] 0
noncomputable def u6:=qk qke 139 f139 true q6m q7l
theorem qes:qz prog qa 139 (q9 q6m q7l u6):=sk qke qc q8 (alc q1T (alc qcs (alc qsN (alc q1u aln)))) aln (b1 func139) func139
def qaj:FIn:=⟨[(.ptr 0 0),(.ptr 1 0)],[.big [.bool,(.int .i64)] .i64 232,.big [.bool,(.int .i64)] .i64 232]⟩
def q9Q:List FOut:=[⟨(.int .i64),[.big [.bool,(.int .i64)] .i64 232,.big [.bool,(.int .i64)] .i64 232],none⟩]
noncomputable def qiI:=qe [] [(341,f341),(381,f381)] [] 2
noncomputable def q1z:=qk qiI 341 f341 true qaj q9Q
theorem qno:qz prog qa 341 (q9 qaj q9Q q1z):=sk qiI qc q8 aln aln (alc (bk func341) (alc (bk func381) aln)) func341
def q7x:FIn:=⟨[(.ptr 0 0),(.ptr 1 0)],[.big [.bool,(.int .i64)] .i64 232,.big [.bool,(.int .i64)] .i64 232]⟩
def q7a:List FOut:=[⟨(.tuple [(.ptr 2 0),(.ptr 3 0)]),[.big [.bool,(.int .i64)] .i64 232,.big [.bool,(.int .i64)] .i64 232,.big [.bool,(.int .i64)] .i64 232,.big [.bool,(.int .i64)] .i64 232],none⟩]
def q6R:Tmpl:={ t:=((.ptr 0 0)::(.ptr 1 0)::qm 4 ((.ptr 2 0)::(.ptr 3 0)::(.int .i64)::(.int .i64)::qm 80 [])),h:=[.big [.bool,(.int .i64)] .i64 232,.big [.bool,(.int .i64)] .i64 232,.big [.bool,(.int .i64)] .i64 232,.big [.bool,(.int .i64)] .i64 232] }
def q6C:List Out:=[⟨(.exit 2),{ t:=((.ptr 0 0)::(.ptr 1 0)::qm 4 ((.ptr 2 0)::(.ptr 3 0)::(.int .i64)::(.int .i64)::qm 80 [])),h:=[.big [.bool,(.int .i64)] .i64 232,.big [.bool,(.int .i64)] .i64 232,.big [.bool,(.int .i64)] .i64 232,.big [.bool,(.int .i64)] .i64 232] }⟩]
noncomputable def q59:List (FuncId×zj):=[(293,q9 vX vY qO),(294,q9 jF jJ qR),(340,q9 q1w q1d wR),(341,q9 qaj q9Q q1z)]
theorem q8p:∀x,x∈q59->qz prog qa x.1 x.2:=(alc yl (alc kj (alc q80 (alc qno aln))))
noncomputable def q2m:=qe q59 [(287,f287)] [] 2
noncomputable def jI:=z8 q2m 287 f287 14 q6R q6C
theorem qkV:qj prog qa q2m.nimp (qp prog q2m.iter 287) (qI f287 14) (qh q6R q6C (qf jI)):=gk q2m qc q8 q8p aln (b1 func287) func287
def q8k:Tmpl:={ t:=((.ptr 0 0)::(.ptr 1 0)::qm 4 ((.ptr 2 0)::(.ptr 3 0)::(.int .i64)::qm 81 [])),h:=[.big [.bool,(.int .i64)] .i64 232,.big [.bool,(.int .i64)] .i64 232,.big [.bool,(.int .i64)] .i64 232,.big [.bool,(.int .i64)] .i64 232] }
def q8j:List Out:=[⟨(.exit 0),{ t:=(qm 6 ((.ptr 2 0)::(.ptr 3 0)::qm 82 [])),h:=[.big [.bool,(.int .i64)] .i64 232,.big [.bool,(.int .i64)] .i64 232,.big [.bool,(.int .i64)] .i64 232,.big [.bool,(.int .i64)] .i64 232] }⟩]
noncomputable def q40:=qe q59 [(287,f287)] [((287,14),qh q6R q6C (qf jI))] 2
noncomputable def q0A:=z8 q40 287 f287 4 q8k q8j
theorem qlL:qj prog qa q40.nimp (qp prog q40.iter 287) (qI f287 4) (qh q8k q8j (qf q0A)):=gk q40 qc q8 q8p (alc (lk func287 qkV) aln) (b1 func287) func287
noncomputable def qka:=qe q59 [(287,f287)] [((287,4),qh q8k q8j (qf q0A))] 2
noncomputable def ui:=qk qka 287 f287 false q7x q7a
theorem qe1:qz prog qa 287 (q9 q7x q7a ui):=qqL (E:=qka) qc ⟨qb0 q8,⟨q8p,aln⟩,(alc (lk func287 qlL) aln),(b1 func287)⟩ func287 (by kernel_rfl) (by kernel_rfl) (fun _=>rfl)
def qcc:FIn:=⟨[.str,.str],[]⟩
def qdm:List FOut:=[⟨(.tuple [.str,(.int .i64)]),[],none⟩]
def qfu:Tmpl:={ t:=(qm 9 ((.int .i64)::(.int .i64)::qm 61 [])),h:=[] }
def qfU:List Out:=[⟨(.exit 2),{ t:=(qm 9 ((.int .i64)::qm 62 [])),h:=[] }⟩]
noncomputable def qdR:List (FuncId×zj):=[(105,q9 qc4 qc0 wB),(191,q9 q2J q36 we),(239,q9 q5X q6e ww),(287,q9 q7x q7a ui),(288,q9 q3I q3r zd)]
theorem qie:∀x,x∈qdR->qz prog qa x.1 x.2:=(alc qbK (alc q1T (alc q7r (alc qe1 (alc q47 aln)))))
noncomputable def q8Y:=qe qdR [(232,f232)] [] 0
noncomputable def q1S:=z8 q8Y 232 f232 14 qfu qfU
theorem qqI:qj prog qa q8Y.nimp (qp prog q8Y.iter 232) (qI f232 14) (qh qfu qfU (qf q1S)):=gk q8Y qc q8 qie aln (b1 func232) func232
def qhU:Tmpl:={ t:=(qm 7 ((.ptr 1 0)::(.ptr 2 0)::qm 63 [])),h:=[.dead,.big [.bool,(.int .i64)] .i64 232,.big [.bool,(.int .i64)] .i64 232],sw:=[(7,1),(8,2)],swn:=0 }
def qhD:List Out:=[⟨(.exit 0),{ t:=(qm 7 ((.ptr 1 0)::qm 64 [])),h:=[.dead,.big [.bool,(.int .i64)] .i64 232] }⟩,⟨.ret,{ t:=(qm 4 (.str::(.int .i64)::qm 66 [])),h:=[] }⟩]
noncomputable def qbj:=qe qdR [(232,f232)] [((232,14),qh qfu qfU (qf q1S))] 0
noncomputable def q6l:=z8 qbj 232 f232 7 qhU qhD
theorem qsp:qj prog qa qbj.nimp (qp prog qbj.iter 232) (qI f232 7) (qh qhU qhD (qf q6l)):=gk qbj qc q8 qie (alc (lk func232 qqI) aln) (b1 func232) func232
noncomputable def qtK:=qe qdR [(232,f232)] [((232,7),qh qhU qhD (qf q6l))] 0
noncomputable def q2U:=qk qtK 232 f232 true qcc qdm
theorem qfn:qz prog qa 232 (q9 qcc qdm q2U):=sk qtK qc q8 qie (alc (lk func232 qsp) aln) (b1 func232) func232
def q1q:FIn:=⟨[.str],[]⟩
def q1j:List FOut:=[⟨(.int .i64),[],none⟩]
noncomputable def qoU:=qe [(138,q9 q1c q1o qV),(139,q9 q6m q7l u6),(232,q9 qcc qdm q2U),(242,q9 kh kC qW)] [(189,f189)] [] 0
noncomputable def zu:=qk qoU 189 f189 true q1q q1j
theorem q1L:qz prog qa 189 (q9 q1q q1j zu):=sk qoU qc q8 (alc kI (alc qes (alc qfn (alc k8 aln)))) aln (b1 func189) func189
def vt:FIn:=⟨[(.imm [.str])],[]⟩
def vA:List FOut:=[⟨(.int .i64),[],none⟩]
def qaJ:Tmpl:={ t:=(qm 6 ((.imm [.str])::(.int .i64)::(.int .i64)::qm 9 [])),h:=[] }
def qaz:List Out:=[⟨(.exit 0),{ t:=(qm 18 []),h:=[] }⟩,⟨.ret,{ t:=(.any::.any::(.int .i64)::qm 15 []),h:=[] }⟩]
noncomputable def q55:=qe [(189,q9 q1q q1j zu)] [(137,f137)] [] 0
noncomputable def q1E:=z8 q55 137 f137 3 qaJ qaz
theorem qnW:qj prog qa q55.nimp (qp prog q55.iter 137) (qI f137 3) (qh qaJ qaz (qf q1E)):=gk q55 qc q8 (alc q1L aln) aln (b1 func137) func137
noncomputable def qmK:=qe [(189,q9 q1q q1j zu)] [(137,f137)] [((137,3),qh qaJ qaz (qf q1E))] 0
noncomputable def qC:=qk qmK 137 f137 true vt vA
theorem wX:qz prog qa 137 (q9 vt vA qC):=sk qmK qc q8 (alc q1L aln) (alc (lk func137 qnW) aln) (b1 func137) func137
def q5Q:FIn:=⟨[.str,.str],[]⟩
def q5E:List FOut:=[⟨.bool,[],none⟩]
noncomputable def qcK:=qe [(289,q9 zK zL qE)] [(233,f233)] [] 0
noncomputable def ue:=qk qcK 233 f233 true q5Q q5E
theorem qj5:qz prog qa 233 (q9 q5Q q5E ue):=sk qcK qc q8 (alc uc aln) aln (b1 func233) func233
def qfg:FIn:=⟨[.str,.str],[]⟩
def qfw:List FOut:=[⟨.str,[],none⟩]
noncomputable def qmQ:=qe [] [(235,f235)] [] 0
noncomputable def q1V:=qk qmQ 235 f235 true qfg qfw
theorem qrA:qz prog qa 235 (q9 qfg qfw q1V):=sk qmQ qc q8 aln aln (b1 func235) func235
def qeJ:FIn:=⟨[.str,.str],[]⟩
def qf1:List FOut:=[⟨(.tuple [.str,.str,(.int .i64)]),[],none⟩]
noncomputable def qm4:=qe [(105,q9 qc4 qc0 wB),(191,q9 q2J q36 we),(237,q9 q6w q7t yw),(239,q9 q5X q6e ww),(287,q9 q7x q7a ui),(288,q9 q3I q3r zd),(347,q9 q3m q3S wW)] [(291,f291)] [] 0
noncomputable def q4I:=qk qm4 291 f291 true qeJ qf1
theorem qqn:qz prog qa 291 (q9 qeJ qf1 q4I):=sk qm4 qc q8 (alc qbK (alc q1T (alc qaI (alc q7r (alc qe1 (alc q47 (alc qaV aln))))))) aln (b1 func291) func291
def qhw:FIn:=⟨[.str,.str],[]⟩
def qi8:List FOut:=[⟨(.tuple [.str,(.int .i64)]),[],none⟩]
noncomputable def quM:=qe [(242,q9 kh kC qW),(291,q9 qeJ qf1 q4I)] [(236,f236)] [] 0
noncomputable def q83:=qk quM 236 f236 true qhw qi8
theorem qmg:qz prog qa 236 (q9 qhw qi8 q83):=sk quM qc q8 (alc k8 (alc qqn aln)) aln (b1 func236) func236
def jr:FIn:=⟨[(.ptr 0 0),(.fn 232 [] []),.str,.str],[.cells [(.int .i64)]]⟩
def kV:List FOut:=[⟨.str,[.cells [(.int .i64)]],none⟩]
noncomputable def q4T:=qe [(232,q9 qcc qdm q2U)] [(187,f187)] [] 1
noncomputable def wL:=qk q4T 187 f187 true jr kV
theorem qbG:qz prog qa 187 (q9 jr kV wL):=sk q4T qc q8 (alc qfn aln) aln (b1 func187) func187
def jq:FIn:=⟨[(.ptr 0 0),(.fn 236 [] []),.str,.str],[.cells [(.int .i64)]]⟩
def kS:List FOut:=[⟨.str,[.cells [(.int .i64)]],none⟩]
noncomputable def q4V:=qe [(236,q9 qhw qi8 q83)] [(187,f187)] [] 1
noncomputable def qP:=qk q4V 187 f187 true jq kS
theorem qbS:qz prog qa 187 (q9 jq kS qP):=sk q4V qc q8 (alc qmg aln) aln (b1 func187) func187
def ji:FIn:=⟨[(.ptr 0 0),.str,.str],[.cells [(.int .i64)]]⟩
def jc:List FOut:=[⟨.str,[.cells [(.int .i64)]],none⟩]
noncomputable def qd6:=qe [(232,q9 qcc qdm q2U),(233,q9 q5Q q5E ue),(234,q9 q5p q52 j0),(235,q9 qfg qfw q1V),(236,q9 qhw qi8 q83),(187,qOv [(jr,q9 jr kV wL),(jq,q9 jq kS qP)])] [(186,f186)] [] 1
noncomputable def qT:=qk qd6 186 f186 true ji jc
theorem uu:qz prog qa 186 (q9 ji jc qT):=sk qd6 qc q8 (alc qfn (alc qj5 (alc qcU (alc qrA (alc qmg (alc (qKh (u9 func187 (by kernel_rfl) (by kernel_rfl)) (qEj qbG (qEj qbS qLt))) aln)))))) aln (b1 func186) func186
def q0D:FIn:=⟨[.str,.str,(.fn 262 [] [])],[]⟩
def q0L:List FOut:=[⟨(.tuple [.str,(.int .i64)]),[],none⟩]
noncomputable def q5V:=qe [(137,q9 vt vA qC),(138,q9 q1c q1o qV),(186,q9 ji jc qT),(262,q9 qba qbm q3Y)] [(134,f134)] [] 0
noncomputable def ve:=qk q5V 134 f134 true q0D q0L
theorem qcJ:qz prog qa 134 (q9 q0D q0L ve):=sk q5V qc q8 (alc wX (alc kI (alc uu (alc qip aln)))) aln (b1 func134) func134
def qhW:FIn:=⟨[.str,.str],[]⟩
def qha:List FOut:=[⟨(.tuple [.str,(.int .i64)]),[],none⟩]
noncomputable def qtO:=qe [(262,q9 qba qbm q3Y),(134,q9 q0D q0L ve)] [(210,f210)] [] 0
noncomputable def wk:=qk qtO 210 f210 true qhW qha
theorem qft:qz prog qa 210 (q9 qhW qha wk):=sk qtO qc q8 (alc qip (alc qcJ aln)) aln (b1 func210) func210
def wT:FIn:=⟨[(.agg [(.int .i64),(.int .i64),(.int .i64)])],[]⟩
def va:List FOut:=[⟨(.agg [(.int .i64),(.int .i64),(.int .i64)]),[],none⟩]
noncomputable def q9o:=qe [] [(281,f281)] [] 0
noncomputable def qD:=qk q9o 281 f281 true wT va
theorem jE:qz prog qa 281 (q9 wT va qD):=sk q9o qc q8 aln aln (b1 func281) func281
def qhV:FIn:=⟨[(.agg [(.int .i64),(.int .i64),(.int .i64)]),(.agg [(.int .i64),(.int .i64),(.int .i64)]),(.agg [(.int .i64),(.int .i64),(.int .i64)])],[]⟩
def qhk:List FOut:=[⟨(.int .i64),[],none⟩]
def qdf:Tmpl:={ t:=(qm 7 ((.ptr 3 0)::(.ptr 4 0)::(.ptr 5 0)::(.int .i64)::qm 7 ((.int .i64)::qm 21 []))),h:=[.dead,.dead,.dead,.cells [(.int .i64),(.int .i64),(.int .i64)],.cells [(.int .i64),(.int .i64),(.int .i64)],.cells [(.int .i64),(.int .i64),(.int .i64)]] }
def qcv:List Out:=[⟨(.exit 0),{ t:=(qm 10 ((.int .i64)::qm 29 [])),h:=[] }⟩]
noncomputable def q6o:=qe [(281,q9 wT va qD)] [(276,f276)] [] 0
noncomputable def q0q:=z8 q6o 276 f276 5 qdf qcv
theorem qpV:qj prog qa q6o.nimp (qp prog q6o.iter 276) (qI f276 5) (qh qdf qcv (qf q0q)):=gk q6o qc q8 (alc jE aln) aln (b1 func276) func276
noncomputable def qoQ:=qe [(281,q9 wT va qD)] [(276,f276)] [((276,5),qh qdf qcv (qf q0q))] 0
noncomputable def q13:=qk qoQ 276 f276 true qhV qhk
theorem qsz:qz prog qa 276 (q9 qhV qhk q13):=sk qoQ qc q8 (alc jE aln) (alc (lk func276 qpV) aln) (b1 func276) func276
def qbM:FIn:=⟨[(.int .i64)],[]⟩
def qb7:List FOut:=[⟨.bool,[],none⟩]
noncomputable def qon:=qe [] [(325,f325)] [] 0
noncomputable def vP:=qk qon 325 f325 true qbM qb7
theorem qif:qz prog qa 325 (q9 qbM qb7 vP):=sk qon qc q8 aln aln (b1 func325) func325
def q3R:FIn:=⟨[(.int .i64),(.int .i64),(.ptr 0 0),(.ptr 1 0)],[.cells [(.imm [(.int .i64)])],.cells [(.int .i64)]]⟩
def q3v:List FOut:=[⟨.str,[.cells [(.imm [(.int .i64)])],.cells [(.int .i64)]],none⟩]
noncomputable def qpu:=qe [(53,q9 q3V q3O wN)] [(327,f327)] [] 2
noncomputable def kB:=qk qpu 327 f327 true q3R q3v
theorem q5j:qz prog qa 327 (q9 q3R q3v kB):=sk qpu qc q8 (alc q5f aln) aln (b1 func327) func327
def qhi:FIn:=⟨[(.int .i64),(.int .i64),(.fn 327 [] [(.ptr 0 0),(.ptr 1 0)])],[.cells [(.imm [(.int .i64)])],.cells [(.int .i64)]]⟩
def qia:List FOut:=[⟨(.agg [(.int .i64),(.int .i64),(.imm [.str])]),[.cells [(.imm [(.int .i64)])],.cells [(.int .i64)]],none⟩]
def qaE:Tmpl:={ t:=(.any::(.int .i64)::(.fn 327 [] [(.ptr 0 0),(.ptr 1 0)])::.any::.any::.any::(.ptr 2 0)::(.ptr 3 0)::(.int .i64)::qm 4 ((.int .i64)::(.int .i64)::.any::.any::(.int .i64)::(.int .i64)::qm 14 [])),h:=[.cells [(.imm [(.int .i64)])],.cells [(.int .i64)],.cells [(.int .i64),(.int .i64),.nils],.cells [(.int .i64),(.int .i64),(.vec 4)],.vec 108 [.str]] }
def qaA:List Out:=[⟨(.exit 2),{ t:=(.any::(.int .i64)::(.fn 327 [] [(.ptr 0 0),(.ptr 1 0)])::.any::.any::.any::(.ptr 2 0)::(.ptr 3 0)::qm 5 ((.int .i64)::(.int .i64)::qm 18 [])),h:=[.cells [(.imm [(.int .i64)])],.cells [(.int .i64)],.cells [(.int .i64),(.int .i64),.nils],.cells [(.int .i64),(.int .i64),(.vec 4)],.vec 108 [.str]] }⟩]
noncomputable def q5c:=qe [(327,q9 q3R q3v kB)] [(326,f326)] [] 2
noncomputable def uV:=z8 q5c 326 f326 10 qaE qaA
theorem qo4:qj prog qa q5c.nimp (qp prog q5c.iter 326) (qI f326 10) (qh qaE qaA (qf uV)):=gk q5c qc q8 (alc q5j aln) aln (b1 func326) func326
def qdp:Tmpl:={ t:=(.any::(.int .i64)::(.fn 327 [] [(.ptr 0 0),(.ptr 1 0)])::.any::.any::.any::(.ptr 2 0)::(.ptr 3 0)::qm 5 ((.int .i64)::(.int .i64)::qm 18 [])),h:=[.cells [(.imm [(.int .i64)])],.cells [(.int .i64)],.cells [(.int .i64),(.int .i64),.nils],.cells [(.int .i64),(.int .i64),(.vec 4)],.vec 108 [.str]],prc:=[(7,2,108,[.str])] }
def qcz:List Out:=[⟨(.exit 0),{ t:=(qm 6 ((.ptr 2 0)::(.ptr 3 0)::qm 25 [])),h:=[.cells [(.imm [(.int .i64)])],.cells [(.int .i64)],.cells [(.int .i64),(.int .i64),.nils],.cells [(.int .i64),(.int .i64),(.vec 4)],.vec 108 [.str]] }⟩]
noncomputable def q6u:=qe [(327,q9 q3R q3v kB)] [(326,f326)] [((326,10),qh qaE qaA (qf uV))] 2
noncomputable def q0k:=z8 q6u 326 f326 4 qdp qcz
theorem qoA:qj prog qa q6u.nimp (qp prog q6u.iter 326) (qI f326 4) (qh qdp qcz (qf q0k)):=gk q6u qc q8 (alc q5j aln) (alc (lk func326 qo4) aln) (b1 func326) func326
noncomputable def qp5:=qe [(327,q9 q3R q3v kB)] [(326,f326)] [((326,4),qh qdp qcz (qf q0k))] 2
noncomputable def q6E:=qk qp5 326 f326 true qhi qia
theorem qsK:qz prog qa 326 (q9 qhi qia q6E):=sk qp5 qc q8 (alc q5j aln) (alc (lk func326 qoA) aln) (b1 func326) func326
def qnU:FIn:=⟨[(.int .i64),(.int .i64),(.imm [(.int .i64)])],[]⟩
def qnA:List FOut:=[⟨(.tuple [(.agg [(.int .i64),(.int .i64),(.imm [.str])]),(.int .i64)]),[],none⟩]
noncomputable def qv9:=qe [(325,q9 qbM qb7 vP),(326,q9 qhi qia q6E),(327,q9 q3R q3v kB)] [(277,f277)] [] 0
noncomputable def qds:=qk qv9 277 f277 true qnU qnA
theorem qvX:qz prog qa 277 (q9 qnU qnA qds):=sk qv9 qc q8 (alc qif (alc qsK (alc q5j aln))) aln (b1 func277) func277
def q5l:FIn:=⟨[(.imm [.str])],[]⟩
def q54:List FOut:=[⟨(.int .i64),[],none⟩]
def q6M:Tmpl:={ t:=(qm 6 ((.imm [.str])::(.int .i64)::(.int .i64)::qm 9 [])),h:=[] }
def q6Z:List Out:=[⟨(.exit 0),{ t:=(qm 18 []),h:=[] }⟩,⟨.ret,{ t:=(.any::.any::(.int .i64)::qm 15 []),h:=[] }⟩]
noncomputable def q2z:=qe [(189,q9 q1q q1j zu)] [(333,f333)] [] 0
noncomputable def jG:=z8 q2z 333 f333 3 q6M q6Z
theorem qkk:qj prog qa q2z.nimp (qp prog q2z.iter 333) (qI f333 3) (qh q6M q6Z (qf jG)):=gk q2z qc q8 (alc q1L aln) aln (b1 func333) func333
noncomputable def qis:=qe [(189,q9 q1q q1j zu)] [(333,f333)] [((333,3),qh q6M q6Z (qf jG))] 0
noncomputable def j4:=qk qis 333 f333 true q5l q54
theorem qdo:qz prog qa 333 (q9 q5l q54 j4):=sk qis qc q8 (alc q1L aln) (alc (lk func333 qkk) aln) (b1 func333) func333
def qfC:FIn:=⟨[(.agg [(.int .i64),(.int .i64),(.imm [.str])])],[]⟩
def qfA:List FOut:=[⟨(.int .i64),[],none⟩]
noncomputable def qmc:=qe [(325,q9 qbM qb7 vP),(333,q9 q5l q54 j4)] [(328,f328)] [] 0
noncomputable def jx:=qk qmc 328 f328 true qfC qfA
theorem qgx:qz prog qa 328 (q9 qfC qfA jx):=sk qmc qc q8 (alc qif (alc qdo aln)) aln (b1 func328) func328
def qbI:FIn:=⟨[(.ptr 0 0),.str,.str,.str,.str],[.cells [(.int .i64)]]⟩
def qbi:List FOut:=[⟨(.tuple [.str,.str]),[.cells [(.int .i64)]],none⟩]
noncomputable def qpc:=qe [(136,q9 jY jZ qt)] [(135,f135)] [] 1
noncomputable def q3B:=qk qpc 135 f135 true qbI qbi
theorem qj0:qz prog qa 135 (q9 qbI qbi q3B):=sk qpc qc q8 (alc u5 aln) aln (b1 func135) func135
def q0P:FIn:=⟨[.str,.str,(.fn 135 [] [])],[]⟩
def q0J:List FOut:=[⟨(.tuple [.str,(.int .i64)]),[],none⟩]
noncomputable def q6a:=qe [(135,q9 qbI qbi q3B),(137,q9 vt vA qC),(138,q9 q1c q1o qV),(186,q9 ji jc qT)] [(134,f134)] [] 0
noncomputable def vd:=qk q6a 134 f134 true q0P q0J
theorem qc6:qz prog qa 134 (q9 q0P q0J vd):=sk q6a qc q8 (alc qj0 (alc wX (alc kI (alc uu aln)))) aln (b1 func134) func134
def q8v:FIn:=⟨[.str,.str],[]⟩
def q8d:List FOut:=[⟨(.tuple [.str,(.int .i64)]),[],none⟩]
noncomputable def qu3:=qe [(135,q9 qbI qbi q3B),(134,q9 q0P q0J vd)] [(77,f77)] [] 0
noncomputable def vK:=qk qu3 77 f77 true q8v q8d
theorem q4U:qz prog qa 77 (q9 q8v q8d vK):=sk qu3 qc q8 (alc qj0 (alc qc6 aln)) aln (b1 func77) func77
def qby:FIn:=⟨[(.ptr 0 0),.str,.str,.str,.str],[.cells [(.int .i64)]]⟩
def qbs:List FOut:=[⟨(.tuple [.str,.str]),[.cells [(.int .i64)]],none⟩]
noncomputable def qpS:=qe [(136,q9 jY jZ qt)] [(372,f372)] [] 1
noncomputable def q3H:=qk qpS 372 f372 true qby qbs
theorem qiX:qz prog qa 372 (q9 qby qbs q3H):=sk qpS qc q8 (alc u5 aln) aln (b1 func372) func372
def q0o:FIn:=⟨[.str,.str,(.fn 372 [] [])],[]⟩
def q0w:List FOut:=[⟨(.tuple [.str,(.int .i64)]),[],none⟩]
noncomputable def q66:=qe [(137,q9 vt vA qC),(138,q9 q1c q1o qV),(186,q9 ji jc qT),(372,q9 qby qbs q3H)] [(134,f134)] [] 0
noncomputable def wZ:=qk q66 134 f134 true q0o q0w
theorem qcb:qz prog qa 134 (q9 q0o q0w wZ):=sk q66 qc q8 (alc wX (alc kI (alc uu (alc qiX aln)))) aln (b1 func134) func134
def qv5:FIn:=⟨[.str,.str],[]⟩
def qvh:List FOut:=[⟨(.tuple [.str,(.int .i64)]),[],none⟩]
noncomputable def quC:=qe [(137,q9 vt vA qC),(372,q9 qby qbs q3H),(134,q9 q0o q0w wZ)] [(315,f315)] [] 0
noncomputable def q5v:=qk quC 315 f315 true qv5 qvh
theorem qwr:qz prog qa 315 (q9 qv5 qvh q5v):=sk quC qc q8 (alc wX (alc qiX (alc qcb aln))) aln (b1 func315) func315
def qiW:FIn:=⟨[(.agg [(.int .i64),(.int .i64),(.imm [.str])])],[]⟩
def qiS:List FOut:=[⟨(.tuple [(.agg [(.int .i64),(.int .i64),(.imm [.str])]),(.int .i64)]),[],none⟩]
noncomputable def ya:List PV->TR:=qMe jx vK q5v wk
theorem qnP:qz prog qa 278 (q9 qiW qiS ya):=qGh qgx q4U qwr qft
def kW:FIn:=⟨[(.ptr 0 0),(.fn 345 [] []),.str,.str],[.cells [(.int .i64)]]⟩
def kK:List FOut:=[⟨.str,[.cells [(.int .i64)]],none⟩]
noncomputable def q4K:=qe [(345,q9 qd4 qcL q2H)] [(187,f187)] [] 1
noncomputable def wF:=qk q4K 187 f187 true kW kK
theorem qb2:qz prog qa 187 (q9 kW kK wF):=sk q4K qc q8 (alc qfV aln) aln (b1 func187) func187
def q9D:FIn:=⟨[(.ptr 0 0),.str,.str],[.cells [(.int .i64)]]⟩
def q9J:List FOut:=[⟨.str,[.cells [(.int .i64)]],none⟩]
noncomputable def qin:=qe [(345,q9 qd4 qcL q2H),(187,q9 kW kK wF)] [(365,f365)] [] 1
noncomputable def q1I:=qk qin 365 f365 true q9D q9J
theorem qmX:qz prog qa 365 (q9 q9D q9J q1I):=sk qin qc q8 (alc qfV (alc qb2 aln)) aln (b1 func365) func365
def qbD:FIn:=⟨[(.ptr 0 0),.str,.str,.str,.str],[.cells [(.int .i64)]]⟩
def qb9:List FOut:=[⟨(.tuple [.str,.str]),[.cells [(.int .i64)]],none⟩]
noncomputable def qob:=qe [(136,q9 jY jZ qt),(365,q9 q9D q9J q1I)] [(364,f364)] [] 1
noncomputable def q3x:=qk qob 364 f364 true qbD qb9
theorem qiu:qz prog qa 364 (q9 qbD qb9 q3x):=sk qob qc q8 (alc u5 (alc qmX aln)) aln (b1 func364) func364
def q0p:FIn:=⟨[.str,.str,(.fn 364 [] [])],[]⟩
def q0O:List FOut:=[⟨(.tuple [.str,(.int .i64)]),[],none⟩]
noncomputable def q6c:=qe [(137,q9 vt vA qC),(138,q9 q1c q1o qV),(186,q9 ji jc qT),(364,q9 qbD qb9 q3x)] [(134,f134)] [] 0
noncomputable def vb:=qk q6c 134 f134 true q0p q0O
theorem qd9:qz prog qa 134 (q9 q0p q0O vb):=sk q6c qc q8 (alc wX (alc kI (alc uu (alc qiu aln)))) aln (b1 func134) func134
def q5x:FIn:=⟨[.str,.str],[]⟩
def q5C:List FOut:=[⟨(.tuple [.str,(.int .i64)]),[],none⟩]
noncomputable def qty:=qe [(364,q9 qbD qb9 q3x),(134,q9 q0p q0O vb)] [(305,f305)] [] 0
noncomputable def uh:=qk qty 305 f305 true q5x q5C
theorem q4R:qz prog qa 305 (q9 q5x q5C uh):=sk qty qc q8 (alc qiu (alc qd9 aln)) aln (b1 func305) func305
def q1v:FIn:=⟨[(.ptr 0 0),.str,(.int .i64)],[.cells [(.int .i64)]]⟩
def q1g:List FOut:=[⟨.str,[.cells [(.int .i64)]],none⟩]
noncomputable def qdg:=qe [] [(380,f380)] [] 1
noncomputable def wS:=qk qdg 380 f380 true q1v q1g
theorem q7T:qz prog qa 380 (q9 q1v q1g wS):=sk qdg qc q8 aln aln (b1 func380) func380
def q7K:FIn:=⟨[(.ptr 0 0),.str,.str],[.cells [(.int .i64)]]⟩
def q7N:List FOut:=[⟨.str,[.cells [(.int .i64)]],none⟩]
noncomputable def qe8:=qe [(305,q9 q5x q5C uh),(380,q9 q1v q1g wS)] [(334,f334)] [] 1
noncomputable def kq:=qk qe8 334 f334 true q7K q7N
theorem qkx:qz prog qa 334 (q9 q7K q7N kq):=sk qe8 qc q8 (alc q4R (alc q7T aln)) aln (b1 func334) func334
def q7A:FIn:=⟨[(.ptr 0 0),.str,.str],[.cells [(.int .i64)]]⟩
def q6k:List FOut:=[⟨.str,[.cells [(.int .i64)]],none⟩]
noncomputable def qdT:=qe [(77,q9 q8v q8d vK),(380,q9 q1v q1g wS)] [(335,f335)] [] 1
noncomputable def kD:=qk qdT 335 f335 true q7A q6k
theorem qkK:qz prog qa 335 (q9 q7A q6k kD):=sk qdT qc q8 (alc q4U (alc q7T aln)) aln (b1 func335) func335
def qfL:FIn:=⟨[(.agg [(.int .i64),(.int .i64),(.imm [.str])]),(.int .i64),(.int .i64)],[]⟩
def qeG:List FOut:=[⟨.str,[],none⟩]
noncomputable def qmO:=qe [] [(336,f336)] [] 0
noncomputable def q4S:=qk qmO 336 f336 true qfL qeG
theorem qr4:qz prog qa 336 (q9 qfL qeG q4S):=sk qmO qc q8 aln aln (b1 func336) func336
def qfe:FIn:=⟨[(.agg [(.int .i64),(.int .i64),(.imm [.str])]),(.imm [.str])],[]⟩
def qfH:List FOut:=[⟨(.tuple [(.imm [.str]),(.int .i64)]),[],none⟩]
def q88:Tmpl:={ t:=(.any::(.imm [.str])::(.ptr 0 0)::qm 5 ((.ptr 1 0)::(.vec 2)::(.int .i64)::.str::qm 20 ((.int .i64)::(.int .i64)::.any::.any::(.imm [.str])::(.int .i64)::(.int .i64)::qm 30 []))),h:=[.cells [(.int .i64),(.int .i64),(.imm [.str])],.cells [(.int .i64)],.vec 108 [.str]] }
def q8h:List Out:=[⟨(.exit 2),{ t:=(.any::(.imm [.str])::(.ptr 0 0)::qm 5 ((.ptr 1 0)::(.vec 2)::.any::.str::qm 20 ((.int .i64)::(.int .i64)::qm 35 []))),h:=[.cells [(.int .i64),(.int .i64),(.imm [.str])],.cells [(.int .i64)],.vec 108 [.str]] }⟩]
noncomputable def q7I:List (FuncId×zj):=[(328,q9 qfC qfA jx),(333,q9 q5l q54 j4),(334,q9 q7K q7N kq),(335,q9 q7A q6k kD),(336,q9 qfL qeG q4S)]
theorem qah:∀x,x∈q7I->qz prog qa x.1 x.2:=(alc qgx (alc qdo (alc qkx (alc qkK (alc qr4 aln)))))
noncomputable def q3D:=qe q7I [(279,f279)] [] 0
noncomputable def yV:=z8 q3D 279 f279 24 q88 q8h
theorem qlD:qj prog qa q3D.nimp (qp prog q3D.iter 279) (qI f279 24) (qh q88 q8h (qf yV)):=gk q3D qc q8 qah aln (b1 func279) func279
def q8A:Tmpl:={ t:=(.any::(.imm [.str])::(.ptr 0 0)::qm 5 ((.ptr 1 0)::(.vec 2)::qm 22 ((.int .i64)::(.int .i64)::qm 35 []))),h:=[.cells [(.int .i64),(.int .i64),(.imm [.str])],.cells [(.int .i64)],.vec 108 [.str]],pro:=[(9,108,[.str])] }
def q8o:List Out:=[⟨(.exit 0),{ t:=(qm 8 ((.ptr 1 0)::(.vec 2)::qm 59 [])),h:=[.dead,.cells [(.int .i64)],.vec 108 [.str]] }⟩]
noncomputable def q3c:=qe q7I [(279,f279)] [((279,24),qh q88 q8h (qf yV))] 0
noncomputable def yT:=z8 q3c 279 f279 16 q8A q8o
theorem qlP:qj prog qa q3c.nimp (qp prog q3c.iter 279) (qI f279 16) (qh q8A q8o (qf yT)):=gk q3c qc q8 qah (alc (lk func279 qlD) aln) (b1 func279) func279
noncomputable def qmh:=qe q7I [(279,f279)] [((279,16),qh q8A q8o (qf yT))] 0
noncomputable def q4o:=qk qmh 279 f279 true qfe qfH
theorem qrb:qz prog qa 279 (q9 qfe qfH q4o):=sk qmh qc q8 qah (alc (lk func279 qlP) aln) (b1 func279) func279
def qmR:FIn:=⟨[(.imm [.str])],[]⟩
def qmU:List FOut:=[⟨(.tuple [.str,(.int .i64)]),[],none⟩]
def qfb:Tmpl:={ t:=(qm 5 (.str::qm 12 ((.imm [.str])::(.int .i64)::(.int .i64)::qm 15 []))),h:=[] }
def qfD:List Out:=[⟨(.exit 0),{ t:=(qm 5 (.str::qm 30 [])),h:=[] }⟩,⟨.ret,{ t:=(.any::.any::.str::(.int .i64)::qm 32 []),h:=[] }⟩]
noncomputable def q91:=qe [(137,q9 vt vA qC),(305,q9 q5x q5C uh)] [(280,f280)] [] 0
noncomputable def q20:=z8 q91 280 f280 11 qfb qfD
theorem qqY:qj prog qa q91.nimp (qp prog q91.iter 280) (qI f280 11) (qh qfb qfD (qf q20)):=gk q91 qc q8 (alc wX (alc q4R aln)) aln (b1 func280) func280
noncomputable def qtt:=qe [(137,q9 vt vA qC),(305,q9 q5x q5C uh)] [(280,f280)] [((280,11),qh qfb qfD (qf q20))] 0
noncomputable def qc9:=qk qtt 280 f280 true qmR qmU
theorem qwH:qz prog qa 280 (q9 qmR qmU qc9):=sk qtt qc q8 (alc wX (alc q4R aln)) (alc (lk func280 qqY) aln) (b1 func280) func280
def zY:FIn:=⟨[(.imm [.str]),(.imm [.str])],[]⟩
def zX:List FOut:=[⟨(.tuple [.str,(.int .i64)]),[],none⟩]
def vU:Tmpl:={ t:=(.any::(.imm [.str])::qm 4 (.str::qm 4 ((.imm [.str])::(.int .i64)::(.int .i64)::qm 27 []))),h:=[] }
def vC:List Out:=[⟨(.exit 0),{ t:=(qm 6 (.str::qm 34 [])),h:=[] }⟩,⟨.ret,{ t:=(qm 4 (.str::(.int .i64)::qm 35 [])),h:=[] }⟩]
noncomputable def zC:=qe [(77,q9 q8v q8d vK),(305,q9 q5x q5C uh)] [(282,f282)] [] 0
noncomputable def qM:=z8 zC 282 f282 4 vU vC
theorem q4i:qj prog qa zC.nimp (qp prog zC.iter 282) (qI f282 4) (qh vU vC (qf qM)):=gk zC qc q8 (alc q4U (alc q4R aln)) aln (b1 func282) func282
noncomputable def q0y:=qe [(77,q9 q8v q8d vK),(305,q9 q5x q5C uh)] [(282,f282)] [((282,4),qh vU vC (qf qM))] 0
noncomputable def qA:=qk q0y 282 f282 true zY zX
theorem uC:qz prog qa 282 (q9 zY zX qA):=sk q0y qc q8 (alc q4U (alc q4R aln)) (alc (lk func282 q4i) aln) (b1 func282) func282
def q4u:FIn:=⟨[(.agg [.str,.str,.str]),(.agg [(.int .i64),(.int .i64),(.int .i64)])],[]⟩
def q4G:List FOut:=[⟨(.tuple [.str,(.int .i64)]),[],none⟩]
def qaH:Tmpl:={ t:=(.any::.any::(.ptr 0 0)::.any::.any::.any::(.vec 2)::qm 5 ((.agg [(.int .i64),(.int .i64),(.int .i64)])::(.int .i64)::qm 25 [])),h:=[.cells [.str,.str,.str],.dead,.vec 108 [.str]],pro:=[(6,108,[.str])] }
def q9O:List Out:=[⟨(.exit 0),{ t:=(qm 6 ((.vec 2)::qm 32 [])),h:=[.dead,.dead,.vec 108 [.str]] }⟩,⟨.ret,{ t:=(qm 4 (.str::(.int .i64)::qm 33 [])),h:=[] }⟩]
noncomputable def qcd:List (FuncId×zj):=[(53,q9 q3V q3O wN),(210,q9 qhW qha wk),(281,q9 wT va qD),(282,q9 zY zX qA)]
theorem qiq:∀x,x∈qcd->qz prog qa x.1 x.2:=(alc q5f (alc qft (alc jE (alc uC aln))))
noncomputable def q4Z:=qe qcd [(283,f283)] [] 0
noncomputable def uX:=z8 q4Z 283 f283 4 qaH q9O
theorem qnb:qj prog qa q4Z.nimp (qp prog q4Z.iter 283) (qI f283 4) (qh qaH q9O (qf uX)):=gk q4Z qc q8 qiq aln (b1 func283) func283
noncomputable def qmB:=qe qcd [(283,f283)] [((283,4),qh qaH q9O (qf uX))] 0
noncomputable def vw:=qk qmB 283 f283 true q4u q4G
theorem q8R:qz prog qa 283 (q9 q4u q4G vw):=sk qmB qc q8 qiq (alc (lk func283 qnb) aln) (b1 func283) func283
def qai:FIn:=⟨[(.imm [(.int .i64),(.int .i64),(.int .i64)])],[]⟩
def q9R:List FOut:=[⟨(.tuple [(.agg [.str,.str,.str,.str,(.imm [.str])]),.bool,(.int .i64)]),[],none⟩]
def q5B:Tmpl:={ t:=((.imm [(.int .i64),(.int .i64),(.int .i64)])::.any::(.ptr 0 0)::.any::.any::(.int .i64)::(.vec 1)::(.vec 2)::(.int .i64)::qm 15 ((.int .i64)::(.int .i64)::.any::.any::(.int .i64)::(.int .i64)::qm 141 [])),h:=[.cells [.str,.str,.str,.str,.nils],.vec 3 [(.int .i64)],.vec 108 [.str]] }
def q5K:List Out:=[⟨(.exit 2),{ t:=((.imm [(.int .i64),(.int .i64),(.int .i64)])::.any::(.ptr 0 0)::.any::.any::(.int .i64)::(.vec 1)::(.vec 2)::(.int .i64)::qm 15 ((.int .i64)::(.int .i64)::qm 145 [])),h:=[.cells [.str,.str,.str,.str,.nils],.vec 3 [(.int .i64)],.vec 108 [.str]] }⟩]
noncomputable def yM:List (FuncId×zj):=[(53,q9 q3V q3O wN),(210,q9 qhW qha wk),(276,q9 qhV qhk q13),(277,q9 qnU qnA qds),(278,q9 qiW qiS ya),(279,q9 qfe qfH q4o),(280,q9 qmR qmU qc9),(281,q9 wT va qD),(282,q9 zY zX qA),(283,q9 q4u q4G vw)]
theorem kE:∀x,x∈yM->qz prog qa x.1 x.2:=(alc q5f (alc qft (alc qsz (alc qvX (alc qnP (alc qrb (alc qwH (alc jE (alc uC (alc q8R aln))))))))))
noncomputable def q1n:=qe yM [(228,f228)] [] 0
noncomputable def jh:=z8 q1n 228 f228 13 q5B q5K
theorem qj4:qj prog qa q1n.nimp (qp prog q1n.iter 228) (qI f228 13) (qh q5B q5K (qf jh)):=gk q1n qc q8 kE aln (b1 func228) func228
def q7L:Tmpl:={ t:=((.imm [(.int .i64),(.int .i64),(.int .i64)])::.any::(.ptr 0 0)::.any::.any::(.int .i64)::(.vec 1)::(.vec 2)::qm 16 ((.int .i64)::(.int .i64)::qm 145 [])),h:=[.cells [.str,.str,.str,.str,.nils],.vec 3 [(.int .i64)],.vec 108 [.str]],pro:=[(6,3,[(.int .i64)]),(7,108,[.str])] }
def q70:List Out:=[⟨(.exit 0),{ t:=((.imm [(.int .i64),(.int .i64),(.int .i64)])::.any::(.ptr 0 0)::.any::.any::(.int .i64)::(.vec 1)::(.vec 2)::qm 163 []),h:=[.cells [.str,.str,.str,.str,.nils],.vec 3 [(.int .i64)],.vec 108 [.str]] }⟩]
noncomputable def q2r:=qe yM [(228,f228)] [((228,13),qh q5B q5K (qf jh))] 0
noncomputable def jL:=z8 q2r 228 f228 6 q7L q70
theorem qju:qj prog qa q2r.nimp (qp prog q2r.iter 228) (qI f228 6) (qh q7L q70 (qf jL)):=gk q2r qc q8 kE (alc (lk func228 qj4) aln) (b1 func228) func228
def q5y:Tmpl:={ t:=((.imm [(.int .i64),(.int .i64),(.int .i64)])::.any::(.ptr 0 0)::qm 13 ((.ptr 6 0)::(.int .i64)::(.vec 7)::qm 107 ((.int .i64)::.any::.any::(.imm [(.int .i64),(.int .i64),(.int .i64)])::(.int .i64)::(.int .i64)::qm 39 []))),h:=[.cells [.str,.str,.str,.str,.nils],.dead,.dead,.dead,.dead,.frz 108 [.str],.cells [.str,.str,.str,.str,(.vec 5)],.vec 108 [.str]],pro:=[(18,108,[.str])] }
def q5N:List Out:=[⟨(.exit 6),{ t:=((.imm [(.int .i64),(.int .i64),(.int .i64)])::.any::(.ptr 0 0)::qm 13 ((.ptr 6 0)::(.int .i64)::(.vec 7)::qm 107 ((.int .i64)::qm 44 []))),h:=[.cells [.str,.str,.str,.str,.nils],.dead,.dead,.dead,.dead,.frz 108 [.str],.cells [.str,.str,.str,.str,(.vec 5)],.vec 108 [.str]] }⟩]
noncomputable def q0Z:=qe yM [(228,f228)] [] 0
noncomputable def ja:=z8 q0Z 228 f228 52 q5y q5N
theorem qjb:qj prog qa q0Z.nimp (qp prog q0Z.iter 228) (qI f228 52) (qh q5y q5N (qf ja)):=gk q0Z qc q8 kE aln (b1 func228) func228
def q5I:Tmpl:={ t:=((.imm [(.int .i64),(.int .i64),(.int .i64)])::.any::(.ptr 0 0)::qm 13 ((.ptr 6 0)::qm 109 ((.int .i64)::qm 44 []))),h:=[.cells [.str,.str,.str,.str,.nils],.dead,.dead,.dead,.dead,.frz 108 [.str],.cells [.str,.str,.str,.str,(.vec 5)]],fz:=[5] }
def q5R:List Out:=[⟨(.exit 4),{ t:=((.imm [(.int .i64),(.int .i64),(.int .i64)])::.any::(.ptr 0 0)::qm 13 ((.ptr 6 0)::qm 154 [])),h:=[.cells [.str,.str,.str,.str,.nils],.dead,.dead,.dead,.dead,.frz 108 [.str],.cells [.str,.str,.str,.str,(.vec 5)]] }⟩,⟨.ret,{ t:=(.any::.any::(.ptr 0 0)::.bool::(.int .i64)::qm 166 []),h:=[.cells [.str,.str,.str,.str,.nils]] }⟩]
noncomputable def q12:=qe yM [(228,f228)] [((228,52),qh q5y q5N (qf ja))] 0
noncomputable def jg:=z8 q12 228 f228 44 q5I q5R
theorem qj2:qj prog qa q12.nimp (qp prog q12.iter 228) (qI f228 44) (qh q5I q5R (qf jg)):=gk q12 qc q8 kE (alc (lk func228 qjb) aln) (b1 func228) func228
noncomputable def qim:=qe yM [(228,f228)] [((228,6),qh q7L q70 (qf jL)),((228,44),qh q5I q5R (qf jg))] 0
noncomputable def uZ:=qk qim 228 f228 true qai q9R
theorem qnQ:qz prog qa 228 (q9 qai q9R uZ):=sk qim qc q8 kE (alc (lk func228 qju) (alc (lk func228 qj2) aln)) (b1 func228) func228
def q9E:FIn:=⟨[(.imm [(.int .i64),(.int .i64),(.int .i64)]),(.imm [(.int .i64)])],[]⟩
def qak:List FOut:=[⟨(.imm [(.int .i64),(.int .i64),(.int .i64)]),[],none⟩]
def q7o:Tmpl:={ t:=((.imm [(.int .i64),(.int .i64),(.int .i64)])::qm 4 ((.vec 0)::.any::.any::(.imm [(.int .i64)])::(.int .i64)::(.int .i64)::qm 12 [])),h:=[.vec 71 [(.int .i64),(.int .i64),(.int .i64)]],pro:=[(5,71,[(.int .i64),(.int .i64),(.int .i64)])] }
def q6U:List Out:=[⟨(.exit 0),{ t:=(qm 5 ((.vec 0)::qm 17 [])),h:=[.vec 71 [(.int .i64),(.int .i64),(.int .i64)]] }⟩]
noncomputable def q2p:=qe [] [(229,f229)] [] 0
noncomputable def jQ:=z8 q2p 229 f229 4 q7o q6U
theorem qkp:qj prog qa q2p.nimp (qp prog q2p.iter 229) (qI f229 4) (qh q7o q6U (qf jQ)):=gk q2p qc q8 aln aln (b1 func229) func229
noncomputable def qiA:=qe [] [(229,f229)] [((229,4),qh q7o q6U (qf jQ))] 0
noncomputable def q1F:=qk qiA 229 f229 true q9E qak
theorem qmZ:qz prog qa 229 (q9 q9E qak q1F):=sk qiA qc q8 aln (alc (lk func229 qkp) aln) (b1 func229) func229
def qh0:FIn:=⟨[.str],[]⟩
def qh6:List FOut:=[⟨(.tuple [.str,.str,(.int .i64)]),[],none⟩]
noncomputable def qp1:=qe [(138,q9 q1c q1o qV),(189,q9 q1q q1j zu)] [(338,f338)] [] 0
noncomputable def q7n:=qk qp1 338 f338 true qh0 qh6
theorem qsl:qz prog qa 338 (q9 qh0 qh6 q7n):=sk qp1 qc q8 (alc kI (alc q1L aln)) aln (b1 func338) func338
def qjI:FIn:=⟨[.str],[]⟩
def qkb:List FOut:=[⟨(.tuple [(.int .i64),(.int .i64)]),[],none⟩]
noncomputable def qrE:=qe [(192,q9 q9v q9t yH),(242,q9 kh kC qW)] [(339,f339)] [] 0
noncomputable def q9u:=qk qrE 339 f339 true qjI qkb
theorem qvb:qz prog qa 339 (q9 qjI qkb q9u):=sk qrE qc q8 (alc qcs (alc k8 aln)) aln (b1 func339) func339
def qk2:FIn:=⟨[.str],[]⟩
def qjJ:List FOut:=[⟨(.tuple [(.int .i64),(.int .i64)]),[],none⟩]
noncomputable def qsf:=qe [(338,q9 qh0 qh6 q7n),(339,q9 qjI qkb q9u)] [(286,f286)] [] 0
noncomputable def q61:=qk qsf 286 f286 true qk2 qjJ
theorem quD:qz prog qa 286 (q9 qk2 qjJ q61):=sk qsf qc q8 (alc qsl (alc qvb aln)) aln (b1 func286) func286
def zx:FIn:=⟨[.str],[]⟩
def zv:List FOut:=[⟨.bool,[],none⟩]
noncomputable def q4r:=qe [(286,q9 qk2 qjJ q61)] [(285,f285)] [] 0
noncomputable def qQ:=qk q4r 285 f285 true zx zv
theorem vj:qz prog qa 285 (q9 zx zv qQ):=sk q4r qc q8 (alc quD aln) aln (b1 func285) func285
def vn:FIn:=⟨[(.imm [.str]),(.fn 285 [] [])],[]⟩
def vq:List FOut:=[⟨(.int .i64),[],none⟩]
def wG:Tmpl:={ t:=((.imm [.str])::(.fn 285 [] [])::qm 5 ((.int .i64)::(.int .i64)::qm 10 [])),h:=[] }
def wM:List Out:=[⟨(.exit 0),{ t:=(qm 19 []),h:=[] }⟩,⟨.ret,{ t:=(qm 4 ((.int .i64)::qm 14 [])),h:=[] }⟩]
noncomputable def zg:=qe [(285,q9 zx zv qQ)] [(337,f337)] [] 0
noncomputable def qx:=z8 zg 337 f337 3 wG wM
theorem q2P:qj prog qa zg.nimp (qp prog zg.iter 337) (qI f337 3) (qh wG wM (qf qx)):=gk zg qc q8 (alc vj aln) aln (b1 func337) func337
noncomputable def uD:=qe [(285,q9 zx zv qQ)] [(337,f337)] [((337,3),qh wG wM (qf qx))] 0
noncomputable def qJ:=qk uD 337 f337 true vn vq
theorem q4b:qz prog qa 337 (q9 vn vq qJ):=sk uD qc q8 (alc vj aln) (alc (lk func337 q2P) aln) (b1 func337) func337
def wi:FIn:=⟨[(.imm [.str]),(.fn 285 [] [])],[]⟩
def wn:List FOut:=[⟨.bool,[],none⟩]
noncomputable def yk:=qe [(285,q9 zx zv qQ),(337,q9 vn vq qJ)] [(284,f284)] [] 0
noncomputable def qN:=qk yk 284 f284 true wi wn
theorem q2A:qz prog qa 284 (q9 wi wn qN):=sk yk qc q8 (alc vj (alc q4b aln)) aln (b1 func284) func284
def q1f:FIn:=⟨[(.agg [.str,.str,.str,.str,(.imm [.str])])],[]⟩
def q0Y:List FOut:=[⟨.bool,[],none⟩]
noncomputable def q6I:=qe [(284,q9 wi wn qN),(285,q9 zx zv qQ)] [(230,f230)] [] 0
noncomputable def vO:=qk q6I 230 f230 true q1f q0Y
theorem qdJ:qz prog qa 230 (q9 q1f q0Y vO):=sk q6I qc q8 (alc q2A (alc vj aln)) aln (b1 func230) func230
def q2C:FIn:=⟨[.str,.str],[]⟩
def q33:List FOut:=[⟨(.tuple [(.int .i64),(.int .i64)]),[],none⟩]
noncomputable def qjw:=qe [(136,q9 jY jZ qt),(137,q9 vt vA qC),(138,q9 q1c q1o qV),(139,q9 q6m q7l u6)] [(78,f78)] [] 0
noncomputable def wH:=qk qjw 78 f78 true q2C q33
theorem q7d:qz prog qa 78 (q9 q2C q33 wH):=sk qjw qc q8 (alc u5 (alc wX (alc kI (alc qes aln)))) aln (b1 func78) func78
def kO:FIn:=⟨[(.agg [.str,.str,.str,.str,(.imm [.str])]),(.imm [(.int .i64),(.int .i64),(.int .i64)])],[]⟩
def q02:List FOut:=[⟨(.tuple [.bool,(.int .i64)]),[],none⟩]
def ua:Tmpl:={ t:=(.any::.any::(.ptr 0 0)::qm 9 ((.imm [(.int .i64),(.int .i64),(.int .i64)])::(.int .i64)::(.int .i64)::qm 28 [])),h:=[.cells [.str,.str,.str,.str,(.imm [.str])]] }
def uf:List Out:=[⟨(.exit 0),{ t:=(qm 43 []),h:=[] }⟩,⟨.ret,{ t:=(qm 4 (.bool::(.int .i64)::qm 37 [])),h:=[] }⟩]
noncomputable def vH:=qe [(78,q9 q2C q33 wH),(283,q9 q4u q4G vw)] [(231,f231)] [] 0
noncomputable def qS:=z8 vH 231 f231 3 ua uf
theorem q9k:qj prog qa vH.nimp (qp prog vH.iter 231) (qI f231 3) (qh ua uf (qf qS)):=gk vH qc q8 (alc q7d (alc q8R aln)) aln (b1 func231) func231
noncomputable def q4O:=qe [(78,q9 q2C q33 wH),(283,q9 q4u q4G vw)] [(231,f231)] [((231,3),qh ua uf (qf qS))] 0
noncomputable def wI:=qk q4O 231 f231 true kO q02
theorem qbB:qz prog qa 231 (q9 kO q02 wI):=sk q4O qc q8 (alc q7d (alc q8R aln)) (alc (lk func231 q9k) aln) (b1 func231) func231
def q5L:FIn:=⟨[(.imm [(.int .i64),(.int .i64),(.int .i64)]),(.imm [(.int .i64)])],[]⟩
def q5z:List FOut:=[⟨(.tuple [(.agg [.str,.str,.str,.str,(.imm [.str])]),.bool,(.int .i64)]),[],none⟩]
noncomputable def qcH:=qe [(228,q9 qai q9R uZ),(229,q9 q9E qak q1F),(230,q9 q1f q0Y vO),(231,q9 kO q02 wI)] [(185,f185)] [] 0
noncomputable def zO:=qk qcH 185 f185 true q5L q5z
theorem qj8:qz prog qa 185 (q9 q5L q5z zO):=sk qcH qc q8 (alc qnQ (alc qmZ (alc qdJ (alc qbB aln)))) aln (b1 func185) func185
def qd1:FIn:=⟨[(.imm [(.int .i64),(.int .i64),(.int .i64)]),(.int .i64)],[]⟩
def qdh:List FOut:=[⟨(.tuple [(.agg [.str,.str,.str,.str,(.imm [.str])]),(.imm [(.int .i64)]),(.int .i64)]),[],none⟩]
def q28:Tmpl:={ t:=(.yld::.any::(.ptr 4 0)::.any::.any::(.vec 7)::.any::(.imm [(.int .i64)])::.any::(.int .i64)::.any::.any::(.int .i64)::(.int .i64)::.any::(.vec 6)::(.int .i64)::(.int .i64)::qm 35 []),h:=[.cells [(.imm [(.int .i64),(.int .i64),(.int .i64)])],.cells [.str,.str,.str,.str,.nils],.cells [.nils],.cells [(.int .i64)],.cells [(.int .i64)],.cells [(.int .i64)],.vec 38 [(.sl [(.int .i64)])],.vec 38 [(.sl [(.int .i64)])]],fs:=[[.any,.any,(.ptr 0 0),.any,(.ptr 1 0),(.ptr 2 0),(.ptr 3 0),.any,.any,.any,.any,.any,.any,.any,(.fn 226 [] [(.ptr 5 0),(.ptr 4 0)]),.any,.any,.any,.any,.any,.any,.any,.any,.any,.any,.any,.any,.any,.any,.any,.any],[]] }
def q2c:List Out:=[⟨(.exit 4),{ t:=(.yld::.any::(.ptr 4 0)::.any::.any::(.vec 7)::qm 6 ((.int .i64)::(.int .i64)::.any::(.vec 6)::(.int .i64)::(.int .i64)::qm 35 [])),h:=[.cells [(.imm [(.int .i64),(.int .i64),(.int .i64)])],.cells [.str,.str,.str,.str,.nils],.cells [.nils],.cells [(.int .i64)],.cells [(.int .i64)],.cells [(.int .i64)],.vec 38 [(.sl [(.int .i64)])],.vec 38 [(.sl [(.int .i64)])]],fs:=[[.any,.any,(.ptr 0 0),.any,(.ptr 1 0),(.ptr 2 0),(.ptr 3 0),.any,.any,.any,.any,.any,.any,.any,(.fn 226 [] [(.ptr 5 0),(.ptr 4 0)]),.any,.any,.any,.any,.any,.any,.any,.any,.any,.any,.any,.any,.any,.any,.any,.any],[]] }⟩,⟨.ret,{ t:=(qm 53 []),h:=[.cells [(.imm [(.int .i64),(.int .i64),(.int .i64)])],.cells [.str,.str,.str,.str,(.imm [.str])],.cells [(.vec 8)],.cells [(.int .i64)],.cells [(.int .i64)],.cells [(.int .i64)],.dead,.dead,.frz 3 [(.int .i64)]],fs:=[[.any,.any,(.ptr 0 0),.any,(.ptr 1 0),(.ptr 2 0),(.ptr 3 0),.any,.any,.any,.any,.any,.any,.any,(.fn 226 [] [(.ptr 5 0),(.ptr 4 0)]),.any,.any,.any,.any,.any,.any,.any,.any,.any,.any,.any,.any,.any,.any,.any,.any],[]],pend:=(.some .ret) }⟩]
noncomputable def q1K:List (FuncId×zj):=[(185,q9 q5L q5z zO),(227,q9 q2b q25 wC)]
theorem q3k:∀x,x∈q1K->qz prog qa x.1 x.2:=(alc qj8 (alc qfy aln))
noncomputable def ul:Env:={ tt:=qi6,glob:=qa,spec:=q1K,body:=[(131,f131),(184,f184),(226,f226)],loops:=[],nimp:=0,iter:=[(226,131,3)],raws:=[227] }
noncomputable def qF:=qEh ul (some (131,f131,3)) 226 f226 18 q28 q2c
theorem qfr:qj prog qa ul.nimp (qp prog ul.iter 226) (qI f226 18) (qh q28 q2c (qf qF)):=qem (E:=ul) qc ⟨qb0 q8,⟨q3k,aln⟩,aln,(alc (bk func131) (alc (bk func184) (alc (bk func226) aln)))⟩ func226 (by kernel_rfl) (y:=some (131,f131,3)) ⟨func131,by kernel_rfl⟩ (by kernel_rfl) (by kernel_rfl) (fun _=>rfl)
def q31:Tmpl:={ t:=(.yld::.any::(.ptr 4 0)::.any::.any::(.vec 7)::qm 6 ((.int .i64)::(.int .i64)::.any::(.vec 6)::(.int .i64)::(.int .i64)::qm 35 [])),h:=[.cells [(.imm [(.int .i64),(.int .i64),(.int .i64)])],.cells [.str,.str,.str,.str,.nils],.cells [.nils],.cells [(.int .i64)],.cells [(.int .i64)],.cells [(.int .i64)],.vec 38 [(.sl [(.int .i64)])],.vec 38 [(.sl [(.int .i64)])]],pro:=[(5,38,[(.sl [(.int .i64)])])],fs:=[[.any,.any,(.ptr 0 0),.any,(.ptr 1 0),(.ptr 2 0),(.ptr 3 0),.any,.any,.any,.any,.any,.any,.any,(.fn 226 [] [(.ptr 5 0),(.ptr 4 0)]),.any,.any,.any,.any,.any,.any,.any,.any,.any,.any,.any,.any,.any,.any,.any,.any],[]] }
def q3b:List Out:=[⟨(.exit 2),{ t:=(.yld::.any::(.ptr 4 0)::.any::.any::(.vec 7)::qm 6 ((.int .i64)::(.int .i64)::qm 39 [])),h:=[.cells [(.imm [(.int .i64),(.int .i64),(.int .i64)])],.cells [.str,.str,.str,.str,.nils],.cells [.nils],.cells [(.int .i64)],.cells [(.int .i64)],.cells [(.int .i64)],.dead,.vec 38 [(.sl [(.int .i64)])]],fs:=[[.any,.any,(.ptr 0 0),.any,(.ptr 1 0),(.ptr 2 0),(.ptr 3 0),.any,.any,.any,.any,.any,.any,.any,(.fn 226 [] [(.ptr 5 0),(.ptr 4 0)]),.any,.any,.any,.any,.any,.any,.any,.any,.any,.any,.any,.any,.any,.any,.any,.any],[]] }⟩,⟨.ret,{ t:=(qm 53 []),h:=[.cells [(.imm [(.int .i64),(.int .i64),(.int .i64)])],.cells [.str,.str,.str,.str,(.imm [.str])],.cells [(.vec 8)],.cells [(.int .i64)],.cells [(.int .i64)],.cells [(.int .i64)],.dead,.dead,.frz 3 [(.int .i64)]],fs:=[[.any,.any,(.ptr 0 0),.any,(.ptr 1 0),(.ptr 2 0),(.ptr 3 0),.any,.any,.any,.any,.any,.any,.any,(.fn 226 [] [(.ptr 5 0),(.ptr 4 0)]),.any,.any,.any,.any,.any,.any,.any,.any,.any,.any,.any,.any,.any,.any,.any,.any],[]],pend:=(.some .ret) }⟩]
noncomputable def kl:Env:={ tt:=qi6,glob:=qa,spec:=q1K,body:=[(131,f131),(184,f184),(226,f226)],loops:=[((226,18),qh q28 q2c (qf qF))],nimp:=0,iter:=[(226,131,3)],raws:=[227] }
noncomputable def v8:=qEh kl (some (131,f131,3)) 226 f226 9 q31 q3b
theorem qgn:qj prog qa kl.nimp (qp prog kl.iter 226) (qI f226 9) (qh q31 q3b (qf v8)):=qem (E:=kl) qc ⟨qb0 q8,⟨q3k,aln⟩,(alc (lk func226 qfr) aln),(alc (bk func131) (alc (bk func184) (alc (bk func226) aln)))⟩ func226 (by kernel_rfl) (y:=some (131,f131,3)) ⟨func131,by kernel_rfl⟩ (by kernel_rfl) (by kernel_rfl) (fun _=>rfl)
def q2L:Tmpl:={ t:=(.yld::.any::(.ptr 4 0)::.any::(.vec 6)::qm 7 ((.int .i64)::(.int .i64)::qm 39 [])),h:=[.cells [(.imm [(.int .i64),(.int .i64),(.int .i64)])],.cells [.str,.str,.str,.str,.nils],.cells [.nils],.cells [(.int .i64)],.cells [(.int .i64)],.cells [(.int .i64)],.vec 38 [(.sl [(.int .i64)])]],sw:=[(2,4),(4,6)],swn:=0,fs:=[[.any,.any,(.ptr 0 0),.any,(.ptr 1 0),(.ptr 2 0),(.ptr 3 0),.any,.any,.any,.any,.any,.any,.any,(.fn 226 [] [(.ptr 5 0),(.ptr 4 0)]),.any,.any,.any,.any,.any,.any,.any,.any,.any,.any,.any,.any,.any,.any,.any,.any],[]] }
def q2X:List Out:=[⟨(.exit 0),{ t:=(qm 53 []),h:=[.cells [(.imm [(.int .i64),(.int .i64),(.int .i64)])],.cells [.str,.str,.str,.str,.nils],.cells [.nils],.cells [(.int .i64)],.cells [(.int .i64)],.cells [(.int .i64)]],fs:=[[.any,.any,(.ptr 0 0),.any,(.ptr 1 0),(.ptr 2 0),(.ptr 3 0),.any,.any,.any,.any,.any,.any,.any,(.fn 226 [] [(.ptr 5 0),(.ptr 4 0)]),.any,.any,.any,.any,.any,.any,.any,.any,.any,.any,.any,.any,.any,.any,.any,.any],[]] }⟩,⟨.ret,{ t:=(qm 53 []),h:=[.cells [(.imm [(.int .i64),(.int .i64),(.int .i64)])],.cells [.str,.str,.str,.str,(.imm [.str])],.cells [(.vec 8)],.cells [(.int .i64)],.cells [(.int .i64)],.cells [(.int .i64)],.dead,.dead,.frz 3 [(.int .i64)]],fs:=[[.any,.any,(.ptr 0 0),.any,(.ptr 1 0),(.ptr 2 0),(.ptr 3 0),.any,.any,.any,.any,.any,.any,.any,(.fn 226 [] [(.ptr 5 0),(.ptr 4 0)]),.any,.any,.any,.any,.any,.any,.any,.any,.any,.any,.any,.any,.any,.any,.any,.any],[]],pend:=(.some .ret) }⟩]
noncomputable def ky:Env:={ tt:=qi6,glob:=qa,spec:=q1K,body:=[(131,f131),(184,f184),(226,f226)],loops:=[((226,9),qh q31 q3b (qf v8))],nimp:=0,iter:=[(226,131,3)],raws:=[227] }
noncomputable def v7:=qEh ky (some (131,f131,3)) 226 f226 2 q2L q2X
theorem qgP:qj prog qa ky.nimp (qp prog ky.iter 226) (qI f226 2) (qh q2L q2X (qf v7)):=qem (E:=ky) qc ⟨qb0 q8,⟨q3k,aln⟩,(alc (lk func226 qgn) aln),(alc (bk func131) (alc (bk func184) (alc (bk func226) aln)))⟩ func226 (by kernel_rfl) (y:=some (131,f131,3)) ⟨func131,by kernel_rfl⟩ (by kernel_rfl) (by kernel_rfl) (fun _=>rfl)
noncomputable def qk7:Env:={ tt:=qi6,glob:=qa,spec:=q1K,body:=[(131,f131),(184,f184),(226,f226)],loops:=[((226,2),qh q2L q2X (qf v7))],nimp:=0,iter:=[(226,131,3)],raws:=[227] }
noncomputable def q0C:=qk qk7 131 f131 true qd1 qdh
theorem qoN:qz prog qa 131 (q9 qd1 qdh q0C):=sk qk7 qc q8 q3k (alc (lk func226 qgP) aln) (alc (bk func131) (alc (bk func184) (alc (bk func226) aln))) func131
def q9N:FIn:=⟨[(.imm [(.int .i64),(.int .i64)])],[]⟩
def qaC:List FOut:=[⟨(.imm [(.int .i64),(.int .i64),(.int .i64)]),[],none⟩]
def q7f:Tmpl:={ t:=(.any::.any::.any::(.vec 0)::.any::.any::(.imm [(.int .i64),(.int .i64)])::(.int .i64)::(.int .i64)::qm 13 []),h:=[.vec 71 [(.int .i64),(.int .i64),(.int .i64)]],pro:=[(3,71,[(.int .i64),(.int .i64),(.int .i64)])] }
def q6O:List Out:=[⟨(.exit 0),{ t:=(.any::.any::.any::(.vec 0)::qm 18 []),h:=[.vec 71 [(.int .i64),(.int .i64),(.int .i64)]] }⟩]
noncomputable def q2n:=qe [] [(132,f132)] [] 0
noncomputable def jD:=z8 q2n 132 f132 4 q7f q6O
theorem qjr:qj prog qa q2n.nimp (qp prog q2n.iter 132) (qI f132 4) (qh q7f q6O (qf jD)):=gk q2n qc q8 aln aln (b1 func132) func132
noncomputable def qiF:=qe [] [(132,f132)] [((132,4),qh q7f q6O (qf jD))] 0
noncomputable def q1H:=qk qiF 132 f132 true q9N qaC
theorem qnk:qz prog qa 132 (q9 q9N qaC q1H):=sk qiF qc q8 aln (alc (lk func132 qjr) aln) (b1 func132) func132
def q2i:FIn:=⟨[(.agg [.str,.str,.str,.str,(.imm [.str])])],[]⟩
def q2j:List FOut:=[⟨(.agg [.str,.str]),[],none⟩]
noncomputable def q7W:=qe [] [(133,f133)] [] 0
noncomputable def ut:=qk q7W 133 f133 true q2i q2j
theorem qeS:qz prog qa 133 (q9 q2i q2j ut):=sk q7W qc q8 aln aln (b1 func133) func133
def qa3:FIn:=⟨[(.imm [(.int .i64),(.int .i64)])],[]⟩
def qao:List FOut:=[⟨(.tuple [(.agg [.str,.str]),.str,(.imm [(.int .i64)]),(.int .i64)]),[],none⟩]
noncomputable def qiO:=qe [(130,q9 qfj qfs q4l),(131,q9 qd1 qdh q0C),(132,q9 q9N qaC q1H),(133,q9 q2i q2j ut)] [(76,f76)] [] 0
noncomputable def jT:=qk qiO 76 f76 true qa3 qao
theorem qnL:qz prog qa 76 (q9 qa3 qao jT):=sk qiO qc q8 (alc qrf (alc qoN (alc qnk (alc qeS aln)))) aln (b1 func76) func76
def qlw:FIn:=⟨[(.imm [(.int .i64),(.int .i64)]),(.int .i64)],[]⟩
def qlc:List FOut:=[⟨(.tuple [.bool,(.int .i64)]),[],none⟩]
noncomputable def qxv:=qe [(53,q9 q3V q3O wN),(76,q9 qa3 qao jT),(77,q9 q8v q8d vK),(78,q9 q2C q33 wH)] [(27,f27)] [] 0
noncomputable def jH:=qk qxv 27 f27 true qlw qlc
theorem qoG:qz prog qa 27 (q9 qlw qlc jH):=sk qxv qc q8 (alc q5f (alc qnL (alc q4U (alc q7d aln)))) aln (b1 func27) func27
def qfN:FIn:=⟨[(.agg [(.int .i64),(.int .i64),(.int .i64)]),(.agg [(.int .i64),(.int .i64),(.int .i64)])],[]⟩
def qfp:List FOut:=[⟨(.agg [(.int .i64),(.int .i64),(.int .i64)]),[],none⟩]
noncomputable def qmq:=qe [] [(151,f151)] [] 0
noncomputable def q98:=qk qmq 151 f151 true qfN qfp
theorem qra:qz prog qa 151 (q9 qfN qfp q98):=sk qmq qc q8 aln aln (b1 func151) func151
def q8F:FIn:=⟨[(.agg [(.int .i64),(.int .i64),(.int .i64)]),(.agg [(.int .i64),(.int .i64),(.int .i64)])],[]⟩
def q8n:List FOut:=[⟨(.int .i64),[],none⟩]
noncomputable def qgp:=qe [] [(152,f152)] [] 0
noncomputable def q3l:=qk qgp 152 f152 true q8F q8n
theorem qlF:qz prog qa 152 (q9 q8F q8n q3l):=sk qgp qc q8 aln aln (b1 func152) func152
def q07:FIn:=⟨[(.agg [(.int .i64),(.int .i64),(.int .i64)]),(.agg [(.int .i64),(.int .i64),(.int .i64)])],[]⟩
def q0b:List FOut:=[⟨(.tuple [(.int .i64),(.int .i64)]),[],none⟩]
noncomputable def qaN:=qe [(126,q9 q10 q1p yt),(150,q9 km ko zo),(151,q9 qfN qfp q98),(152,q9 q8F q8n q3l)] [(90,f90)] [] 0
noncomputable def vV:=qk qaN 90 f90 true q07 q0b
theorem q7w:qz prog qa 90 (q9 q07 q0b vV):=sk qaN qc q8 (alc q1C (alc q6g (alc qra (alc qlF aln)))) aln (b1 func90) func90
def q3g:FIn:=⟨[(.imm [(.int .i64),(.int .i64),(.int .i64),(.int .i64),(.int .i64),(.int .i64)])],[]⟩
def q42:List FOut:=[⟨(.tuple [(.imm [(.int .i64)]),(.int .i64)]),[],none⟩]
def qdv:Tmpl:={ t:=(qm 4 ((.vec 0)::qm 7 ((.imm [(.int .i64),(.int .i64),(.int .i64),(.int .i64),(.int .i64),(.int .i64)])::(.int .i64)::(.int .i64)::qm 20 []))),h:=[.vec 3 [(.int .i64)]],pro:=[(4,3,[(.int .i64)])] }
def qcV:List Out:=[⟨(.exit 0),{ t:=(qm 4 ((.vec 0)::qm 30 [])),h:=[.vec 3 [(.int .i64)]] }⟩,⟨.ret,{ t:=(.any::.any::.nils::(.int .i64)::qm 31 []),h:=[] }⟩]
noncomputable def q7m:=qe [(90,q9 q07 q0b vV)] [(34,f34)] [] 0
noncomputable def q0K:=z8 q7m 34 f34 7 qdv qcV
theorem qoH:qj prog qa q7m.nimp (qp prog q7m.iter 34) (qI f34 7) (qh qdv qcV (qf q0K)):=gk q7m qc q8 (alc q7w aln) aln (b1 func34) func34
noncomputable def qpy:=qe [(90,q9 q07 q0b vV)] [(34,f34)] [((34,7),qh qdv qcV (qf q0K))] 0
noncomputable def vQ:=qk qpy 34 f34 true q3g q42
theorem q50:qz prog qa 34 (q9 q3g q42 vQ):=sk qpy qc q8 (alc q7w aln) (alc (lk func34 qoH) aln) (b1 func34) func34
def q7D:FIn:=⟨[(.int .i64)],[]⟩
def q6G:List FOut:=[⟨.bool,[],none⟩]
noncomputable def qet:=qe [] [(173,f173)] [] 0
noncomputable def wu:=qk qet 173 f173 true q7D q6G
theorem qki:qz prog qa 173 (q9 q7D q6G wu):=sk qet qc q8 aln aln (b1 func173) func173
def q82:FIn:=⟨[(.agg [(.int .i64),(.int .i64)])],[]⟩
def q85:List FOut:=[⟨(.int .i64),[],none⟩]
noncomputable def qgk:=qe [(173,q9 q7D q6G wu)] [(113,f113)] [] 0
noncomputable def q0z:=qk qgk 113 f113 true q82 q85
theorem qlG:qz prog qa 113 (q9 q82 q85 q0z):=sk qgk qc q8 (alc qki aln) aln (b1 func113) func113
def qhT:FIn:=⟨[(.agg [(.int .i64),(.int .i64)])],[]⟩
def qhq:List FOut:=[⟨(.int .i64),[],none⟩]
noncomputable def qqe:=qe [(113,q9 q82 q85 q0z)] [(87,f87)] [] 0
noncomputable def q7g:=qk qqe 87 f87 true qhT qhq
theorem qsv:qz prog qa 87 (q9 qhT qhq q7g):=sk qqe qc q8 (alc qlG aln) aln (b1 func87) func87
def q4s:FIn:=⟨[(.int .i64),(.ptr 0 0)],[.cells [(.int .i64),(.int .i64)]]⟩
def q4F:List FOut:=[⟨.bool,[.cells [(.int .i64),(.int .i64)]],none⟩]
noncomputable def qma:=qe [] [(89,f89)] [] 1
noncomputable def q1X:=qk qma 89 f89 true q4s q4F
theorem q8H:qz prog qa 89 (q9 q4s q4F q1X):=sk qma qc q8 aln aln (b1 func89) func89
def uJ:FIn:=⟨[(.imm [(.int .i64)]),(.fn 89 [] [(.ptr 0 0)])],[.cells [(.int .i64),(.int .i64)]]⟩
def uH:List FOut:=[⟨(.int .i64),[.cells [(.int .i64),(.int .i64)]],none⟩]
def yq:Tmpl:={ t:=((.imm [(.int .i64)])::(.fn 89 [] [(.ptr 0 0)])::qm 5 ((.int .i64)::(.int .i64)::qm 10 [])),h:=[.cells [(.int .i64),(.int .i64)]] }
def yA:List Out:=[⟨(.exit 0),{ t:=(qm 19 []),h:=[.cells [(.int .i64),(.int .i64)]] }⟩,⟨.ret,{ t:=(qm 4 ((.int .i64)::qm 14 [])),h:=[.cells [(.int .i64),(.int .i64)]] }⟩]
noncomputable def vl:=qe [(89,q9 q4s q4F q1X)] [(88,f88)] [] 1
noncomputable def z7:=z8 vl 88 f88 3 yq yA
theorem q8O:qj prog qa vl.nimp (qp prog vl.iter 88) (qI f88 3) (qh yq yA (qf z7)):=gk vl qc q8 (alc q8H aln) aln (b1 func88) func88
noncomputable def q43:=qe [(89,q9 q4s q4F q1X)] [(88,f88)] [((88,3),qh yq yA (qf z7))] 1
noncomputable def w8:=qk q43 88 f88 true uJ uH
theorem qat:qz prog qa 88 (q9 uJ uH w8):=sk q43 qc q8 (alc q8H aln) (alc (lk func88 q8O) aln) (b1 func88) func88
def qez:FIn:=⟨[(.imm [(.int .i64),(.int .i64),(.int .i64),(.int .i64),(.int .i64),(.int .i64)]),(.agg [(.int .i64),(.int .i64)])],[]⟩
def qeA:List FOut:=[⟨(.tuple [.bool,(.int .i64),(.int .i64)]),[],none⟩]
noncomputable def qrJ:=qe [(34,q9 q3g q42 vQ),(87,q9 qhT qhq q7g),(88,q9 uJ uH w8),(89,q9 q4s q4F q1X)] [(31,f31)] [] 0
noncomputable def q0S:=qk qrJ 31 f31 true qez qeA
theorem qkl:qz prog qa 31 (q9 qez qeA q0S):=sk qrJ qc q8 (alc q50 (alc qsv (alc qat (alc q8H aln)))) aln (b1 func31) func31
def ur:FIn:=⟨[(.imm [(.int .i64)]),(.imm [(.int .i64)])],[]⟩
def uq:List FOut:=[⟨.bool,[],none⟩]
def q0v:Tmpl:={ t:=((.imm [(.int .i64)])::(.imm [(.int .i64)])::qm 10 ((.int .i64)::(.int .i64)::qm 12 [])),h:=[] }
def q0N:List Out:=[⟨(.exit 0),{ t:=(qm 26 []),h:=[] }⟩,⟨.ret,{ t:=(qm 4 (.bool::qm 21 [])),h:=[] }⟩]
noncomputable def jC:=qe [] [(39,f39)] [] 0
noncomputable def zI:=z8 jC 39 f39 6 q0v q0N
theorem qdB:qj prog qa jC.nimp (qp prog jC.iter 39) (qI f39 6) (qh q0v q0N (qf zI)):=gk jC qc q8 aln aln (b1 func39) func39
noncomputable def q7X:=qe [] [(39,f39)] [((39,6),qh q0v q0N (qf zI))] 0
noncomputable def zA:=qk q7X 39 f39 true ur uq
theorem q4Y:qz prog qa 39 (q9 ur uq zA):=sk q7X qc q8 aln (alc (lk func39 qdB) aln) (b1 func39) func39
def qjD:FIn:=⟨[],[]⟩
def qkr:List FOut:=[⟨(.agg [(.int .i64),(.imm [(.int .i64),(.int .i64),(.int .i64)]),(.imm [(.int .i64),(.int .i64),(.int .i64)])]),[],none⟩]
noncomputable def qs4:=qe [] [(67,f67)] [] 0
noncomputable def qeg:=qk qs4 67 f67 true qjD qkr
theorem quH:qz prog qa 67 (q9 qjD qkr qeg):=sk qs4 qc q8 aln aln (b1 func67) func67
def qb1:FIn:=⟨[],[]⟩
def qb3:List FOut:=[⟨.bool,[],none⟩]
noncomputable def qpM:=qe [(20,q9 qhC qhj q3e),(22,q9 qhF qhz q6q),(27,q9 qlw qlc jH),(31,q9 qez qeA q0S),(34,q9 q3g q42 vQ),(39,q9 ur uq zA),(67,q9 qjD qkr qeg)] [(19,f19)] [] 0
noncomputable def yo:=qk qpM 19 f19 true qb1 qb3
theorem qil:qz prog qa 19 (q9 qb1 qb3 yo):=sk qpM qc q8 (alc qsQ (alc qsC (alc qoG (alc qkl (alc q50 (alc q4Y (alc quH aln))))))) aln (b1 func19) func19
def qlr:FIn:=⟨[(.int .i64)],[]⟩
def ql8:List FOut:=[⟨.bool,[],none⟩]
noncomputable def qxc:=qe [] [(96,f96)] [] 0
noncomputable def jd:=qk qxc 96 f96 true qlr ql8
theorem qpi:qz prog qa 96 (q9 qlr ql8 jd):=sk qxc qc q8 aln aln (b1 func96) func96
def q3P:FIn:=⟨[(.agg [(.int .i64),(.int .i64),(.int .i64)])],[]⟩
def q3h:List FOut:=[⟨.bool,[],none⟩]
noncomputable def qgC:=qe [(96,q9 qlr ql8 jd)] [(153,f153)] [] 0
noncomputable def jb:=qk qgC 153 f153 true q3P q3h
theorem qaS:qz prog qa 153 (q9 q3P q3h jb):=sk qgC qc q8 (alc qpi aln) aln (b1 func153) func153
def qnB:FIn:=⟨[(.imm [(.int .i64),(.int .i64)])],[]⟩
def qn8:List FOut:=[⟨.bool,[],none⟩]
noncomputable def quQ:=qe [] [(26,f26)] [] 0
noncomputable def qdn:=qk quQ 26 f26 true qnB qn8
theorem qwp:qz prog qa 26 (q9 qnB qn8 qdn):=sk quQ qc q8 aln aln (b1 func26) func26
def qbo:FIn:=⟨[(.agg [(.int .i64),(.int .i64)])],[]⟩
def qb5:List FOut:=[⟨.bool,[],none⟩]
noncomputable def qoS:=qe [(96,q9 qlr ql8 jd)] [(48,f48)] [] 0
noncomputable def q3U:=qk qoS 48 f48 true qbo qb5
theorem qiZ:qz prog qa 48 (q9 qbo qb5 q3U):=sk qoS qc q8 (alc qpi aln) aln (b1 func48) func48
def qbQ:FIn:=⟨[(.imm [(.int .i64),(.int .i64)])],[]⟩
def qbJ:List FOut:=[⟨(.int .i64),[],none⟩]
def qcl:Tmpl:={ t:=((.imm [(.int .i64),(.int .i64)])::.any::.any::(.int .i64)::qm 15 []),h:=[] }
def qcg:List Out:=[⟨(.exit 0),{ t:=(qm 19 []),h:=[] }⟩,⟨.ret,{ t:=(.any::.any::(.int .i64)::qm 16 []),h:=[] }⟩]
noncomputable def q6K:=qe [(48,q9 qbo qb5 q3U)] [(29,f29)] [] 0
noncomputable def ug:=z8 q6K 29 f29 6 qcl qcg
theorem qoY:qj prog qa q6K.nimp (qp prog q6K.iter 29) (qI f29 6) (qh qcl qcg (qf ug)):=gk q6K qc q8 (alc qiZ aln) aln (b1 func29) func29
noncomputable def qpg:=qe [(48,q9 qbo qb5 q3U)] [(29,f29)] [((29,6),qh qcl qcg (qf ug))] 0
noncomputable def q18:=qk qpg 29 f29 true qbQ qbJ
theorem qiE:qz prog qa 29 (q9 qbQ qbJ q18):=sk qpg qc q8 (alc qiZ aln) (alc (lk func29 qoY) aln) (b1 func29) func29
def qjn:FIn:=⟨[(.imm [(.int .i64),(.int .i64)])],[]⟩
def qkj:List FOut:=[⟨(.int .i64),[],none⟩]
noncomputable def qrC:=qe [(29,q9 qbQ qbJ q18)] [(140,f140)] [] 0
noncomputable def q9y:=qk qrC 140 f140 true qjn qkj
theorem quB:qz prog qa 140 (q9 qjn qkj q9y):=sk qrC qc q8 (alc qiE aln) aln (b1 func140) func140
def q4g:FIn:=⟨[(.int .i64),(.int .i64)],[]⟩
def q4h:List FOut:=[⟨(.imm [(.sl [(.int .i64)])]),[],none⟩]
noncomputable def qmr:=qe [] [] [] 0
noncomputable def yC:=qk qmr 195 f195 true q4g q4h
theorem q8i:qz prog qa 195 (q9 q4g q4h yC):=sk qmr qc q8 aln aln aln func195
def q4t:FIn:=⟨[(.int .i64),(.int .i64)],[]⟩
def q4A:List FOut:=[⟨(.imm [(.sl [(.int .i64)])]),[],none⟩]
def q8a:Tmpl:={ t:=((.int .i64)::qm 4 ((.vec 0)::.any::(.imm [(.int .i64)])::.any::(.int .i64)::qm 6 ((.imm [(.sl [(.int .i64)])])::(.int .i64)::(.int .i64)::qm 30 []))),h:=[.vec 38 [(.sl [(.int .i64)])]] }
def q86:List Out:=[⟨(.exit 2),{ t:=((.int .i64)::qm 4 ((.vec 0)::qm 10 ((.imm [(.sl [(.int .i64)])])::(.int .i64)::(.int .i64)::qm 30 []))),h:=[.vec 38 [(.sl [(.int .i64)])]] }⟩]
noncomputable def q3T:=qe [(195,q9 q4g q4h yC)] [] [] 0
noncomputable def yO:=z8 q3T 195 f195 16 q8a q86
theorem qlJ:qj prog qa q3T.nimp (qp prog q3T.iter 195) (qI f195 16) (qh q8a q86 (qf yO)):=gk q3T qc q8 (alc q8i aln) aln aln func195
def qam:Tmpl:={ t:=((.int .i64)::qm 4 ((.vec 0)::qm 10 ((.imm [(.sl [(.int .i64)])])::(.int .i64)::(.int .i64)::qm 30 []))),h:=[.vec 38 [(.sl [(.int .i64)])]],pro:=[(5,38,[(.sl [(.int .i64)])])] }
def qa0:List Out:=[⟨(.exit 0),{ t:=(qm 5 ((.vec 0)::qm 43 [])),h:=[.vec 38 [(.sl [(.int .i64)])]] }⟩]
noncomputable def q51:=qe [(195,q9 q4g q4h yC)] [] [((195,16),qh q8a q86 (qf yO))] 0
noncomputable def q1M:=z8 q51 195 f195 7 qam qa0
theorem qo3:qj prog qa q51.nimp (qp prog q51.iter 195) (qI f195 7) (qh qam qa0 (qf q1M)):=gk q51 qc q8 (alc q8i aln) (alc (lk func195 qlJ) aln) aln func195
noncomputable def qm9:=qe [(195,q9 q4g q4h yC)] [] [((195,7),qh qam qa0 (qf q1M))] 0
noncomputable def kY:=qk qm9 195 f195 true q4t q4A
theorem q8s:qz prog qa 195 (q9 q4t q4A kY):=sk qm9 qc q8 (alc q8i aln) (alc (lk func195 qo3) aln) aln func195
def q4P:FIn:=⟨[(.int .i64),(.int .i64)],[]⟩
def q4v:List FOut:=[⟨(.imm [(.sl [(.int .i64)])]),[],none⟩]
def q8b:Tmpl:={ t:=((.int .i64)::qm 4 ((.vec 0)::.any::(.imm [(.int .i64)])::.any::(.int .i64)::qm 6 ((.imm [(.sl [(.int .i64)])])::(.int .i64)::(.int .i64)::qm 30 []))),h:=[.vec 38 [(.sl [(.int .i64)])]] }
def q8c:List Out:=[⟨(.exit 2),{ t:=((.int .i64)::qm 4 ((.vec 0)::qm 10 ((.imm [(.sl [(.int .i64)])])::(.int .i64)::(.int .i64)::qm 30 []))),h:=[.vec 38 [(.sl [(.int .i64)])]] }⟩]
noncomputable def q41:=qe [(195,q9 q4t q4A kY)] [] [] 0
noncomputable def yS:=z8 q41 195 f195 16 q8b q8c
theorem qlE:qj prog qa q41.nimp (qp prog q41.iter 195) (qI f195 16) (qh q8b q8c (qf yS)):=gk q41 qc q8 (alc q8s aln) aln aln func195
def q9F:Tmpl:={ t:=((.int .i64)::qm 4 ((.vec 0)::qm 10 ((.imm [(.sl [(.int .i64)])])::(.int .i64)::(.int .i64)::qm 30 []))),h:=[.vec 38 [(.sl [(.int .i64)])]],pro:=[(5,38,[(.sl [(.int .i64)])])] }
def qal:List Out:=[⟨(.exit 0),{ t:=(qm 5 ((.vec 0)::qm 43 [])),h:=[.vec 38 [(.sl [(.int .i64)])]] }⟩]
noncomputable def q5i:=qe [(195,q9 q4t q4A kY)] [] [((195,16),qh q8b q8c (qf yS))] 0
noncomputable def q1O:=z8 q5i 195 f195 7 q9F qal
theorem qn9:qj prog qa q5i.nimp (qp prog q5i.iter 195) (qI f195 7) (qh q9F qal (qf q1O)):=gk q5i qc q8 (alc q8s aln) (alc (lk func195 qlE) aln) aln func195
noncomputable def qmJ:=qe [(195,q9 q4t q4A kY)] [] [((195,7),qh q9F qal (qf q1O))] 0
noncomputable def kH:=qk qmJ 195 f195 true q4P q4v
theorem q87:qz prog qa 195 (q9 q4P q4v kH):=sk qmJ qc q8 (alc q8s aln) (alc (lk func195 qn9) aln) aln func195
def q4y:FIn:=⟨[(.int .i64),(.int .i64)],[]⟩
def q4p:List FOut:=[⟨(.imm [(.sl [(.int .i64)])]),[],none⟩]
def q8N:Tmpl:={ t:=((.int .i64)::qm 4 ((.vec 0)::.any::(.imm [(.int .i64)])::.any::(.int .i64)::qm 6 ((.imm [(.sl [(.int .i64)])])::(.int .i64)::(.int .i64)::qm 30 []))),h:=[.vec 38 [(.sl [(.int .i64)])]] }
def q8B:List Out:=[⟨(.exit 2),{ t:=((.int .i64)::qm 4 ((.vec 0)::qm 10 ((.imm [(.sl [(.int .i64)])])::(.int .i64)::(.int .i64)::qm 30 []))),h:=[.vec 38 [(.sl [(.int .i64)])]] }⟩]
noncomputable def q3F:=qe [(195,q9 q4P q4v kH)] [] [] 0
noncomputable def yQ:=z8 q3F 195 f195 16 q8N q8B
theorem qlN:qj prog qa q3F.nimp (qp prog q3F.iter 195) (qI f195 16) (qh q8N q8B (qf yQ)):=gk q3F qc q8 (alc q87 aln) aln aln func195
def qa7:Tmpl:={ t:=((.int .i64)::qm 4 ((.vec 0)::qm 10 ((.imm [(.sl [(.int .i64)])])::(.int .i64)::(.int .i64)::qm 30 []))),h:=[.vec 38 [(.sl [(.int .i64)])]],pro:=[(5,38,[(.sl [(.int .i64)])])] }
def qau:List Out:=[⟨(.exit 0),{ t:=(qm 5 ((.vec 0)::qm 43 [])),h:=[.vec 38 [(.sl [(.int .i64)])]] }⟩]
noncomputable def q57:=qe [(195,q9 q4P q4v kH)] [] [((195,16),qh q8N q8B (qf yQ))] 0
noncomputable def q1J:=z8 q57 195 f195 7 qa7 qau
theorem qnj:qj prog qa q57.nimp (qp prog q57.iter 195) (qI f195 7) (qh qa7 qau (qf q1J)):=gk q57 qc q8 (alc q87 aln) (alc (lk func195 qlN) aln) aln func195
noncomputable def qmH:=qe [(195,q9 q4P q4v kH)] [] [((195,7),qh qa7 qau (qf q1J))] 0
noncomputable def kR:=qk qmH 195 f195 true q4y q4p
theorem q8D:qz prog qa 195 (q9 q4y q4p kR):=sk qmH qc q8 (alc q87 aln) (alc (lk func195 qnj) aln) aln func195
def qhp:FIn:=⟨[(.int .i64),(.int .i64)],[]⟩
def qi0:List FOut:=[⟨(.imm [(.sl [(.int .i64)])]),[],none⟩]
def qa8:Tmpl:={ t:=((.int .i64)::qm 4 ((.vec 0)::.any::(.imm [(.int .i64)])::.any::(.int .i64)::qm 6 ((.imm [(.sl [(.int .i64)])])::(.int .i64)::(.int .i64)::qm 30 []))),h:=[.vec 38 [(.sl [(.int .i64)])]] }
def qa6:List Out:=[⟨(.exit 2),{ t:=((.int .i64)::qm 4 ((.vec 0)::qm 10 ((.imm [(.sl [(.int .i64)])])::(.int .i64)::(.int .i64)::qm 30 []))),h:=[.vec 38 [(.sl [(.int .i64)])]] }⟩]
noncomputable def q5t:=qe [(195,q9 q4y q4p kR)] [] [] 0
noncomputable def uU:=z8 q5t 195 f195 16 qa8 qa6
theorem qnN:qj prog qa q5t.nimp (qp prog q5t.iter 195) (qI f195 16) (qh qa8 qa6 (qf uU)):=gk q5t qc q8 (alc q8D aln) aln aln func195
def qcQ:Tmpl:={ t:=((.int .i64)::qm 4 ((.vec 0)::qm 10 ((.imm [(.sl [(.int .i64)])])::(.int .i64)::(.int .i64)::qm 30 []))),h:=[.vec 38 [(.sl [(.int .i64)])]],pro:=[(5,38,[(.sl [(.int .i64)])])] }
def qdx:List Out:=[⟨(.exit 0),{ t:=(qm 5 ((.vec 0)::qm 43 [])),h:=[.vec 38 [(.sl [(.int .i64)])]] }⟩]
noncomputable def q6S:=qe [(195,q9 q4y q4p kR)] [] [((195,16),qh qa8 qa6 (qf uU))] 0
noncomputable def q2G:=z8 q6S 195 f195 7 qcQ qdx
theorem qoZ:qj prog qa q6S.nimp (qp prog q6S.iter 195) (qI f195 7) (qh qcQ qdx (qf q2G)):=gk q6S qc q8 (alc q8D aln) (alc (lk func195 qnN) aln) aln func195
noncomputable def qoE:=qe [(195,q9 q4y q4p kR)] [] [((195,7),qh qcQ qdx (qf q2G))] 0
noncomputable def q6J:=qk qoE 195 f195 true qhp qi0
theorem qsk:qz prog qa 195 (q9 qhp qi0 q6J):=sk qoE qc q8 (alc q8D aln) (alc (lk func195 qoZ) aln) aln func195
def jy:FIn:=⟨[.str],[]⟩
def jv:List FOut:=[⟨.bool,[],none⟩]
noncomputable def qpY:=qe [] [(203,f203)] [] 0
noncomputable def qy:=qk qpY 203 f203 true jy jv
theorem j3:qz prog qa 203 (q9 jy jv qy):=sk qpY qc q8 aln aln (b1 func203) func203
def q03:FIn:=⟨[.str,.bool],[]⟩
def q01:List FOut:=[⟨.str,[],none⟩]
noncomputable def qm1:=qe [] [(254,f254)] [] 0
noncomputable def qY:=qk qm1 254 f254 true q03 q01
theorem q0l:qz prog qa 254 (q9 q03 q01 qY):=sk qm1 qc q8 aln aln (b1 func254) func254
def yE:FIn:=⟨[.str],[]⟩
def yD:List FOut:=[⟨.str,[],none⟩]
noncomputable def qrI:=qe [] [(256,f256)] [] 0
noncomputable def qw:=qk qrI 256 f256 true yE yD
theorem jz:qz prog qa 256 (q9 yE yD qw):=sk qrI qc q8 aln aln (b1 func256) func256
def yF:FIn:=⟨[.str],[]⟩
def yK:List FOut:=[⟨.str,[],none⟩]
noncomputable def qmn:=qe [(203,q9 jy jv qy),(254,q9 q03 q01 qY),(256,q9 yE yD qw)] [(205,f205)] [] 0
noncomputable def zR:=qk qmn 205 f205 true yF yK
theorem yN:qz prog qa 205 (q9 yF yK zR):=sk qmn qc q8 (alc j3 (alc q0l (alc jz aln))) aln (b1 func205) func205
def qgY:FIn:=⟨[(.int .i64)],[]⟩
def qh1:List FOut:=[⟨.str,[],none⟩]
def qgZ:Tmpl:={ t:=((.int .i64)::.any::.any::.str::qm 33 []),h:=[] }
def qhs:List Out:=[⟨(.exit 0),{ t:=((.int .i64)::.any::.any::.str::qm 33 []),h:=[] }⟩]
noncomputable def qbd:=qe [(205,q9 yF yK zR)] [] [] 0
noncomputable def qbL:=z8 qbd 148 f148 9 qgZ qhs
theorem qss:qj prog qa qbd.nimp (qp prog qbd.iter 148) (qI f148 9) (qh qgZ qhs (qf qbL)):=gk qbd qc q8 (alc yN aln) aln aln func148
noncomputable def qtV:=qe [(205,q9 yF yK zR)] [] [((148,9),qh qgZ qhs (qf qbL))] 0
noncomputable def q5A:=qk qtV 148 f148 true qgY qh1
theorem qmf:qz prog qa 148 (q9 qgY qh1 q5A):=sk qtV qc q8 (alc yN aln) (alc (lk func148 qss) aln) aln func148
def q8w:FIn:=⟨[(.int .i64)],[]⟩
def q8x:List FOut:=[⟨.str,[],none⟩]
def qjv:Tmpl:={ t:=((.int .i64)::.any::.any::.str::qm 33 []),h:=[] }
def qjl:List Out:=[⟨(.exit 0),{ t:=((.int .i64)::.any::.any::.str::qm 33 []),h:=[] }⟩]
noncomputable def qdV:=qe [(148,q9 qgY qh1 q5A),(205,q9 yF yK zR)] [] [] 0
noncomputable def qec:=z8 qdV 148 f148 9 qjv qjl
theorem qtY:qj prog qa qdV.nimp (qp prog qdV.iter 148) (qI f148 9) (qh qjv qjl (qf qec)):=gk qdV qc q8 (alc qmf (alc yN aln)) aln aln func148
noncomputable def qx8:=qe [(148,q9 qgY qh1 q5A),(205,q9 yF yK zR)] [] [((148,9),qh qjv qjl (qf qec))] 0
noncomputable def zH:=qk qx8 148 f148 true q8w q8x
theorem q7q:qz prog qa 148 (q9 q8w q8x zH):=sk qx8 qc q8 (alc qmf (alc yN aln)) (alc (lk func148 qtY) aln) aln func148
def q3p:FIn:=⟨[(.int .i64)],[]⟩
def q3d:List FOut:=[⟨.str,[],none⟩]
noncomputable def qq5:=qe [(148,q9 q8w q8x zH)] [(82,f82)] [] 0
noncomputable def zq:=qk qq5 82 f82 true q3p q3d
theorem q5g:qz prog qa 82 (q9 q3p q3d zq):=sk qq5 qc q8 (alc q7q aln) aln (b1 func82) func82
def q2v:FIn:=⟨[(.agg [(.int .i64),(.int .i64),(.int .i64)]),(.agg [(.int .i64),(.int .i64),(.int .i64)])],[]⟩
def q2y:List FOut:=[⟨(.int .i64),[],none⟩]
noncomputable def qea:=qe [] [(154,f154)] [] 0
noncomputable def zh:=qk qea 154 f154 true q2v q2y
theorem q9l:qz prog qa 154 (q9 q2v q2y zh):=sk qea qc q8 aln aln (b1 func154) func154
def qen:FIn:=⟨[(.agg [(.int .i64),(.int .i64),(.int .i64)]),(.agg [(.int .i64),(.int .i64),(.int .i64)])],[]⟩
def qed:List FOut:=[⟨(.agg [(.int .i64),(.int .i64),(.int .i64)]),[],none⟩]
noncomputable def qrR:=qe [] [(155,f155)] [] 0
noncomputable def q0R:=qk qrR 155 f155 true qen qed
theorem qkm:qz prog qa 155 (q9 qen qed q0R):=sk qrR qc q8 aln aln (b1 func155) func155
def qhZ:FIn:=⟨[.str],[]⟩
def qhK:List FOut:=[⟨(.int .i64),[],none⟩]
def qdk:Tmpl:={ t:=(.str::.any::.any::(.int .i64)::qm 11 []),h:=[] }
def qdc:List Out:=[⟨(.exit 0),{ t:=(qm 15 []),h:=[] }⟩,⟨.ret,{ t:=(.any::.any::(.int .i64)::qm 12 []),h:=[] }⟩]
noncomputable def q6y:=qe [] [(252,f252)] [] 0
noncomputable def q2N:=z8 q6y 252 f252 3 qdk qdc
theorem qp8:qj prog qa q6y.nimp (qp prog q6y.iter 252) (qI f252 3) (qh qdk qdc (qf q2N)):=gk q6y qc q8 aln aln (b1 func252) func252
noncomputable def qpG:=qe [] [(252,f252)] [((252,3),qh qdk qdc (qf q2N))] 0
noncomputable def q7H:=qk qpG 252 f252 true qhZ qhK
theorem qso:qz prog qa 252 (q9 qhZ qhK q7H):=sk qpG qc q8 aln (alc (lk func252 qp8) aln) (b1 func252) func252
def qb4:FIn:=⟨[.str],[]⟩
def qbP:List FOut:=[⟨(.tuple [.str,.str]),[],none⟩]
noncomputable def qpm:=qe [(252,q9 qhZ qhK q7H)] [(200,f200)] [] 0
noncomputable def yp:=qk qpm 200 f200 true qb4 qbP
theorem qij:qz prog qa 200 (q9 qb4 qbP yp):=sk qpm qc q8 (alc qso aln) aln (b1 func200) func200
def qeZ:FIn:=⟨[.str],[]⟩
def qf4:List FOut:=[⟨(.int .i64),[],none⟩]
def q9I:Tmpl:={ t:=(.str::.any::.any::(.int .i64)::.str::(.int .i64)::qm 21 []),h:=[] }
def q9M:List Out:=[⟨(.exit 0),{ t:=(.str::.any::.any::(.int .i64)::qm 23 []),h:=[] }⟩]
noncomputable def q5r:=qe [(203,q9 jy jv qy),(256,q9 yE yD qw)] [(301,f301)] [] 0
noncomputable def uR:=z8 q5r 301 f301 4 q9I q9M
theorem qnd:qj prog qa q5r.nimp (qp prog q5r.iter 301) (qI f301 4) (qh q9I q9M (qf uR)):=gk q5r qc q8 (alc j3 (alc jz aln)) aln (b1 func301) func301
noncomputable def qmz:=qe [(203,q9 jy jv qy),(256,q9 yE yD qw)] [(301,f301)] [((301,4),qh q9I q9M (qf uR))] 0
noncomputable def yI:=qk qmz 301 f301 true qeZ qf4
theorem qqZ:qz prog qa 301 (q9 qeZ qf4 yI):=sk qmz qc q8 (alc j3 (alc jz aln)) (alc (lk func301 qnd) aln) (b1 func301) func301
def q3i:FIn:=⟨[.str,.str],[]⟩
def q3X:List FOut:=[⟨(.tuple [(.int .i64),(.int .i64),.bool]),[],none⟩]
noncomputable def qpK:=qe [(256,q9 yE yD qw),(301,q9 qeZ qf4 yI)] [(253,f253)] [] 0
noncomputable def vF:=qk qpK 253 f253 true q3i q3X
theorem q5q:qz prog qa 253 (q9 q3i q3X vF):=sk qpK qc q8 (alc jz (alc qqZ aln)) aln (b1 func253) func253
def q9q:FIn:=⟨[.str],[]⟩
def q9n:List FOut:=[⟨.str,[],none⟩]
def qeX:Tmpl:={ t:=(.str::qm 13 []),h:=[] }
def qfW:List Out:=[⟨(.exit 0),{ t:=(.str::qm 13 []),h:=[] }⟩]
noncomputable def q9e:=qe [] [(302,f302)] [] 0
noncomputable def q4C:=z8 q9e 302 f302 2 qeX qfW
theorem qqR:qj prog qa q9e.nimp (qp prog q9e.iter 302) (qI f302 2) (qh qeX qfW (qf q4C)):=gk q9e qc q8 aln aln (b1 func302) func302
noncomputable def qrS:=qe [] [(302,f302)] [((302,2),qh qeX qfW (qf q4C))] 0
noncomputable def yG:=qk qrS 302 f302 true q9q q9n
theorem qcB:qz prog qa 302 (q9 q9q q9n yG):=sk qrS qc q8 aln (alc (lk func302 qqR) aln) (b1 func302) func302
def qcq:FIn:=⟨[.str,.str],[]⟩
def qcI:List FOut:=[⟨.str,[],none⟩]
def q8e:Tmpl:={ t:=(.str::.str::.any::.any::.any::(.vec 0)::(.int .i64)::(.int .i64)::qm 69 []),h:=[.vec 3 [(.int .i64)]] }
def q8K:List Out:=[⟨(.exit 2),{ t:=(.str::.str::.any::.any::.any::(.vec 0)::(.int .i64)::qm 70 []),h:=[.vec 3 [(.int .i64)]] }⟩]
noncomputable def q1G:List (FuncId×zj):=[(302,q9 q9q q9n yG)]
theorem q3y:∀x,x∈q1G->qz prog qa x.1 x.2:=(alc qcB aln)
noncomputable def q3n:=qe q1G [(255,f255)] [] 0
noncomputable def yL:=z8 q3n 255 f255 9 q8e q8K
theorem qlR:qj prog qa q3n.nimp (qp prog q3n.iter 255) (qI f255 9) (qh q8e q8K (qf yL)):=gk q3n qc q8 q3y aln (b1 func255) func255
def q8P:Tmpl:={ t:=(.str::.str::.any::.any::.any::(.vec 0)::(.int .i64)::qm 70 []),h:=[.vec 3 [(.int .i64)]] }
def q81:List Out:=[⟨(.exit 0),{ t:=(qm 5 ((.vec 0)::qm 71 [])),h:=[.vec 3 [(.int .i64)]] }⟩]
noncomputable def q3K:=qe q1G [(255,f255)] [((255,9),qh q8e q8K (qf yL))] 0
noncomputable def yR:=z8 q3K 255 f255 4 q8P q81
theorem qly:qj prog qa q3K.nimp (qp prog q3K.iter 255) (qI f255 4) (qh q8P q81 (qf yR)):=gk q3K qc q8 q3y (alc (lk func255 qlR) aln) (b1 func255) func255
def q6n:Tmpl:={ t:=(qm 5 ((.vec 0)::.any::.any::(.vec 1)::(.int .i64)::(.int .i64)::qm 66 [])),h:=[.vec 3 [(.int .i64)],.vec 5 [(.int .u8)]] }
def q6Y:List Out:=[⟨(.exit 4),{ t:=(qm 8 ((.vec 1)::qm 68 [])),h:=[.dead,.vec 5 [(.int .u8)]] }⟩]
noncomputable def q2x:=qe q1G [(255,f255)] [] 0
noncomputable def jN:=z8 q2x 255 f255 17 q6n q6Y
theorem qkR:qj prog qa q2x.nimp (qp prog q2x.iter 255) (qI f255 17) (qh q6n q6Y (qf jN)):=gk q2x qc q8 q3y aln (b1 func255) func255
noncomputable def qjh:=qe q1G [(255,f255)] [((255,4),qh q8P q81 (qf yR)),((255,17),qh q6n q6Y (qf jN))] 0
noncomputable def q2Q:=qk qjh 255 f255 true qcq qcI
theorem qpQ:qz prog qa 255 (q9 qcq qcI q2Q):=sk qjh qc q8 q3y (alc (lk func255 qly) (alc (lk func255 qkR) aln)) (b1 func255) func255
def qbN:FIn:=⟨[.str,.str],[]⟩
def qbT:List FOut:=[⟨.str,[],none⟩]
noncomputable def qpU:=qe [(148,q9 q8w q8x zH),(203,q9 jy jv qy),(253,q9 q3i q3X vF),(254,q9 q03 q01 qY),(255,q9 qcq qcI q2Q),(256,q9 yE yD qw)] [(201,f201)] [] 0
noncomputable def wP:=qk qpU 201 f201 true qbN qbT
theorem qiV:qz prog qa 201 (q9 qbN qbT wP):=sk qpU qc q8 (alc q7q (alc j3 (alc q5q (alc q0l (alc qpQ (alc jz aln)))))) aln (b1 func201) func201
def u4:FIn:=⟨[.str,.str],[]⟩
def u7:List FOut:=[⟨(.imm [.str]),[],none⟩]
noncomputable def qji:=qe [(200,q9 qb4 qbP yp),(201,q9 qbN qbT wP)] [(145,f145)] [] 0
noncomputable def zf:=qk qji 145 f145 true u4 u7
theorem kz:qz prog qa 145 (q9 u4 u7 zf):=sk qji qc q8 (alc qij (alc qiV aln)) aln (b1 func145) func145
def qkM:FIn:=⟨[.str,(.int .i64)],[]⟩
def qku:List FOut:=[⟨.str,[],none⟩]
def qfc:Tmpl:={ t:=(.str::(.int .i64)::.any::.any::.any::(.vec 0)::(.int .i64)::qm 20 []),h:=[.vec 5 [(.int .u8)]] }
def qfl:List Out:=[⟨(.exit 0),{ t:=(.str::(.int .i64)::.any::.any::.any::(.vec 0)::qm 21 []),h:=[.vec 5 [(.int .u8)]] }⟩]
noncomputable def q9f:=qe [] [(362,f362)] [] 0
noncomputable def q1U:=z8 q9f 362 f362 4 qfc qfl
theorem qqx:qj prog qa q9f.nimp (qp prog q9f.iter 362) (qI f362 4) (qh qfc qfl (qf q1U)):=gk q9f qc q8 aln aln (b1 func362) func362
noncomputable def qrQ:=qe [] [(362,f362)] [((362,4),qh qfc qfl (qf q1U))] 0
noncomputable def q6f:=qk qrQ 362 f362 true qkM qku
theorem quz:qz prog qa 362 (q9 qkM qku q6f):=sk qrQ qc q8 aln (alc (lk func362 qqx) aln) (b1 func362) func362
def qfI:FIn:=⟨[(.int .u8),(.int .u8),(.int .i64),.bool],[]⟩
def qf3:List FOut:=[⟨(.tuple [(.int .u8),(.int .i64)]),[],none⟩]
noncomputable def qmw:=qe [] [(363,f363)] [] 0
noncomputable def q4M:=qk qmw 363 f363 true qfI qf3
theorem qqs:qz prog qa 363 (q9 qfI qf3 q4M):=sk qmw qc q8 aln aln (b1 func363) func363
def qbe:FIn:=⟨[.str,.str,.bool],[]⟩
def qbb:List FOut:=[⟨.str,[],none⟩]
def qcj:Tmpl:={ t:=(.str::.str::.bool::qm 5 ((.vec 0)::(.int .i64)::(.int .i64)::qm 38 [])),h:=[.vec 5 [(.int .u8)]] }
def qdu:List Out:=[⟨(.exit 0),{ t:=(qm 8 ((.vec 0)::qm 40 [])),h:=[.vec 5 [(.int .u8)]] }⟩]
noncomputable def qeH:List (FuncId×zj):=[(302,q9 q9q q9n yG),(362,q9 qkM qku q6f),(363,q9 qfI qf3 q4M)]
theorem qjo:∀x,x∈qeH->qz prog qa x.1 x.2:=(alc qcB (alc quz (alc qqs aln)))
noncomputable def q7B:=qe qeH [(303,f303)] [] 0
noncomputable def q0g:=z8 q7B 303 f303 7 qcj qdu
theorem qpz:qj prog qa q7B.nimp (qp prog q7B.iter 303) (qI f303 7) (qh qcj qdu (qf q0g)):=gk q7B qc q8 qjo aln (b1 func303) func303
noncomputable def qpj:=qe qeH [(303,f303)] [((303,7),qh qcj qdu (qf q0g))] 0
noncomputable def yv:=qk qpj 303 f303 true qbe qbb
theorem qiY:qz prog qa 303 (q9 qbe qbb yv):=sk qpj qc q8 qjo (alc (lk func303 qpz) aln) (b1 func303) func303
def qe6:FIn:=⟨[.str,.str],[]⟩
def qeh:List FOut:=[⟨.bool,[],none⟩]
noncomputable def qrY:=qe [] [(304,f304)] [] 0
noncomputable def q34:=qk qrY 304 f304 true qe6 qeh
theorem qjL:qz prog qa 304 (q9 qe6 qeh q34):=sk qrY qc q8 aln aln (b1 func304) func304
def qer:FIn:=⟨[.str,.str],[]⟩
def qek:List FOut:=[⟨.str,[],none⟩]
noncomputable def qrF:=qe [(148,q9 q8w q8x zH),(203,q9 jy jv qy),(253,q9 q3i q3X vF),(254,q9 q03 q01 qY),(256,q9 yE yD qw),(303,q9 qbe qbb yv),(304,q9 qe6 qeh q34)] [(257,f257)] [] 0
noncomputable def q30:=qk qrF 257 f257 true qer qek
theorem qjZ:qz prog qa 257 (q9 qer qek q30):=sk qrF qc q8 (alc q7q (alc j3 (alc q5q (alc q0l (alc jz (alc qiY (alc qjL aln))))))) aln (b1 func257) func257
def q77:FIn:=⟨[.str,.str],[]⟩
def q6L:List FOut:=[⟨.str,[],none⟩]
noncomputable def qpX:=qe [(205,q9 yF yK zR),(257,q9 qer qek q30)] [(202,f202)] [] 0
noncomputable def vN:=qk qpX 202 f202 true q77 q6L
theorem qar:qz prog qa 202 (q9 q77 q6L vN):=sk qpX qc q8 (alc yN (alc qjZ aln)) aln (b1 func202) func202
def qcn:FIn:=⟨[.str,.str],[]⟩
def qde:List FOut:=[⟨(.tuple [.str,.str]),[],none⟩]
def q7v:Tmpl:={ t:=(.str::.str::qm 4 (.str::.str::(.int .i64)::(.int .u8)::qm 31 [])),h:=[] }
def q6r:List Out:=[⟨(.exit 2),{ t:=(.str::.str::qm 4 (.str::.str::(.int .i64)::(.int .u8)::qm 31 [])),h:=[] }⟩]
noncomputable def q5o:List (FuncId×zj):=[(302,q9 q9q q9n yG),(303,q9 qbe qbb yv),(304,q9 qe6 qeh q34)]
theorem q8l:∀x,x∈q5o->qz prog qa x.1 x.2:=(alc qcB (alc qiY (alc qjL aln)))
noncomputable def q2k:=qe q5o [(258,f258)] [] 0
noncomputable def jK:=z8 q2k 258 f258 11 q7v q6r
theorem qk6:qj prog qa q2k.nimp (qp prog q2k.iter 258) (qI f258 11) (qh q7v q6r (qf jK)):=gk q2k qc q8 q8l aln (b1 func258) func258
def q8G:Tmpl:={ t:=(.str::.str::qm 4 (.str::.str::(.int .i64)::qm 32 [])),h:=[] }
def q8t:List Out:=[⟨(.exit 0),{ t:=(qm 6 (.str::.str::qm 33 [])),h:=[] }⟩]
noncomputable def q3t:=qe q5o [(258,f258)] [((258,11),qh q7v q6r (qf jK))] 0
noncomputable def q0s:=z8 q3t 258 f258 4 q8G q8t
theorem qlC:qj prog qa q3t.nimp (qp prog q3t.iter 258) (qI f258 4) (qh q8G q8t (qf q0s)):=gk q3t qc q8 q8l (alc (lk func258 qk6) aln) (b1 func258) func258
noncomputable def qkJ:=qe q5o [(258,f258)] [((258,4),qh q8G q8t (qf q0s))] 0
noncomputable def q2E:=qk qkJ 258 f258 true qcn qde
theorem qod:qz prog qa 258 (q9 qcn qde q2E):=sk qkJ qc q8 q8l (alc (lk func258 qlC) aln) (b1 func258) func258
def q8U:FIn:=⟨[.str,.str],[]⟩
def q97:List FOut:=[⟨(.tuple [.str,.str]),[],none⟩]
noncomputable def qmo:=qe [(148,q9 q8w q8x zH),(201,q9 qbN qbT wP),(202,q9 q77 q6L vN),(203,q9 jy jv qy),(253,q9 q3i q3X vF),(254,q9 q03 q01 qY),(256,q9 yE yD qw),(258,q9 qcn qde q2E)] [(206,f206)] [] 0
noncomputable def vu:=qk qmo 206 f206 true q8U q97
theorem qge:qz prog qa 206 (q9 q8U q97 vu):=sk qmo qc q8 (alc q7q (alc qiV (alc qar (alc j3 (alc q5q (alc q0l (alc jz (alc qod aln)))))))) aln (b1 func206) func206
def qeL:FIn:=⟨[.str,.str],[]⟩
def qfZ:List FOut:=[⟨.str,[],none⟩]
def q84:Tmpl:={ t:=(qm 5 ((.int .i64)::(.int .i64)::qm 36 [])),h:=[] }
def q8y:List Out:=[⟨(.exit 2),{ t:=(qm 5 ((.int .i64)::qm 37 [])),h:=[] }⟩]
noncomputable def q7u:List (FuncId×zj):=[(148,q9 q8w q8x zH),(206,q9 q8U q97 vu),(253,q9 q3i q3X vF),(254,q9 q03 q01 qY),(256,q9 yE yD qw)]
theorem qa2:∀x,x∈q7u->qz prog qa x.1 x.2:=(alc q7q (alc qge (alc q5q (alc q0l (alc jz aln)))))
noncomputable def q3o:=qe q7u [(204,f204)] [] 0
noncomputable def yU:=z8 q3o 204 f204 10 q84 q8y
theorem qlS:qj prog qa q3o.nimp (qp prog q3o.iter 204) (qI f204 10) (qh q84 q8y (qf yU)):=gk q3o qc q8 qa2 aln (b1 func204) func204
def qa5:Tmpl:={ t:=(.str::.str::qm 41 []),h:=[] }
def qaK:List Out:=[⟨(.exit 0),{ t:=(.str::qm 42 []),h:=[] }⟩,⟨.ret,{ t:=(qm 4 (.str::qm 38 [])),h:=[] }⟩]
noncomputable def q5n:=qe q7u [(204,f204)] [((204,10),qh q84 q8y (qf yU))] 0
noncomputable def q1B:=z8 q5n 204 f204 3 qa5 qaK
theorem qnc:qj prog qa q5n.nimp (qp prog q5n.iter 204) (qI f204 3) (qh qa5 qaK (qf q1B)):=gk q5n qc q8 qa2 (alc (lk func204 qlS) aln) (b1 func204) func204
noncomputable def qmM:=qe q7u [(204,f204)] [((204,3),qh qa5 qaK (qf q1B))] 0
noncomputable def q4q:=qk qmM 204 f204 true qeL qfZ
theorem qrk:qz prog qa 204 (q9 qeL qfZ q4q):=sk qmM qc q8 qa2 (alc (lk func204 qnc) aln) (b1 func204) func204
def q1Z:FIn:=⟨[.str,.str],[]⟩
def q1R:List FOut:=[⟨.str,[],none⟩]
noncomputable def qmb:=qe [(203,q9 jy jv qy),(204,q9 qeL qfZ q4q),(205,q9 yF yK zR),(206,q9 q8U q97 vu)] [(147,f147)] [] 0
noncomputable def wJ:=qk qmb 147 f147 true q1Z q1R
theorem q3W:qz prog qa 147 (q9 q1Z q1R wJ):=sk qmb qc q8 (alc j3 (alc qrk (alc yN (alc qge aln)))) aln (b1 func147) func147
def q3L:FIn:=⟨[.str,.str],[]⟩
def q3J:List FOut:=[⟨.str,[],none⟩]
noncomputable def qof:=qe [(145,q9 u4 u7 zf),(147,q9 q1Z q1R wJ)] [(81,f81)] [] 0
noncomputable def za:=qk qof 81 f81 true q3L q3J
theorem q5s:qz prog qa 81 (q9 q3L q3J za):=sk qof qc q8 (alc kz (alc q3W aln)) aln (b1 func81) func81
def qbR:FIn:=⟨[.str,.str],[]⟩
def qbq:List FOut:=[⟨.str,[],none⟩]
noncomputable def qou:=qe [(145,q9 u4 u7 zf),(147,q9 q1Z q1R wJ),(202,q9 q77 q6L vN)] [(249,f249)] [] 0
noncomputable def vG:=qk qou 249 f249 true qbR qbq
theorem qiy:qz prog qa 249 (q9 qbR qbq vG):=sk qou qc q8 (alc kz (alc q3W (alc qar aln))) aln (b1 func249) func249
def qco:FIn:=⟨[(.imm [(.sl [.str])]),(.int .i64)],[]⟩
def qcF:List FOut:=[⟨(.tuple [(.imm [(.sl [.str])]),.bool]),[],none⟩]
def q89:Tmpl:={ t:=((.imm [(.sl [.str])])::(.int .i64)::qm 4 ((.vec 0)::(.int .i64)::qm 33 [])),h:=[.vec 212 [(.sl [.str])]] }
def q8z:List Out:=[⟨(.exit 0),{ t:=(qm 41 []),h:=[] }⟩,⟨.ret,{ t:=(qm 4 ((.vec 0)::.bool::qm 35 [])),h:=[.vec 212 [(.sl [.str])]] }⟩]
noncomputable def q3f:=qe [] [(299,f299)] [] 0
noncomputable def jk:=z8 q3f 299 f299 4 q89 q8z
theorem qlx:qj prog qa q3f.nimp (qp prog q3f.iter 299) (qI f299 4) (qh q89 q8z (qf jk)):=gk q3f qc q8 aln aln (b1 func299) func299
noncomputable def qkt:=qe [] [(299,f299)] [((299,4),qh q89 q8z (qf jk))] 0
noncomputable def q2O:=qk qkt 299 f299 true qco qcF
theorem qpr:qz prog qa 299 (q9 qco qcF q2O):=sk qkt qc q8 aln (alc (lk func299 qlx) aln) (b1 func299) func299
def qqH:FIn:=⟨[.str,.str],[]⟩
def qqJ:List FOut:=[⟨.str,[],none⟩]
noncomputable def qxP:=qe [(145,q9 u4 u7 zf),(147,q9 q1Z q1R wJ)] [(300,f300)] [] 0
noncomputable def qgu:=qk qxP 300 f300 true qqH qqJ
theorem qzD:qz prog qa 300 (q9 qqH qqJ qgu):=sk qxP qc q8 (alc kz (alc q3W aln)) aln (b1 func300) func300
def q68:FIn:=⟨[.str,.str],[]⟩
def q5U:List FOut:=[⟨.str,[],none⟩]
noncomputable def qrL:=qe [(145,q9 u4 u7 zf),(147,q9 q1Z q1R wJ),(257,q9 qer qek q30)] [(251,f251)] [] 0
noncomputable def zP:=qk qrL 251 f251 true q68 q5U
theorem q6A:qz prog qa 251 (q9 q68 q5U zP):=sk qrL qc q8 (alc kz (alc q3W (alc qjZ aln))) aln (b1 func251) func251
def qhy:FIn:=⟨[(.imm [.str])],[]⟩
def qhg:List FOut:=[⟨.str,[],none⟩]
def qcx:Tmpl:={ t:=((.imm [.str])::.any::.any::.str::(.int .i64)::qm 13 []),h:=[] }
def qch:List Out:=[⟨(.exit 0),{ t:=(.any::.any::.any::.str::qm 14 []),h:=[] }⟩]
noncomputable def q6X:=qe [(251,q9 q68 q5U zP)] [(250,f250)] [] 0
noncomputable def q0t:=z8 q6X 250 f250 4 qcx qch
theorem qov:qj prog qa q6X.nimp (qp prog q6X.iter 250) (qI f250 4) (qh qcx qch (qf q0t)):=gk q6X qc q8 (alc q6A aln) aln (b1 func250) func250
noncomputable def qp9:=qe [(251,q9 q68 q5U zP)] [(250,f250)] [((250,4),qh qcx qch (qf q0t))] 0
noncomputable def q3w:=qk qp9 250 f250 true qhy qhg
theorem qsi:qz prog qa 250 (q9 qhy qhg q3w):=sk qp9 qc q8 (alc q6A aln) (alc (lk func250 qov) aln) (b1 func250) func250
end Go.Eng

namespace Go.Eng
open Go.Proofs
open Tryz
def q35:FIn:=⟨[(.imm [(.int .i64),(.int .i64),(.int .i64)])],[]⟩
def q2S:List FOut:=[⟨(.tuple [(.imm [.str]),.bool]),[],none⟩]
def q73:Tmpl:={ t:=((.imm [(.int .i64),(.int .i64),(.int .i64)])::.any::.any::.any::(.vec 0)::(.int .i64)::(.ptr 1 0)::(.vec 2)::(.int .i64)::qm 60 []),h:=[.vec 212 [(.sl [.str])],.cells [(.int .i64),(.int .i64),(.int .i64)],.vec 108 [.str]],pro:=[(7,108,[.str])] }
def q7E:List Out:=[⟨(.exit 2),{ t:=((.imm [(.int .i64),(.int .i64),(.int .i64)])::.any::.any::.any::(.vec 0)::(.int .i64)::(.ptr 1 0)::(.vec 2)::qm 61 []),h:=[.vec 212 [(.sl [.str])],.cells [(.int .i64),(.int .i64),(.int .i64)],.vec 108 [.str]] }⟩]
noncomputable def vZ:List (FuncId×zj):=[(82,q9 q3p q3d zq),(154,q9 q2v q2y zh),(155,q9 qen qed q0R),(249,q9 qbR qbq vG),(250,q9 qhy qhg q3w),(81,q9 q3L q3J za),(299,q9 qco qcF q2O),(300,q9 qqH qqJ qgu)]
theorem jj:∀x,x∈vZ->qz prog qa x.1 x.2:=(alc q5g (alc q9l (alc qkm (alc qiy (alc qsi (alc q5s (alc qpr (alc qzD aln))))))))
noncomputable def q2o:=qe vZ [(197,f197),(248,f248)] [] 0
noncomputable def jO:=z8 q2o 197 f197 12 q73 q7E
theorem qjX:qj prog qa q2o.nimp (qp prog q2o.iter 197) (qI f197 12) (qh q73 q7E (qf jO)):=gk q2o qc q8 jj aln (alc (bk func197) (alc (bk func248) aln)) func197
def q8r:Tmpl:={ t:=((.imm [(.int .i64),(.int .i64),(.int .i64)])::.any::.any::.any::(.vec 0)::(.int .i64)::qm 63 []),h:=[.vec 212 [(.sl [.str])]],pro:=[(4,212,[(.sl [.str])])] }
def q8C:List Out:=[⟨(.exit 0),{ t:=(qm 4 ((.vec 0)::qm 64 [])),h:=[.vec 212 [(.sl [.str])]] }⟩]
noncomputable def q3G:=qe vZ [(197,f197),(248,f248)] [((197,12),qh q73 q7E (qf jO))] 0
noncomputable def yP:=z8 q3G 197 f197 4 q8r q8C
theorem qlz:qj prog qa q3G.nimp (qp prog q3G.iter 197) (qI f197 4) (qh q8r q8C (qf yP)):=gk q3G qc q8 jj (alc (lk func197 qjX) aln) (alc (bk func197) (alc (bk func248) aln)) func197
def q2e:Tmpl:={ t:=(qm 4 ((.int .i64)::(.imm [(.sl [.str])])::.any::(.vec 1)::(.int .i64)::(.vec 2)::(.int .i64)::qm 94 [])),h:=[.dead,.vec 212 [(.sl [.str])],.vec 108 [.str]],pro:=[(9,108,[.str])],fs:=[(qm 69 []),[]] }
def q29:List Out:=[⟨(.exit 4),{ t:=(qm 4 ((.int .i64)::(.imm [(.sl [.str])])::.any::(.vec 1)::(.int .i64)::(.vec 2)::qm 95 [])),h:=[.dead,.vec 212 [(.sl [.str])],.vec 108 [.str]],fs:=[(qm 69 []),[]] }⟩]
noncomputable def uv:=qe vZ [(197,f197),(248,f248)] [] 0
noncomputable def zB:=z8 uv 248 f248 21 q2e q29
theorem qeO:qj prog qa uv.nimp (qp prog uv.iter 248) (qI f248 21) (qh q2e q29 (qf zB)):=gk uv qc q8 jj aln (alc (bk func197) (alc (bk func248) aln)) func248
def q23:Tmpl:={ t:=(qm 4 ((.int .i64)::(.imm [(.sl [.str])])::.any::(.vec 1)::(.int .i64)::qm 96 [])),h:=[.dead,.vec 212 [(.sl [.str])]],pro:=[(7,212,[(.sl [.str])])],fs:=[(qm 69 []),[]] }
def q22:List Out:=[⟨(.exit 2),{ t:=(qm 4 ((.int .i64)::.any::.any::(.vec 1)::qm 97 [])),h:=[.dead,.vec 212 [(.sl [.str])]],fs:=[(qm 69 []),[]] }⟩]
noncomputable def um:=qe vZ [(197,f197),(248,f248)] [((248,21),qh q2e q29 (qf zB))] 0
noncomputable def wA:=z8 um 248 f248 14 q23 q22
theorem qeF:qj prog qa um.nimp (qp prog um.iter 248) (qI f248 14) (qh q23 q22 (qf wA)):=gk um qc q8 jj (alc (lk func248 qeO) aln) (alc (bk func197) (alc (bk func248) aln)) func248
def q2I:Tmpl:={ t:=((.vec 0)::.any::.any::.any::(.int .i64)::qm 100 []),h:=[.vec 212 [(.sl [.str])]],sw:=[(0,0)],swn:=0,fs:=[(qm 69 []),[]] }
def q2B:List Out:=[⟨(.exit 0),{ t:=((.vec 0)::qm 104 []),h:=[.vec 212 [(.sl [.str])]],fs:=[(qm 69 []),[]] }⟩,⟨.ret,{ t:=(.any::.any::.nils::.bool::qm 101 []),h:=[],fs:=[(qm 69 []),[]] }⟩]
noncomputable def ke:=qe vZ [(197,f197),(248,f248)] [((248,14),qh q23 q22 (qf wA))] 0
noncomputable def zN:=z8 ke 248 f248 3 q2I q2B
theorem qgc:qj prog qa ke.nimp (qp prog ke.iter 248) (qI f248 3) (qh q2I q2B (qf zN)):=gk ke qc q8 jj (alc (lk func248 qeF) aln) (alc (bk func197) (alc (bk func248) aln)) func248
def q27:Tmpl:={ t:=((.vec 0)::qm 11 ((.vec 1)::(.int .i64)::qm 91 [])),h:=[.vec 212 [(.sl [.str])],.vec 108 [.str]],pro:=[(12,108,[.str])],fs:=[(qm 69 []),[]] }
def q2h:List Out:=[⟨(.exit 6),{ t:=(qm 12 ((.vec 1)::qm 92 [])),h:=[.dead,.vec 108 [.str]],fs:=[(qm 69 []),[]] }⟩]
noncomputable def uk:=qe vZ [(197,f197),(248,f248)] [] 0
noncomputable def wz:=z8 uk 248 f248 31 q27 q2h
theorem qfv:qj prog qa uk.nimp (qp prog uk.iter 248) (qI f248 31) (qh q27 q2h (qf wz)):=gk uk qc q8 jj aln (alc (bk func197) (alc (bk func248) aln)) func248
noncomputable def qkw:=qe vZ [(197,f197),(248,f248)] [((197,4),qh q8r q8C (qf yP)),((248,3),qh q2I q2B (qf zN)),((248,31),qh q27 q2h (qf wz))] 0
noncomputable def vE:=qk qkw 197 f197 true q35 q2S
theorem q6F:qz prog qa 197 (q9 q35 q2S vE):=sk qkw qc q8 jj (alc (lk func197 qlz) (alc (lk func248 qgc) (alc (lk func248 qfv) aln))) (alc (bk func197) (alc (bk func248) aln)) func197
def qfM:FIn:=⟨[(.imm [(.int .i64),(.int .i64),(.int .i64)]),(.imm [.str])],[]⟩
def qfm:List FOut:=[⟨(.agg [.str,.str,.str]),[],none⟩]
def q9W:Tmpl:={ t:=((.imm [(.int .i64),(.int .i64),(.int .i64)])::(.imm [.str])::.any::.any::(.ptr 0 0)::(.ptr 1 0)::(.int .i64)::qm 24 ((.agg [(.int .i64),(.int .i64),(.int .i64)])::(.int .i64)::qm 18 [])),h:=[.cells [.str,.str,.str],.cells [.str,.str,.str]] }
def qag:List Out:=[⟨(.exit 2),{ t:=((.imm [(.int .i64),(.int .i64),(.int .i64)])::(.imm [.str])::.any::.any::(.ptr 0 0)::(.ptr 1 0)::(.int .i64)::qm 44 []),h:=[.cells [.str,.str,.str],.cells [.str,.str,.str]] }⟩]
noncomputable def q7s:List (FuncId×zj):=[(81,q9 q3L q3J za),(82,q9 q3p q3d zq),(251,q9 q68 q5U zP)]
theorem qaB:∀x,x∈q7s->qz prog qa x.1 x.2:=(alc q5s (alc q5g (alc q6A aln)))
noncomputable def q58:=qe q7s [(198,f198)] [] 0
noncomputable def ka:=z8 q58 198 f198 9 q9W qag
theorem qnt:qj prog qa q58.nimp (qp prog q58.iter 198) (qI f198 9) (qh q9W qag (qf ka)):=gk q58 qc q8 qaB aln (b1 func198) func198
def q9X:Tmpl:={ t:=((.imm [(.int .i64),(.int .i64),(.int .i64)])::(.imm [.str])::.any::.any::(.ptr 0 0)::(.ptr 1 0)::(.int .i64)::qm 44 []),h:=[.cells [.str,.str,.str],.cells [.str,.str,.str]] }
def qaF:List Out:=[⟨(.exit 0),{ t:=(qm 4 ((.ptr 0 0)::(.ptr 1 0)::qm 45 [])),h:=[.cells [.str,.str,.str],.cells [.str,.str,.str]] }⟩]
noncomputable def q5b:=qe q7s [(198,f198)] [((198,9),qh q9W qag (qf ka))] 0
noncomputable def uY:=z8 q5b 198 f198 4 q9X qaF
theorem qnw:qj prog qa q5b.nimp (qp prog q5b.iter 198) (qI f198 4) (qh q9X qaF (qf uY)):=gk q5b qc q8 qaB (alc (lk func198 qnt) aln) (b1 func198) func198
noncomputable def qmL:=qe q7s [(198,f198)] [((198,4),qh q9X qaF (qf uY))] 0
noncomputable def q4L:=qk qmL 198 f198 true qfM qfm
theorem qqX:qz prog qa 198 (q9 qfM qfm q4L):=sk qmL qc q8 qaB (alc (lk func198 qnw) aln) (b1 func198) func198
def q9m:FIn:=⟨[(.agg [.str,.str,.str]),(.agg [(.int .i64),(.int .i64),(.int .i64)])],[]⟩
def q9x:List FOut:=[⟨.str,[],none⟩]
def qfx:Tmpl:={ t:=(.any::.any::(.ptr 0 0)::.any::.any::.str::qm 9 ((.agg [(.int .i64),(.int .i64),(.int .i64)])::(.int .i64)::qm 16 [])),h:=[.cells [.str,.str,.str]] }
def qeE:List Out:=[⟨(.exit 0),{ t:=(qm 5 (.str::qm 27 [])),h:=[] }⟩]
noncomputable def qhR:List (FuncId×zj):=[(81,q9 q3L q3J za),(82,q9 q3p q3d zq),(249,q9 qbR qbq vG),(251,q9 q68 q5U zP)]
theorem qmP:∀x,x∈qhR->qz prog qa x.1 x.2:=(alc q5s (alc q5g (alc qiy (alc q6A aln))))
noncomputable def q9c:=qe qhR [(199,f199)] [] 0
noncomputable def q1Q:=z8 q9c 199 f199 4 qfx qeE
theorem qqG:qj prog qa q9c.nimp (qp prog q9c.iter 199) (qI f199 4) (qh qfx qeE (qf q1Q)):=gk q9c qc q8 qmP aln (b1 func199) func199
noncomputable def qsd:=qe qhR [(199,f199)] [((199,4),qh qfx qeE (qf q1Q))] 0
noncomputable def yJ:=qk qsd 199 f199 true q9m q9x
theorem qcO:qz prog qa 199 (q9 q9m q9x yJ):=sk qsd qc q8 qmP (alc (lk func199 qqG) aln) (b1 func199) func199
def qej:FIn:=⟨[(.imm [(.int .i64),(.int .i64),(.int .i64)])],[]⟩
def qeC:List FOut:=[⟨(.tuple [(.agg [.str,.str,.str]),.str,.bool]),[],none⟩]
noncomputable def qrN:=qe [(197,q9 q35 q2S vE),(198,q9 qfM qfm q4L),(199,q9 q9m q9x yJ)] [(143,f143)] [] 0
noncomputable def ku:=qk qrN 143 f143 true qej qeC
theorem qkq:qz prog qa 143 (q9 qej qeC ku):=sk qrN qc q8 (alc q6F (alc qqX (alc qcO aln))) aln (b1 func143) func143
def q8V:FIn:=⟨[(.imm [(.int .i64),(.int .i64),(.int .i64)]),(.imm [(.int .i64)])],[]⟩
def q96:List FOut:=[⟨(.imm [(.int .i64),(.int .i64),(.int .i64)]),[],none⟩]
def qaL:Tmpl:={ t:=((.imm [(.int .i64),(.int .i64),(.int .i64)])::(.imm [(.int .i64)])::.any::.any::.any::(.vec 0)::(.int .i64)::qm 17 []),h:=[.vec 71 [(.int .i64),(.int .i64),(.int .i64)]],pro:=[(5,71,[(.int .i64),(.int .i64),(.int .i64)])] }
def qaf:List Out:=[⟨(.exit 0),{ t:=(qm 5 ((.vec 0)::qm 18 [])),h:=[.vec 71 [(.int .i64),(.int .i64),(.int .i64)]] }⟩]
noncomputable def q56:=qe [] [(144,f144)] [] 0
noncomputable def uP:=z8 q56 144 f144 4 qaL qaf
theorem qnr:qj prog qa q56.nimp (qp prog q56.iter 144) (qI f144 4) (qh qaL qaf (qf uP)):=gk q56 qc q8 aln aln (b1 func144) func144
noncomputable def qm3:=qe [] [(144,f144)] [((144,4),qh qaL qaf (qf uP))] 0
noncomputable def q00:=qk qm3 144 f144 true q8V q96
theorem qgi:qz prog qa 144 (q9 q8V q96 q00):=sk qm3 qc q8 aln (alc (lk func144 qnr) aln) (b1 func144) func144
def qbF:FIn:=⟨[.str,.str],[]⟩
def qb6:List FOut:=[⟨(.int .i64),[],none⟩]
noncomputable def qoi:=qe [(202,q9 q77 q6L vN),(203,q9 jy jv qy)] [(146,f146)] [] 0
noncomputable def q14:=qk qoi 146 f146 true qbF qb6
theorem qir:qz prog qa 146 (q9 qbF qb6 q14):=sk qoi qc q8 (alc qar (alc j3 aln)) aln (b1 func146) func146
def q99:FIn:=⟨[.str],[]⟩
def q94:List FOut:=[⟨(.int .i64),[],none⟩]
noncomputable def qlU:=qe [(146,q9 qbF qb6 q14),(200,q9 qb4 qbP yp)] [(298,f298)] [] 0
noncomputable def kG:=qk qlU 298 f298 true q99 q94
theorem qg6:qz prog qa 298 (q9 q99 q94 kG):=sk qlU qc q8 (alc qir (alc qij aln)) aln (b1 func298) func298
def qf8:FIn:=⟨[(.imm [(.int .i64),(.int .i64),(.int .i64)])],[]⟩
def qfX:List FOut:=[⟨.bool,[],none⟩]
def q9K:Tmpl:={ t:=(.any::.any::.any::(.imm [.str])::.bool::(.int .i64)::qm 21 []),h:=[] }
def qaw:List Out:=[⟨(.exit 0),{ t:=(qm 4 (.bool::qm 22 [])),h:=[] }⟩]
noncomputable def q5m:=qe [(197,q9 q35 q2S vE),(298,q9 q99 q94 kG)] [(246,f246)] [] 0
noncomputable def uQ:=z8 q5m 246 f246 4 q9K qaw
theorem qng:qj prog qa q5m.nimp (qp prog q5m.iter 246) (qI f246 4) (qh q9K qaw (qf uQ)):=gk q5m qc q8 (alc q6F (alc qg6 aln)) aln (b1 func246) func246
noncomputable def qms:=qe [(197,q9 q35 q2S vE),(298,q9 q99 q94 kG)] [(246,f246)] [((246,4),qh q9K qaw (qf uQ))] 0
noncomputable def q4W:=qk qms 246 f246 true qf8 qfX
theorem qqV:qz prog qa 246 (q9 qf8 qfX q4W):=sk qms qc q8 (alc q6F (alc qg6 aln)) (alc (lk func246 qng) aln) (b1 func246) func246
def q6x:FIn:=⟨[.str,.str],[]⟩
def q7G:List FOut:=[⟨(.int .i64),[],none⟩]
noncomputable def qpt:=qe [(145,q9 u4 u7 zf),(146,q9 qbF qb6 q14)] [(80,f80)] [] 0
noncomputable def yx:=qk qpt 80 f80 true q6x q7G
theorem qa4:qz prog qa 80 (q9 q6x q7G yx):=sk qpt qc q8 (alc kz (alc qir aln)) aln (b1 func80) func80
def qaa:FIn:=⟨[(.imm [(.int .i64),(.int .i64),(.int .i64)]),(.agg [.str,.str,.str]),.str],[]⟩
def qaG:List FOut:=[⟨.bool,[],none⟩]
def q6W:Tmpl:={ t:=((.imm [(.int .i64),(.int .i64),(.int .i64)])::.any::.str::.any::(.ptr 0 0)::.any::.any::(.int .i64)::qm 15 []),h:=[.cells [.str,.str,.str]] }
def q7y:List Out:=[⟨(.exit 0),{ t:=(qm 23 []),h:=[] }⟩,⟨.ret,{ t:=(qm 6 (.bool::qm 16 [])),h:=[] }⟩]
noncomputable def q2t:=qe [(80,q9 q6x q7G yx),(199,q9 q9m q9x yJ)] [(247,f247)] [] 0
noncomputable def vJ:=z8 q2t 247 f247 3 q6W q7y
theorem qje:qj prog qa q2t.nimp (qp prog q2t.iter 247) (qI f247 3) (qh q6W q7y (qf vJ)):=gk q2t qc q8 (alc qa4 (alc qcO aln)) aln (b1 func247) func247
noncomputable def qik:=qe [(80,q9 q6x q7G yx),(199,q9 q9m q9x yJ)] [(247,f247)] [((247,3),qh q6W q7y (qf vJ))] 0
noncomputable def q1A:=qk qik 247 f247 true qaa qaG
theorem qo1:qz prog qa 247 (q9 qaa qaG q1A):=sk qik qc q8 (alc qa4 (alc qcO aln)) (alc (lk func247 qje) aln) (b1 func247) func247
def qaD:FIn:=⟨[(.imm [(.int .i64),(.int .i64),(.int .i64)]),(.imm [(.int .i64)])],[]⟩
def q9U:List FOut:=[⟨.bool,[],none⟩]
noncomputable def qiT:=qe [(143,q9 qej qeC ku),(144,q9 q8V q96 q00),(246,q9 qf8 qfX q4W),(247,q9 qaa qaG q1A)] [(196,f196)] [] 0
noncomputable def q1D:=qk qiT 196 f196 true qaD q9U
theorem qnh:qz prog qa 196 (q9 qaD q9U q1D):=sk qiT qc q8 (alc qkq (alc qgi (alc qqV (alc qo1 aln)))) aln (b1 func196) func196
def qhE:FIn:=⟨[(.imm [(.int .i64),(.int .i64),(.int .i64)]),(.int .i64)],[]⟩
def qid:List FOut:=[⟨(.imm [(.int .i64)]),[],none⟩]
def qcT:Tmpl:={ t:=((.imm [(.int .i64),(.int .i64),(.int .i64)])::(.int .i64)::.any::.any::.any::(.int .i64)::qm 10 ((.imm [(.sl [(.int .i64)])])::(.int .i64)::(.int .i64)::qm 8 [])),h:=[] }
def qcP:List Out:=[⟨(.exit 2),{ t:=((.imm [(.int .i64),(.int .i64),(.int .i64)])::(.int .i64)::.any::.any::.any::(.int .i64)::qm 21 []),h:=[] }⟩,⟨.ret,{ t:=(qm 4 ((.imm [(.int .i64)])::qm 22 [])),h:=[] }⟩]
noncomputable def q9b:List (FuncId×zj):=[(195,q9 qhp qi0 q6J),(196,q9 qaD q9U q1D)]
theorem qck:∀x,x∈q9b->qz prog qa x.1 x.2:=(alc qsk (alc qnh aln))
noncomputable def q7b:=qe q9b [(141,f141)] [] 0
noncomputable def q0I:=z8 q7b 141 f141 8 qcT qcP
theorem qpk:qj prog qa q7b.nimp (qp prog q7b.iter 141) (qI f141 8) (qh qcT qcP (qf q0I)):=gk q7b qc q8 qck aln (b1 func141) func141
def qcS:Tmpl:={ t:=((.imm [(.int .i64),(.int .i64),(.int .i64)])::(.int .i64)::.any::.any::.any::(.int .i64)::qm 21 []),h:=[] }
def qd8:List Out:=[⟨(.exit 0),{ t:=(qm 27 []),h:=[] }⟩,⟨.ret,{ t:=(qm 4 ((.imm [(.int .i64)])::qm 22 [])),h:=[] }⟩]
noncomputable def q7i:=qe q9b [(141,f141)] [((141,8),qh qcT qcP (qf q0I))] 0
noncomputable def q0F:=z8 q7i 141 f141 3 qcS qd8
theorem qoJ:qj prog qa q7i.nimp (qp prog q7i.iter 141) (qI f141 3) (qh qcS qd8 (qf q0F)):=gk q7i qc q8 qck (alc (lk func141 qpk) aln) (b1 func141) func141
noncomputable def qoc:=qe q9b [(141,f141)] [((141,3),qh qcS qd8 (qf q0F))] 0
noncomputable def q3M:=qk qoc 141 f141 true qhE qid
theorem qsq:qz prog qa 141 (q9 qhE qid q3M):=sk qoc qc q8 qck (alc (lk func141 qoJ) aln) (b1 func141) func141
def qfq:FIn:=⟨[(.imm [(.int .i64),(.int .i64)])],[]⟩
def qfk:List FOut:=[⟨(.imm [(.int .i64),(.int .i64),(.int .i64)]),[],none⟩]
def q9T:Tmpl:={ t:=((.imm [(.int .i64),(.int .i64)])::.any::.any::(.vec 0)::(.int .i64)::qm 21 []),h:=[.vec 71 [(.int .i64),(.int .i64),(.int .i64)]],pro:=[(3,71,[(.int .i64),(.int .i64),(.int .i64)])] }
def q9Z:List Out:=[⟨(.exit 0),{ t:=(.any::.any::.any::(.vec 0)::qm 22 []),h:=[.vec 71 [(.int .i64),(.int .i64),(.int .i64)]] }⟩]
noncomputable def q5e:=qe [] [(142,f142)] [] 0
noncomputable def uT:=z8 q5e 142 f142 4 q9T q9Z
theorem qnR:qj prog qa q5e.nimp (qp prog q5e.iter 142) (qI f142 4) (qh q9T q9Z (qf uT)):=gk q5e qc q8 aln aln (b1 func142) func142
noncomputable def qmC:=qe [] [(142,f142)] [((142,4),qh q9T q9Z (qf uT))] 0
noncomputable def q4Q:=qk qmC 142 f142 true qfq qfk
theorem qr8:qz prog qa 142 (q9 qfq qfk q4Q):=sk qmC qc q8 aln (alc (lk func142 qnR) aln) (b1 func142) func142
def qfz:FIn:=⟨[(.imm [(.int .i64),(.int .i64)])],[]⟩
def qeY:List FOut:=[⟨(.tuple [(.agg [.str,.str]),.str,(.imm [(.int .i64)]),(.int .i64)]),[],none⟩]
noncomputable def qlX:=qe [(140,q9 qjn qkj q9y),(141,q9 qhE qid q3M),(142,q9 qfq qfk q4Q),(143,q9 qej qeC ku),(144,q9 q8V q96 q00)] [(79,f79)] [] 0
noncomputable def q1Y:=qk qlX 79 f79 true qfz qeY
theorem qru:qz prog qa 79 (q9 qfz qeY q1Y):=sk qlX qc q8 (alc quB (alc qsq (alc qr8 (alc qkq (alc qgi aln))))) aln (b1 func79) func79
def qn4:FIn:=⟨[(.imm [(.int .i64),(.int .i64)]),(.int .i64)],[]⟩
def qnu:List FOut:=[⟨(.tuple [.bool,(.int .i64)]),[],none⟩]
noncomputable def qtv:=qe [(29,q9 qbQ qbJ q18),(79,q9 qfz qeY q1Y),(80,q9 q6x q7G yx),(81,q9 q3L q3J za),(82,q9 q3p q3d zq)] [(28,f28)] [] 0
noncomputable def q2T:=qk qtv 28 f28 true qn4 qnu
theorem qw2:qz prog qa 28 (q9 qn4 qnu q2T):=sk qtv qc q8 (alc qiE (alc qru (alc qa4 (alc q5s (alc q5g aln))))) aln (b1 func28) func28
def q9G:FIn:=⟨[(.imm [(.int .i64),(.int .i64)]),(.int .i64)],[]⟩
def qax:List FOut:=[⟨.bool,[],none⟩]
noncomputable def jW:=qe [(19,q9 qb1 qb3 yo),(26,q9 qnB qn8 qdn),(27,q9 qlw qlc jH),(28,q9 qn4 qnu q2T)] [(5,f5)] [] 0
noncomputable def q1y:=qk jW 5 f5 true q9G qax
theorem qmV:qz prog qa 5 (q9 q9G qax q1y):=sk jW qc q8 (alc qil (alc qwp (alc qoG (alc qw2 aln)))) aln (b1 func5) func5
def qnY:FIn:=⟨[(.imm [(.int .i64),(.int .i64),(.int .i64),(.int .i64),(.int .i64),(.int .i64)])],[]⟩
def qo5:List FOut:=[⟨.bool,[],none⟩]
noncomputable def qu6:=qe [] [(32,f32)] [] 0
noncomputable def qcM:=qk qu6 32 f32 true qnY qo5
theorem qwE:qz prog qa 32 (q9 qnY qo5 qcM):=sk qu6 qc q8 aln aln (b1 func32) func32
def qnT:FIn:=⟨[(.imm [(.int .i64),(.int .i64),(.int .i64),(.int .i64),(.int .i64),(.int .i64)])],[]⟩
def qn2:List FOut:=[⟨(.imm [(.int .i64),(.int .i64),(.int .i64),(.int .i64),(.int .i64),(.int .i64)]),[],none⟩]
def qhP:Tmpl:={ t:=(.any::.any::.any::(.vec 0)::.any::.any::(.imm [(.int .i64),(.int .i64),(.int .i64),(.int .i64),(.int .i64),(.int .i64)])::(.int .i64)::(.int .i64)::qm 9 []),h:=[.vec 168 [(.int .i64),(.int .i64),(.int .i64),(.int .i64),(.int .i64),(.int .i64)]],pro:=[(3,168,[(.int .i64),(.int .i64),(.int .i64),(.int .i64),(.int .i64),(.int .i64)])] }
def qhN:List Out:=[⟨(.exit 0),{ t:=(.any::.any::.any::(.vec 0)::qm 14 []),h:=[.vec 168 [(.int .i64),(.int .i64),(.int .i64),(.int .i64),(.int .i64),(.int .i64)]] }⟩]
noncomputable def qbW:=qe [] [(33,f33)] [] 0
noncomputable def q3z:=z8 qbW 33 f33 4 qhP qhN
theorem qsH:qj prog qa qbW.nimp (qp prog qbW.iter 33) (qI f33 4) (qh qhP qhN (qf q3z)):=gk qbW qc q8 aln aln (b1 func33) func33
noncomputable def qtr:=qe [] [(33,f33)] [((33,4),qh qhP qhN (qf q3z))] 0
noncomputable def qd5:=qk qtr 33 f33 true qnT qn2
theorem qwU:qz prog qa 33 (q9 qnT qn2 qd5):=sk qtr qc q8 aln (alc (lk func33 qsH) aln) (b1 func33) func33
def qbA:FIn:=⟨[(.imm [(.int .i64),(.int .i64),(.int .i64),(.int .i64),(.int .i64),(.int .i64)])],[]⟩
def qbc:List FOut:=[⟨(.int .i64),[],none⟩]
def qc7:Tmpl:={ t:=((.imm [(.int .i64),(.int .i64),(.int .i64),(.int .i64),(.int .i64),(.int .i64)])::.any::.any::(.int .i64)::qm 25 []),h:=[] }
def qd2:List Out:=[⟨(.exit 0),{ t:=(qm 29 []),h:=[] }⟩,⟨.ret,{ t:=(.any::.any::(.int .i64)::qm 26 []),h:=[] }⟩]
noncomputable def q6z:=qe [(153,q9 q3P q3h jb)] [(91,f91)] [] 0
noncomputable def yZ:=z8 q6z 91 f91 6 qc7 qd2
theorem qp7:qj prog qa q6z.nimp (qp prog q6z.iter 91) (qI f91 6) (qh qc7 qd2 (qf yZ)):=gk q6z qc q8 (alc qaS aln) aln (b1 func91) func91
noncomputable def qpd:=qe [(153,q9 q3P q3h jb)] [(91,f91)] [((91,6),qh qc7 qd2 (qf yZ))] 0
noncomputable def q3E:=qk qpd 91 f91 true qbA qbc
theorem qiR:qz prog qa 91 (q9 qbA qbc q3E):=sk qpd qc q8 (alc qaS aln) (alc (lk func91 qp7) aln) (b1 func91) func91
def q5d:FIn:=⟨[(.agg [(.int .i64),(.int .i64),(.int .i64)]),(.agg [(.int .i64),(.int .i64),(.int .i64)])],[]⟩
def q5a:List FOut:=[⟨(.int .i64),[],none⟩]
noncomputable def qit:=qe [(154,q9 q2v q2y zh),(155,q9 qen qed q0R)] [(92,f92)] [] 0
noncomputable def uW:=qk qit 92 f92 true q5d q5a
theorem qce:qz prog qa 92 (q9 q5d q5a uW):=sk qit qc q8 (alc q9l (alc qkm aln)) aln (b1 func92) func92
def kQ:FIn:=⟨[(.imm [(.int .i64),(.int .i64),(.int .i64),(.int .i64),(.int .i64),(.int .i64)])],[]⟩
def kZ:List FOut:=[⟨(.tuple [(.imm [(.int .i64)]),(.int .i64)]),[],none⟩]
def qa1:Tmpl:={ t:=((.imm [(.int .i64),(.int .i64),(.int .i64),(.int .i64),(.int .i64),(.int .i64)])::qm 4 ((.vec 0)::(.int .i64)::qm 26 [])),h:=[.vec 3 [(.int .i64)]],pro:=[(5,3,[(.int .i64)])] }
def qap:List Out:=[⟨(.exit 0),{ t:=(qm 5 ((.vec 0)::qm 27 [])),h:=[.vec 3 [(.int .i64)]] }⟩]
noncomputable def q5h:=qe [(91,q9 qbA qbc q3E),(92,q9 q5d q5a uW)] [(35,f35)] [] 0
noncomputable def k9:=z8 q5h 35 f35 8 qa1 qap
theorem qnv:qj prog qa q5h.nimp (qp prog q5h.iter 35) (qI f35 8) (qh qa1 qap (qf k9)):=gk q5h qc q8 (alc qiR (alc qce aln)) aln (b1 func35) func35
noncomputable def qmN:=qe [(91,q9 qbA qbc q3E),(92,q9 q5d q5a uW)] [(35,f35)] [((35,8),qh qa1 qap (qf k9))] 0
noncomputable def wE:=qk qmN 35 f35 true kQ kZ
theorem q0h:qz prog qa 35 (q9 kQ kZ wE):=sk qmN qc q8 (alc qiR (alc qce aln)) (alc (lk func35 qnv) aln) (b1 func35) func35
def q0j:FIn:=⟨[(.int .i64)],[]⟩
def q0n:List FOut:=[⟨(.int .i64),[],none⟩]
noncomputable def qgH:=qe [] [(94,f94)] [] 0
noncomputable def wV:=qk qgH 94 f94 true q0j q0n
theorem q4f:qz prog qa 94 (q9 q0j q0n wV):=sk qgH qc q8 aln aln (b1 func94) func94
def q5D:FIn:=⟨[(.imm [(.int .i64)]),(.fn 94 [] [])],[]⟩
def q5P:List FOut:=[⟨(.agg [(.int .i64),(.int .i64)]),[],none⟩]
def q2Z:Tmpl:={ t:=((.imm [(.int .i64)])::(.fn 94 [] [])::.any::.any::(.ptr 0 0)::(.ptr 1 0)::.any::.any::(.imm [(.int .i64)])::(.int .i64)::(.int .i64)::qm 32 []),h:=[.cells [(.int .i64),(.int .i64)],.cells [(.int .i64),(.int .i64)]] }
def q2F:List Out:=[⟨(.exit 0),{ t:=(qm 4 ((.ptr 0 0)::(.ptr 1 0)::qm 37 [])),h:=[.cells [(.int .i64),(.int .i64)],.cells [(.int .i64),(.int .i64)]] }⟩]
noncomputable def kf:=qe [(94,q9 q0j q0n wV)] [(93,f93)] [] 0
noncomputable def vg:=z8 kf 93 f93 4 q2Z q2F
theorem qgy:qj prog qa kf.nimp (qp prog kf.iter 93) (qI f93 4) (qh q2Z q2F (qf vg)):=gk kf qc q8 (alc q4f aln) aln (b1 func93) func93
noncomputable def qct:=qe [(94,q9 q0j q0n wV)] [(93,f93)] [((93,4),qh q2Z q2F (qf vg))] 0
noncomputable def yX:=qk qct 93 f93 true q5D q5P
theorem qja:qz prog qa 93 (q9 q5D q5P yX):=sk qct qc q8 (alc q4f aln) (alc (lk func93 qgy) aln) (b1 func93) func93
def qcm:FIn:=⟨[(.imm [(.int .i64),(.int .i64),(.int .i64),(.int .i64),(.int .i64),(.int .i64)])],[]⟩
def qcW:List FOut:=[⟨(.tuple [(.int .i64),(.int .i64),(.int .i64)]),[],none⟩]
noncomputable def qjY:=qe [(34,q9 q3g q42 vQ),(93,q9 q5D q5P yX),(94,q9 q0j q0n wV)] [(36,f36)] [] 0
noncomputable def q32:=qk qjY 36 f36 true qcm qcW
theorem qq9:qz prog qa 36 (q9 qcm qcW q32):=sk qjY qc q8 (alc q50 (alc qja (alc q4f aln))) aln (b1 func36) func36
def qac:FIn:=⟨[(.imm [(.int .i64),(.int .i64),(.int .i64),(.int .i64),(.int .i64),(.int .i64)])],[]⟩
def q9S:List FOut:=[⟨(.tuple [(.int .i64),(.int .i64),(.int .i64)]),[],none⟩]
def q5S:Tmpl:={ t:=(qm 5 ((.imm [(.int .i64)])::.any::(.int .i64)::(.int .i64)::(.int .i64)::qm 39 [])),h:=[] }
def q5u:List Out:=[⟨(.exit 0),{ t:=(qm 7 ((.int .i64)::(.int .i64)::qm 40 [])),h:=[] }⟩]
noncomputable def q11:=qe [(35,q9 kQ kZ wE)] [(37,f37)] [] 0
noncomputable def je:=z8 q11 37 f37 11 q5S q5u
theorem qjc:qj prog qa q11.nimp (qp prog q11.iter 37) (qI f37 11) (qh q5S q5u (qf je)):=gk q11 qc q8 (alc q0h aln) aln (b1 func37) func37
noncomputable def qiB:=qe [(35,q9 kQ kZ wE)] [(37,f37)] [((37,11),qh q5S q5u (qf je))] 0
noncomputable def jV:=qk qiB 37 f37 true qac q9S
theorem qnI:qz prog qa 37 (q9 qac q9S jV):=sk qiB qc q8 (alc q0h aln) (alc (lk func37 qjc) aln) (b1 func37) func37
def qr2:FIn:=⟨[(.int .i64)],[]⟩
def qr6:List FOut:=[⟨.bool,[],none⟩]
noncomputable def qxh:=qe [] [(156,f156)] [] 0
noncomputable def q6b:=qk qxh 156 f156 true qr2 qr6
theorem qyN:qz prog qa 156 (q9 qr2 qr6 q6b):=sk qxh qc q8 aln aln (b1 func156) func156
def qi7:FIn:=⟨[(.agg [(.int .i64),(.int .i64)])],[]⟩
def qh8:List FOut:=[⟨(.int .i64),[],none⟩]
noncomputable def qpq:=qe [(156,q9 qr2 qr6 q6b)] [(95,f95)] [] 0
noncomputable def q7M:=qk qpq 95 f95 true qi7 qh8
theorem qsm:qz prog qa 95 (q9 qi7 qh8 q7M):=sk qpq qc q8 (alc qyN aln) aln (b1 func95) func95
def qeo:FIn:=⟨[(.agg [(.int .i64),(.int .i64)])],[]⟩
def qdQ:List FOut:=[⟨(.int .i64),[],none⟩]
noncomputable def qs6:=qe [(95,q9 qi7 qh8 q7M)] [(43,f43)] [] 0
noncomputable def q5W:=qk qs6 43 f43 true qeo qdQ
theorem qkg:qz prog qa 43 (q9 qeo qdQ q5W):=sk qs6 qc q8 (alc qsm aln) aln (b1 func43) func43
def qhf:FIn:=⟨[(.imm [(.int .i64),(.int .i64),(.int .i64),(.int .i64),(.int .i64),(.int .i64)]),(.agg [(.int .i64),(.int .i64)])],[]⟩
def qhS:List FOut:=[⟨(.tuple [.bool,(.int .i64),(.int .i64)]),[],none⟩]
def qad:Tmpl:={ t:=((.imm [(.int .i64),(.int .i64),(.int .i64),(.int .i64),(.int .i64),(.int .i64)])::.any::.any::(.ptr 0 0)::.any::.any::.any::(.imm [(.int .i64)])::.any::.any::(.int .i64)::qm 44 []),h:=[.cells [(.int .i64),(.int .i64)]] }
def q9H:List Out:=[⟨(.exit 0),{ t:=((.imm [(.int .i64),(.int .i64),(.int .i64),(.int .i64),(.int .i64),(.int .i64)])::qm 54 []),h:=[] }⟩,⟨.ret,{ t:=(qm 4 (.bool::(.int .i64)::(.int .i64)::qm 48 [])),h:=[] }⟩]
noncomputable def q5k:=qe [(35,q9 kQ kZ wE),(43,q9 qeo qdQ q5W)] [(38,f38)] [] 0
noncomputable def uS:=z8 q5k 38 f38 11 qad q9H
theorem qn7:qj prog qa q5k.nimp (qp prog q5k.iter 38) (qI f38 11) (qh qad q9H (qf uS)):=gk q5k qc q8 (alc q0h (alc qkg aln)) aln (b1 func38) func38
noncomputable def qpH:=qe [(35,q9 kQ kZ wE),(43,q9 qeo qdQ q5W)] [(38,f38)] [((38,11),qh qad q9H (qf uS))] 0
noncomputable def q6V:=qk qpH 38 f38 true qhf qhS
theorem qsy:qz prog qa 38 (q9 qhf qhS q6V):=sk qpH qc q8 (alc q0h (alc qkg aln)) (alc (lk func38 qn7) aln) (b1 func38) func38
def q6p:FIn:=⟨[(.imm [(.int .i64),(.int .i64),(.int .i64),(.int .i64),(.int .i64),(.int .i64)]),(.agg [(.int .i64),(.int .i64)])],[]⟩
def q6D:List FOut:=[⟨.bool,[],none⟩]
noncomputable def vD:=qe [(19,q9 qb1 qb3 yo),(31,q9 qez qeA q0S),(32,q9 qnY qo5 qcM),(33,q9 qnT qn2 qd5),(34,q9 q3g q42 vQ),(35,q9 kQ kZ wE),(36,q9 qcm qcW q32),(37,q9 qac q9S jV),(38,q9 qhf qhS q6V),(39,q9 ur uq zA)] [(7,f7)] [] 0
noncomputable def kv:=qk vD 7 f7 true q6p q6D
theorem qk0:qz prog qa 7 (q9 q6p q6D kv):=sk vD qc q8 (alc qil (alc qkl (alc qwE (alc qwU (alc q50 (alc q0h (alc qq9 (alc qnI (alc qsy (alc q4Y aln)))))))))) aln (b1 func7) func7
end Go.Eng

namespace Go.Eng
abbrev qOH(r t:TR):TR:=.br (okR r) t .fail
abbrev qOI(c:Bool)(t:TR):TR:=.br c t .fail
abbrev qOJ(l:List PV):TR:=.leaf (0,l)
variable (a0 a1 a2 a3 a4 a5 a6 a7 a8 a9 a10 a11 a12 a13 a14 a15:R)
variable (c0 c1 c2 c3 c4 c5 c6 c7 c8 c9 c10 c11 c12 c13:Int)
variable (d0 d1 d2 d3 d4 d5 d7 d8 d10 d11:Bool)
variable (e0 e1 e2 e3 e4 e5 e6 e7 e8 e9 e10 e11 e12 e13 e14:qOK)
theorem qsL:qU [.i c0]=(.br (ile (-100000) c0) (qOJ [.b (ile c0 100000)]) (qOJ [.b false])):=by kernel_rfl
theorem qw1:yt [.i c0,.i c1,.i c2]=(qOH (qU [.i c0]) (.br (gB (qU [.i c0]) 0) (qOH (qU [.i c1]) (.br (gB (qU [.i c1]) 0) (qOH (qU [.i c2]) (qOJ [.b (gB (qU [.i c2]) 0)])) (qOJ [.b false]))) (qOJ [.b false]))):=by kernel_rfl
theorem q65:zr [.r a0,.i c1,.i c2]=(.br (ilt c2 c1) (qOI (inb c2 (qg a0)) (let r0:=yt [.i (cI a0 c2 0),.i (cI a0 c2 1),.i (cI a0 c2 2)];qOH r0 (.br (not (gB r0 0)) (.leaf (2,[.i 2])) (qOJ [.r a0,.i c1,.i (qo .i64 c2 1)])))) (.leaf (1,[]))):=by kernel_rfl
theorem qj6:zo [.r a0]=(let r0:=qf zr [.r a0,.i (qg a0),.i 0];qOH r0 (.br (jIs r0 0) (qOJ [.i 0]) (qOJ [.i (gI r0 0)]))):=by kernel_rfl
theorem qdI:wD [.r a0]=(.br (ilt 64 (qg a0)) (qOJ [.i 5]) (let r0:=zo [.r a0];qOH r0 (qOJ [.i (gI r0 0)]))):=by kernel_rfl
theorem qlB:wQ [.r a0]=(let r0:=wD [.r a0];qOH r0 (qOJ [.i (gI r0 0)])):=by kernel_rfl
theorem qkL:qG [.i c0,.i c1,.i c2,.i c3]=(qOI (inb c3 3) (qOJ [.i (qqf [c0,c1,c2] c3),.i c3])):=by kernel_rfl
theorem q37:zp [.r a0,.r a1,.i c2,.i c3,.i c4,.i c5,.i c6,.i c7,.i c8]=(let t0:=qG [.i (cI a1 c3 0),.i (cI a1 c3 1),.i (cI a1 c3 2),.i c4];let t1:=qG [.i (cI a0 c7 0),.i (cI a0 c7 1),.i (cI a0 c7 2),.i (gI t0 1)];let t2:=qG [.i (cI a1 c3 0),.i (cI a1 c3 1),.i (cI a1 c3 2),.i (gI t1 1)];let t3:=qG [.i (cI a0 c8 0),.i (cI a0 c8 1),.i (cI a0 c8 2),.i (gI t2 1)];let b0:Bool:=(ilt (gI t3 0) (gI t2 0));let i0:Int:=(gI t3 1);let i1:Int:=(qo .i64 c3 1);let p0:List PV:=[.i c5,.i c6,.i c7,.i c8];(.br (ilt c3 c2) (qOI (inb c3 (qg a1)) (qOH t0 (qOI (inb c7 (qg a0)) (qOH t1 (.br (ilt (gI t0 0) (gI t1 0)) (qOH t2 (qOI (inb c8 (qg a0)) (qOH t3 (.br b0 (qOJ [.r a0,.r a1,.i c2,.i i1,.i i0,.i c5,.i c6,.i c3,.i c3]) (qOJ [.r a0,.r a1,.i c2,.i i1,.i i0,.i c5,.i c6,.i c3,.i c8]))))) (qOH t2 (qOI (inb c8 (qg a0)) (qOH t3 (.br b0 (qOJ [.r a0,.r a1,.i c2,.i i1,.i i0,.i c5,.i c6,.i c7,.i c3]) (qOJ ((.r a0)::(.r a1)::(.i c2)::(.i i1)::(.i i0)::p0))))))))))) (.leaf (1,((.i c4)::p0))))):=by kernel_rfl
theorem qfP:wY [.r a0,.i c1]=(let r0:=qf zp [.r a0,.r a0,.i (qg a0),.i 0,.i c1,.i 0,.i 0,.i 0,.i 0];qOH r0 (qOJ [.i (gI r0 3),.i (gI r0 4),.i (gI r0 0)])):=by kernel_rfl
theorem qnV:zn [.r a0,.i c1]=(let r0:=wY [.r a0,.i c1];qOH r0 (qOI (inb (gI r0 0) (qg a0)) (let r1:=qG [.i (cI a0 (gI r0 0) 0),.i (cI a0 (gI r0 0) 1),.i (cI a0 (gI r0 0) 2),.i (gI r0 2)];qOH r1 (qOI (inb (gI r0 1) (qg a0)) (let r2:=qG [.i (cI a0 (gI r0 1) 0),.i (cI a0 (gI r0 1) 1),.i (cI a0 (gI r0 1) 2),.i (gI r1 1)];qOH r2 (qOJ [.i (gI r1 0),.i (gI r2 0)])))))):=by kernel_rfl
theorem qky:jo [.r a0,.r a1,.i c2,.i c3,.r a4,.r a5]=(.br (ilt c2 2) (.br (ieq c2 0) (.br (ieq (qg a0) 0) (.leaf (2,[.i 13])) (let r0:=wQ [.r a0];qOH r0 (.br (ine (gI r0 0) 0) (.leaf (2,[.i (gI r0 0)])) (qOJ [.r a0,.r a1,.i (qo .i64 c2 1),.i c3,.r a4,.r a5])))) (qOI (ieq c2 1) (.br (ieq (qg a1) 0) (.leaf (2,[.i 13])) (let r0:=wQ [.r a1];qOH r0 (.br (ine (gI r0 0) 0) (.leaf (2,[.i (gI r0 0)])) (qOJ [.r a0,.r a1,.i (qo .i64 c2 1),.i c3,.r a4,.r a5])))))) (.leaf (1,[.i c3,.r a4,.r a5]))):=by kernel_rfl
theorem qyZ:kF [.i c0,.r a1,.r a2]=(.br (ilt c0 0) (qOJ [.i 1]) (.br (ile 3 c0) (qOJ [.i 1]) (let r0:=qf jo [.r a1,.r a2,.i 0,.i c0,.r a1,.r a2];qOH r0 (.br (jIs r0 0) (let r1:=zn [.r (gR r0 1),.i (gI r0 0)];qOH r1 (let r2:=zn [.r (gR r0 2),.i (gI r0 0)];qOH r2 (.br (ile (gI r2 0) (gI r1 1)) (qOJ [.i 9]) (qOJ [.i 0])))) (qOJ [.i (gI r0 0)]))))):=by kernel_rfl
theorem qvY:q1a [.i c0,.r a1,.r a2]=(let r0:=zn [.r a1,.i c0];qOH r0 (let r1:=zn [.r a2,.i c0];qOH r1 (qOJ [.i (wo .i64 (gI r1 0) (gI r0 1)),.i (wo .i64 (gI r1 1) (gI r0 0))]))):=by kernel_rfl
theorem qwF:q3e [.i c0,.r a1,.r a2,.b d3]=(let p0:List PV:=[.i c0,.r a1,.r a2];let t0:=q1a p0;(qOH (kF p0) (.br (ine (gI (kF p0) 0) 0) (qOJ [.i 0,.i (gI (kF p0) 0)]) (.br d3 (qOH t0 (qOJ [.i (gI t0 0),.i 0])) (qOH t0 (qOJ [.i (gI t0 1),.i 0])))))):=by kernel_rfl
theorem qvJ:q6q [.i c0,.r a1,.r a2]=(let r0:=kF [.i c0,.r a1,.r a2];qOH r0 (.br (ine (gI r0 0) 0) (qOJ [.i 0,.i 0,.i (gI r0 0)]) (let r1:=q1a [.i c0,.r a1,.r a2];qOH r1 (qOJ [.i (gI r1 0),.i (gI r1 1),.i 0])))):=by kernel_rfl
theorem qBL:wB [.i c0]=(qOH (q4D [.i c0]) (qOJ [.s (gS (q4D [.i c0]) 0)])):=by kernel_rfl
theorem qwP:wN [.i c0]=(qOH (wB [.i c0]) (qOJ [.s (gS (wB [.i c0]) 0)])):=by kernel_rfl
theorem qwB:kx [.i c0,.i c1]=(qOH (qU [.i c0]) (.br (gB (qU [.i c0]) 0) (qOH (qU [.i c1]) (qOJ [.b (gB (qU [.i c1]) 0)])) (qOJ [.b false]))):=by kernel_rfl
theorem q4H:zb [.r a0,.i c1,.i c2]=(.br (ilt c2 c1) (qOI (inb c2 (qg a0)) (let r0:=kx [.i (cI a0 c2 0),.i (cI a0 c2 1)];qOH r0 (.br (not (gB r0 0)) (.leaf (2,[.i 2])) (qOJ [.r a0,.i c1,.i (qo .i64 c2 1)])))) (.leaf (1,[]))):=by kernel_rfl
theorem qhe:j8 [.r a0]=(let r0:=qf zb [.r a0,.i (qg a0),.i 0];qOH r0 (.br (jIs r0 0) (qOJ [.i 0]) (qOJ [.i (gI r0 0)]))):=by kernel_rfl
theorem qcp:w9 [.r a0]=(.br (ilt 64 (qg a0)) (qOJ [.i 5]) (let r0:=j8 [.r a0];qOH r0 (qOJ [.i (gI r0 0)]))):=by kernel_rfl
theorem qvx:q4k [.r a0]=(let r0:=w9 [.r a0];qOH r0 (qOJ [.i (gI r0 0)])):=by kernel_rfl
theorem qut:q4B [.i c0]=(.br (ieq c0 0) (qOJ [.i 13]) (qOJ [.i 0])):=by kernel_rfl
theorem qtB:q4l [.r a0]=(let r0:=q4k [.r a0];qOH r0 (.br (ine (gI r0 0) 0) (qOJ [.i (gI r0 0)]) (let r1:=q4B [.i (qg a0)];qOH r1 (qOJ [.i (gI r1 0)])))):=by kernel_rfl
theorem q6j:wC [.r a0]=(qOI (ile (qg a0) 17592186044416) (qOJ [.r a0])):=by kernel_rfl
theorem q7c:qE [.s e0,.s e1]=(.br (ile (qv e1) (qv e0)) (qOI (q7O (qv e1) (qv e0)) (qOI (q7O 0 (qv e1)) (qOJ [.b (seq (qfh e0 0 (qv e1)) e1)]))) (qOJ [.b false])):=by kernel_rfl
theorem q6h:qZ [.s e0,.s e1]=(let r0:=qE [.s e0,.s e1];qOH r0 (.br (gB r0 0) (qOI (q7O (qv e0) (qv e0)) (qOI (q7O (qv e1) (qv e0)) (qOJ [.s (qfh e0 (qv e1) (qv e0))]))) (qOJ [.s e0]))):=by kernel_rfl
theorem qjM:qX [.s e0,.s e1]=(let r0:=qZ [.s e0,.s e1];qOH r0 (qOJ [.s (gS r0 0)])):=by kernel_rfl
theorem qwx:qW [.s e0]=(let t0:=qX [.s e0,.s [45]];let s0:List UInt8:=(gS t0 0);let t1:TR:=(qOJ [.i 3]);let t2:=q8X [.s s0,.s [48,49,50,51,52,53,54,55,56,57]];let t3:TR:=(.br (ilt 1024 (qv s0)) (qOJ [.i 11]) (qOJ [.i 0]));(qOH t0 (.br (seq s0 []) t1 (qOH t2 (.br (not (seq (gS t2 0) [])) t1 (qOI (inb 0 (qv s0)) (.br (ieq (sat s0 0) 48) (.br (not (seq e0 [48])) t1 t3) t3))))))):=by kernel_rfl
theorem qlZ:q7F [.r a0,.i c1,.i c2]=(.br (ilt c2 c1) (qOI (inb c2 (qg a0)) (let r0:=qW [.s (cS a0 c2 0)];qOH r0 (.br (ine (gI r0 0) 0) (.leaf (2,[.i (gI r0 0)])) (qOJ [.r a0,.i c1,.i (qo .i64 c2 1)])))) (.leaf (1,[]))):=by kernel_rfl
theorem qzI:we [.r a0]=(let r0:=qf q7F [.r a0,.i (qg a0),.i 0];qOH r0 (.br (jIs r0 0) (qOJ [.i 0]) (qOJ [.i (gI r0 0)]))):=by kernel_rfl
theorem qwL:yw [.s e0,.s e1]=(.br (ilt 9 (qv e0)) (qOJ [.i 0,.i 0,.b false]) (.br (ilt 9 (qv e1)) (qOJ [.i 0,.i 0,.b false]) (qOH (js [.s e0]) (qOH (js [.s e1]) (qOJ [.i (gI (js [.s e0]) 0),.i (gI (js [.s e1]) 0),.b true]))))):=by kernel_rfl
theorem qvj:kT [.i c0]=(qOH (wB [.i c0]) (qOJ [.s (gS (wB [.i c0]) 0),.i 0])):=by kernel_rfl
theorem qib:j7 [.b d0,.i c1,.r a2]=(let i0:Int:=(wo .i64 c1 1);let t0:TR:=(.leaf (1,[.b d0,.i c1,.r a2]));(.br (ilt 0 c1) (qOI (inb i0 232) (qOI (inb i0 232) (.br (ieq (cI a2 i0 0) 0) (qOJ [.b d0,.i i0,.r a2]) t0))) t0)):=by kernel_rfl
theorem qkc:qO [.b d0,.i c1,.r a2]=(let r0:=qf j7 [.b d0,.i c1,.r a2];qOH r0 (qOJ [.b (gB r0 0),.i (gI r0 1),.r (gR r0 2)])):=by kernel_rfl
theorem quY:q4N [.s e0,.b d1,.i c2,.r a3]=(let i0:Int:=(qv e0);let i1:Int:=(qzG 0 (wo .i64 i0 9));let t0:=js [.s (qfh e0 i1 i0)];(.br (ilt 0 i0) (qOI (q7O i0 i0) (qOI (q7O i1 i0) (qOH t0 (qOI (inb c2 232) (qOI (inb c2 232) (qOI (q7O i1 i0) (qOI (q7O 0 i1) (qOJ [.s (qfh e0 0 i1),.b d1,.i (qo .i64 c2 1),.r (qcN a3 c2 0 [.i (gI t0 0)])])))))))) (.leaf (1,[.b d1,.i c2,.r a3])))):=by kernel_rfl
theorem qzk:ww [.s e0]=(qOI (inb 0 (qv e0)) (let r0:=qX [.s e0,.s [45]];qOH r0 (let r1:=qf q4N [.s (gS r0 0),.b (ieq (sat e0 0) 45),.i 0,.r (q4e 232 [.i 0])];qOH r1 (let r2:=qO [.b (gB r1 0),.i (gI r1 1),.r (gR r1 2)];qOH r2 (qOJ [.b (gB r2 0),.i (gI r2 1),.r (gR r2 2)]))))):=by kernel_rfl
theorem q9z:vW [.i c0,.i c1,.i c2,.i c3,.b d4,.i c5,.r a6,.b d7,.i c8,.r a9]=(let i0:Int:=(qo .i64 c3 c1);let b0:Bool:=(inb i0 232);let i1:Int:=(qo .i64 (cI a6 i0 0) c2);let i2:Int:=(qo .i64 i1 (wd .i64 c0 (cI a9 c3 0)));let i3:Int:=(qev .i64 i2 1000000000);let i4:Int:=(wo .i64 i2 (wd .i64 i3 1000000000));let p0:List PV:=[.b d7,.i c8,.r a9];let i5:Int:=(qzG c5 (qo .i64 i0 1));let i6:Int:=(qo .i64 c3 1);let i7:Int:=(qev .i64 i1 1000000000);let i8:Int:=(wo .i64 i1 (wd .i64 i7 1000000000));let t0:TR:=(qOI b0 (qOI b0 (.br (ilt c3 c8) (qOI (inb c3 232) (qOI (inb c3 232) (.br (ilt i4 0) (qOI b0 (qOI b0 (qOJ ((.i c0)::(.i c1)::(.i (wo .i64 i3 1))::(.i i6)::(.b d4)::(.i i5)::(.r (qcN a6 i0 0 [.i (qo .i64 i4 1000000000)]))::p0)))) (qOI b0 (qOI b0 (qOJ ((.i c0)::(.i c1)::(.i i3)::(.i i6)::(.b d4)::(.i i5)::(.r (qcN a6 i0 0 [.i i4]))::p0))))))) (.br (ilt i8 0) (qOI b0 (qOI b0 (qOJ ((.i c0)::(.i c1)::(.i (wo .i64 i7 1))::(.i i6)::(.b d4)::(.i i5)::(.r (qcN a6 i0 0 [.i (qo .i64 i8 1000000000)]))::p0)))) (qOI b0 (qOI b0 (qOJ ((.i c0)::(.i c1)::(.i i7)::(.i i6)::(.b d4)::(.i i5)::(.r (qcN a6 i0 0 [.i i8]))::p0))))))));(.br (ilt c3 c8) t0 (.br (ine c2 0) t0 (.leaf (1,((.b d4)::(.i c5)::(.r a6)::p0)))))):=by kernel_rfl
theorem qn3:qR [.i c0,.i c1,.b d2,.i c3,.r a4,.b d5,.i c6,.r a7]=(let r0:=qf vW [.i c0,.i c1,.i 0,.i 0,.b d2,.i c3,.r a4,.b d5,.i c6,.r a7];qOH r0 (let r1:=qO [.b (gB r0 0),.i (gI r0 1),.r (gR r0 2)];qOH r1 (qOJ [.b (gB r1 0),.i (gI r1 1),.r (gR r1 2),.b (gB r0 3),.i (gI r0 4),.r (gR r0 5)]))):=by kernel_rfl
theorem qkQ:yi [.i c0,.i c1,.b d2,.i c3,.r a4,.b d5,.i c6,.r a7,.b d8,.i c9,.r a10]=(.br (ilt c1 c0) (qOI (inb c1 232) (qOI (inb c1 232) (let r0:=qR [.i (cI a7 c1 0),.i c1,.b d8,.i c9,.r a10,.b d2,.i c3,.r a4];qOH r0 (qOJ [.i c0,.i (qo .i64 c1 1),.b (gB r0 3),.i (gI r0 4),.r (gR r0 5),.b d5,.i c6,.r a7,.b (gB r0 0),.i (gI r0 1),.r (gR r0 2)])))) (.leaf (1,[.b d2,.i c3,.r a4,.b d5,.i c6,.r a7,.b d8,.i c9,.r a10]))):=by kernel_rfl
theorem qn1:kn [.b d0,.i c1,.r a2,.b d3,.i c4,.r a5]=(let r0:=qf yi [.i c4,.i 0,.b d0,.i c1,.r a2,.b d3,.i c4,.r a5,.b (not (beq d0 d3)),.i 0,.r (q4e 232 [.i 0])];qOH r0 (qOJ [.b (gB r0 0),.i (gI r0 1),.r (gR r0 2),.b (gB r0 3),.i (gI r0 4),.r (gR r0 5),.b (gB r0 6),.i (gI r0 7),.r (gR r0 8)])):=by kernel_rfl
theorem qkX:wg [.b d0,.i c1,.r a2]=(let r0:=zd [.b d0,.i c1,.r a2];qOH r0 (let r1:=qW [.s (gS r0 0)];qOH r1 (.br (ine (gI r1 0) 0) (qOJ [.s [],.i (gI r1 0),.b (gB r0 1),.i (gI r0 2),.r (gR r0 3)]) (qOJ [.s (gS r0 0),.i 0,.b (gB r0 1),.i (gI r0 2),.r (gR r0 3)])))):=by kernel_rfl
theorem qAI:q5w [.s e0,.s e1]=(let r0:=we [.r [[.s e0],[.s e1]]];qOH r0 (.br (ine (gI r0 0) 0) (qOJ [.s [],.i (gI r0 0)]) (let r1:=yw [.s e0,.s e1];qOH r1 (.br (gB r1 2) (let r2:=kT [.i (wd .i64 (gI r1 0) (gI r1 1))];qOH r2 (qOJ [.s (gS r2 0),.i (gI r2 1)])) (let r2:=ww [.s e0];qOH r2 (let r3:=ww [.s e1];qOH r3 (let r4:=kn [.b (gB r2 0),.i (gI r2 1),.r (gR r2 2),.b (gB r3 0),.i (gI r3 1),.r (gR r3 2)];qOH r4 (let r5:=wg [.b (gB r4 6),.i (gI r4 7),.r (gR r4 8)];qOH r5 (qOJ [.s (gS r5 0),.i (gI r5 1)]))))))))):=by kernel_rfl
theorem qdO:zy [.s e0,.s e1,.i c2]=(.br (ine c2 0) (qOJ [.s [48],.i c2]) (let r0:=q5w [.s e0,.s e1];qOH r0 (.br (ine (gI r0 1) 0) (qOJ [.s [48],.i (gI r0 1)]) (qOJ [.s (gS r0 0),.i (gI r0 1)])))):=by kernel_rfl
theorem qdr:jP [.s e0,.r a1,.i c2,.i c3,.i c4]=(.br (ilt c3 c2) (qOI (inb c3 (qg a1)) (let r0:=zy [.s e0,.s (cS a1 c3 0),.i c4];qOH r0 (qOJ [.s (gS r0 0),.r a1,.i c2,.i (qo .i64 c3 1),.i (gI r0 1)]))) (.leaf (1,[.s e0,.i c4]))):=by kernel_rfl
theorem qqB:qt [.r a0,.i c1]=(let r0:=qf jP [.s [49],.r a0,.i (qg a0),.i 0,.i c1];qOH r0 (qOJ [.s (gS r0 0),.i (gI r0 1)])):=by kernel_rfl
theorem qj9:jB [.i c0,.b d1,.i c2,.r a3,.b d4,.i c5,.r a6]=(let b0:Bool:=(inb c0 232);let p0:List PV:=[.b d1,.i c2,.r a3,.b d4,.i c5,.r a6];(.br (ile 0 c0) (qOI b0 (qOI b0 (qOI b0 (qOI b0 (.br (ine (cI a3 c0 0) (cI a6 c0 0)) (qOI b0 (qOI b0 (qOI b0 (qOI b0 (.leaf (2,((.i (wo .i64 (cI a3 c0 0) (cI a6 c0 0)))::p0))))))) (qOJ ((.i (wo .i64 c0 1))::p0))))))) (.leaf (1,p0)))):=by kernel_rfl
theorem qlK:wR [.b d0,.i c1,.r a2,.b d3,.i c4,.r a5]=(.br (ine c1 c4) (qOJ [.i (wo .i64 c1 c4),.b d0,.i c1,.r a2,.b d3,.i c4,.r a5]) (let r0:=qf jB [.i (wo .i64 c1 1),.b d0,.i c1,.r a2,.b d3,.i c4,.r a5];qOH r0 (.br (jIs r0 0) (qOJ [.i 0,.b (gB r0 0),.i (gI r0 1),.r (gR r0 2),.b (gB r0 3),.i (gI r0 4),.r (gR r0 5)]) (qOJ [.i (gI r0 0),.b (gB r0 1),.i (gI r0 2),.r (gR r0 3),.b (gB r0 4),.i (gI r0 5),.r (gR r0 6)])))):=by kernel_rfl
theorem qoX:wW [.b d0,.i c1,.r a2,.b d3,.i c4,.r a5]=(.br (beq d0 d3) (let r0:=qR [.i 1,.i 0,.b d0,.i c1,.r a2,.b d3,.i c4,.r a5];qOH r0 (qOJ [.b (gB r0 0),.i (gI r0 1),.r (gR r0 2),.b (gB r0 3),.i (gI r0 4),.r (gR r0 5)])) (let r0:=wR [.b d0,.i c1,.r a2,.b d3,.i c4,.r a5];qOH r0 (.br (ile 0 (gI r0 0)) (let r1:=qR [.i (-1),.i 0,.b (gB r0 1),.i (gI r0 2),.r (gR r0 3),.b (gB r0 4),.i (gI r0 5),.r (gR r0 6)];qOH r1 (qOJ [.b (gB r1 0),.i (gI r1 1),.r (gR r1 2),.b (gB r1 3),.i (gI r1 4),.r (gR r1 5)])) (let r1:=qR [.i (-1),.i 0,.b (gB r0 4),.i (gI r0 5),.r (gR r0 6),.b (gB r0 1),.i (gI r0 2),.r (gR r0 3)];qOH r1 (qOJ [.b (gB r1 0),.i (gI r1 1),.r (gR r1 2),.b (gB r0 4),.i (gI r0 5),.r (gR r0 6)]))))):=by kernel_rfl
theorem qeW:q7z [.r a0,.i c1,.i c2,.b d3,.i c4,.r a5]=(.br (ilt c2 c1) (qOI (inb c2 (qg a0)) (let r0:=ww [.s (cS a0 c2 0)];qOH r0 (let r1:=wW [.b d3,.i c4,.r a5,.b (gB r0 0),.i (gI r0 1),.r (gR r0 2)];qOH r1 (qOJ [.r a0,.i c1,.i (qo .i64 c2 1),.b (gB r1 0),.i (gI r1 1),.r (gR r1 2)])))) (.leaf (1,[.b d3,.i c4,.r a5]))):=by kernel_rfl
theorem qAF:qcC [.r a0]=(let r0:=qf q7z [.r a0,.i (qg a0),.i 0,.b false,.i 0,.r (q4e 232 [.i 0])];qOH r0 (let r1:=wg [.b (gB r0 0),.i (gI r0 1),.r (gR r0 2)];qOH r1 (qOJ [.s (gS r1 0),.i (gI r1 1)]))):=by kernel_rfl
theorem qB2:q2H [.s e0,.s e1]=(let r0:=we [.r [[.s e0],[.s e1]]];qOH r0 (.br (ine (gI r0 0) 0) (qOJ [.s [],.i (gI r0 0)]) (let r1:=yw [.s e0,.s e1];qOH r1 (.br (gB r1 2) (let r2:=kT [.i (qo .i64 (gI r1 0) (gI r1 1))];qOH r2 (qOJ [.s (gS r2 0),.i (gI r2 1)])) (let r2:=qcC [.r [[.s e0],[.s e1]]];qOH r2 (qOJ [.s (gS r2 0),.i (gI r2 1)])))))):=by kernel_rfl
theorem qz8:yH [.s e0]=(.br (seq e0 [48]) (qOJ [.i 0]) (qOI (inb 0 (qv e0)) (.br (ieq (sat e0 0) 45) (qOJ [.i (-1)]) (qOJ [.i 1])))):=by kernel_rfl
theorem qrj:q1N [.s e0]=(let r0:=yH [.s e0];qOH r0 (.br (ieq (gI r0 0) 0) (qOJ [.s e0]) (.br (ieq (gI r0 0) 1) (qOI (ile ((qv [45])+(qv e0)) 140737488355328) (qOJ [.s (qgU [45] e0)])) (qOI (q7O (qv e0) (qv e0)) (qOI (q7O 1 (qv e0)) (qOJ [.s (qfh e0 1 (qv e0))])))))):=by kernel_rfl
theorem qA0:q8m [.s e0,.s e1]=(let r0:=we [.r [[.s e0],[.s e1]]];qOH r0 (.br (ine (gI r0 0) 0) (qOJ [.s [],.i (gI r0 0)]) (let r1:=q1N [.s e1];qOH r1 (let r2:=q2H [.s e0,.s (gS r1 0)];qOH r2 (qOJ [.s (gS r2 0),.i (gI r2 1)]))))):=by kernel_rfl
theorem qdD:wK [.s e0,.s e1,.i c2]=(.br (ine c2 0) (qOJ [.s [48],.i c2]) (let r0:=q8m [.s e0,.s e1];qOH r0 (.br (ine (gI r0 1) 0) (qOJ [.s [48],.i (gI r0 1)]) (qOJ [.s (gS r0 0),.i (gI r0 1)])))):=by kernel_rfl
theorem qrh:j0 [.s e0,.s e1,.i c2]=(let r0:=wK [.s e0,.s e1,.i c2];qOH r0 (qOJ [.s (gS r0 0),.i (gI r0 1)])):=by kernel_rfl
theorem qwt:q3Y [.s e0,.s e1,.s e2,.s e3,.i c4]=(let r0:=qt [.r [[.s e0],[.s e3]],.i c4];qOH r0 (let r1:=qt [.r [[.s e2],[.s e1]],.i (gI r0 1)];qOH r1 (let r2:=j0 [.s (gS r0 0),.s (gS r1 0),.i (gI r1 1)];qOH r2 (let r3:=qt [.r [[.s e1],[.s e3]],.i (gI r2 1)];qOH r3 (qOJ [.s (gS r2 0),.s (gS r3 0),.i (gI r3 1)]))))):=by kernel_rfl
theorem qdq:zZ [.s e0,.s e1]=(let r0:=vh [.s e0,.s e1];qOH r0 (.br (ile 0 (gI r0 0)) (qOI (q7O (gI r0 0) (qv e0)) (qOI (q7O 0 (gI r0 0)) (qOI (q7O (qv e0) (qv e0)) (qOI (q7O (qo .i64 (gI r0 0) (qv e1)) (qv e0)) (qOJ [.s (qfh e0 0 (gI r0 0)),.s (qfh e0 (qo .i64 (gI r0 0) (qv e1)) (qv e0)),.b true]))))) (qOJ [.s e0,.s [],.b false]))):=by kernel_rfl
theorem qwf:q6P [.s e0,.s e1]=(let r0:=zZ [.s e0,.s e1];qOH r0 (qOJ [.s (gS r0 0),.s (gS r0 1),.b (gB r0 2)])):=by kernel_rfl
theorem qAM:qV [.s e0]=(let r0:=q6P [.s e0,.s [47]];qOH r0 (.br (not (gB r0 2)) (qOJ [.s (gS r0 0),.s [49],.b (gB r0 2)]) (qOJ [.s (gS r0 0),.s (gS r0 1),.b (gB r0 2)]))):=by kernel_rfl
theorem qwK:q6t [.s e0,.s e1]=(.br (ine (qv e0) (qv e1)) (.br (ilt (qv e0) (qv e1)) (qOJ [.i (-1)]) (qOJ [.i 1])) (let r0:=q3u [.s e0,.s e1];qOH r0 (qOJ [.i (gI r0 0)]))):=by kernel_rfl
theorem qst:u6 [.s e0,.s e1]=(let r0:=we [.r [[.s e0],[.s e1]]];qOH r0 (.br (ine (gI r0 0) 0) (qOJ [.i 0,.i (gI r0 0)]) (let r1:=yH [.s e0];qOH r1 (let r2:=yH [.s e1];qOH r2 (.br (ilt (gI r1 0) (gI r2 0)) (qOJ [.i (-1),.i 0]) (qOH r2 (.br (ilt (gI r2 0) (gI r1 0)) (qOJ [.i 1,.i 0]) (let r3:=qX [.s e0,.s [45]];qOH r3 (let r4:=qX [.s e1,.s [45]];qOH r4 (let r5:=q6t [.s (gS r3 0),.s (gS r4 0)];qOH r5 (qOJ [.i (wd .i64 (gI r1 0) (gI r5 0)),.i 0]))))))))))):=by kernel_rfl
theorem qr1:q1z [.b d0,.i c1,.r a2,.b d3,.i c4,.r a5]=(let i0:Int:=(wo .i64 c4 1);let b0:Bool:=(ilt i0 0);let b1:Bool:=(ilt 1 c4);let p0:List PV:=[.b d0,.i c1,.r a2,.b d3,.i c4,.r a5];let t0:TR:=(qOJ ((.i 1)::p0));let b2:Bool:=(ile c4 i0);let b3:Bool:=(inb i0 232);let i1:Int:=(cI a5 i0 0);let i2:Int:=(qo .i64 i1 1);let b4:Bool:=(ine i2 0);let b5:Bool:=(ine i1 0);let t1:TR:=(.br b0 (qOI b1 t0) (.br b2 (qOI b1 t0) (qOI b3 (qOI b3 (.br b1 (qOI b4 (.br (ilt 0 (qev .i64 0 i2)) (qOJ ((.i (qo8 (qev .i64 0 i2) 999999999))::p0)) t0)) (qOI b5 (.br (ilt 0 (qev .i64 0 i1)) (qOJ ((.i (qo8 (qev .i64 0 i1) 999999999))::p0)) t0)))))));let i3:Int:=(qo .i64 0 (cI a2 i0 0));let t2:TR:=(qOI b1 (.br (ilt 0 (qev .i64 i3 1)) (qOJ ((.i (qo8 (qev .i64 i3 1) 999999999))::p0)) t0));let t3:TR:=(.br b0 t1 (.br (ile c1 i0) t1 (qOI b3 (qOI b3 (.br b0 t2 (.br b2 t2 (qOI b3 (qOI b3 (.br b1 (qOI b4 (.br (ilt 0 (qev .i64 i3 i2)) (qOJ ((.i (qo8 (qev .i64 i3 i2) 999999999))::p0)) t0)) (qOI b5 (.br (ilt 0 (qev .i64 i3 i1)) (qOJ ((.i (qo8 (qev .i64 i3 i1) 999999999))::p0)) t0)))))))))));let i4:Int:=(wd .i64 (cI a2 c4 0) 1000000000);let i5:Int:=(qo .i64 i4 0);let t4:TR:=(qOI b1 (.br (ilt 0 (qev .i64 i5 1)) (qOJ ((.i (qo8 (qev .i64 i5 1) 999999999))::p0)) t0));let t5:TR:=(.br b0 t4 (.br b2 t4 (qOI b3 (qOI b3 (.br b1 (qOI b4 (.br (ilt 0 (qev .i64 i5 i2)) (qOJ ((.i (qo8 (qev .i64 i5 i2) 999999999))::p0)) t0)) (qOI b5 (.br (ilt 0 (qev .i64 i5 i1)) (qOJ ((.i (qo8 (qev .i64 i5 i1) 999999999))::p0)) t0)))))));let i6:Int:=(qo .i64 i4 (cI a2 i0 0));let t6:TR:=(qOI b1 (.br (ilt 0 (qev .i64 i6 1)) (qOJ ((.i (qo8 (qev .i64 i6 1) 999999999))::p0)) t0));(.br (ilt c4 0) t3 (.br (ile c1 c4) t3 (qOI (inb c4 232) (qOI (inb c4 232) (.br b0 t5 (.br (ile c1 i0) t5 (qOI b3 (qOI b3 (.br b0 t6 (.br b2 t6 (qOI b3 (qOI b3 (.br b1 (qOI b4 (.br (ilt 0 (qev .i64 i6 i2)) (qOJ ((.i (qo8 (qev .i64 i6 i2) 999999999))::p0)) t0)) (qOI b5 (.br (ilt 0 (qev .i64 i6 i1)) (qOJ ((.i (qo8 (qev .i64 i6 i1) 999999999))::p0)) t0)))))))))))))))):=by kernel_rfl
theorem qnO:jI [.i c0,.i c1,.b d2,.i c3,.r a4,.b d5,.i c6,.r a7,.b d8,.i c9,.r a10,.b d11,.i c12,.r a13]=(let r0:=wR [.b d11,.i c12,.r a13,.b d5,.i c6,.r a7];qOH r0 (.br (ile 0 (gI r0 0)) (let r1:=q1z [.b (gB r0 1),.i (gI r0 2),.r (gR r0 3),.b (gB r0 4),.i (gI r0 5),.r (gR r0 6)];qOH r1 (let r2:=qR [.i (wo .i64 0 (gI r1 0)),.i 0,.b (gB r1 1),.i (gI r1 2),.r (gR r1 3),.b (gB r1 4),.i (gI r1 5),.r (gR r1 6)];qOH r2 (qOJ [.i c0,.i (qo .i64 c1 (gI r1 0)),.b d2,.i c3,.r a4,.b (gB r2 3),.i (gI r2 4),.r (gR r2 5),.b d8,.i c9,.r a10,.b (gB r2 0),.i (gI r2 1),.r (gR r2 2)]))) (.leaf (1,[.i c0,.i c1,.b d2,.i c3,.r a4,.b (gB r0 4),.i (gI r0 5),.r (gR r0 6),.b d8,.i c9,.r a10,.b (gB r0 1),.i (gI r0 2),.r (gR r0 3)])))):=by kernel_rfl
theorem qq8:q0A [.i c0,.b d1,.i c2,.r a3,.b d4,.i c5,.r a6,.b d7,.i c8,.r a9,.b d10,.i c11,.r a12]=(.br (ile 0 c0) (qOI (q7O 232 232) (qOI (q7O 1 232) (qOI (q7O c11 232) (qOI (q7O 0 c11) (qOI (inb c0 232) (qOI (inb c0 232) (let r0:=qO [.b d10,.i (qo .i64 c11 1),.r (qcN (qpL a12 1 a12 0 (qo8 (qC0 c11 0) (qC0 232 1))) 0 0 [.i (cI a3 c0 0)])];qOH r0 (let r1:=qf jI [.i c0,.i 0,.b d1,.i c2,.r a3,.b d4,.i c5,.r a6,.b d7,.i c8,.r a9,.b (gB r0 0),.i (gI r0 1),.r (gR r0 2)];qOH r1 (qOI (inb (gI r1 0) 232) (qOI (inb (gI r1 0) 232) (qOJ [.i (wo .i64 (gI r1 0) 1),.b (gB r1 2),.i (gI r1 3),.r (gR r1 4),.b (gB r1 5),.i (gI r1 6),.r (gR r1 7),.b (gB r1 8),.i (qzG (gI r1 9) (qo .i64 (gI r1 0) 1)),.r (qcN (gR r1 10) (gI r1 0) 0 [.i (gI r1 1)]),.b (gB r1 11),.i (gI r1 12),.r (gR r1 13)]))))))))))) (.leaf (1,[.b d1,.i c2,.r a3,.b d4,.i c5,.r a6,.b d7,.i c8,.r a9,.b d10,.i c11,.r a12]))):=by kernel_rfl
theorem qsE:ui [.b d0,.i c1,.r a2,.b d3,.i c4,.r a5]=(let r0:=qf q0A [.i (wo .i64 c1 1),.b d0,.i c1,.r a2,.b d3,.i c4,.r a5,.b false,.i 0,.r (q4e 232 [.i 0]),.b false,.i 0,.r (q4e 232 [.i 0])];qOH r0 (let r1:=qO [.b (gB r0 6),.i (gI r0 7),.r (gR r0 8)];qOH r1 (qOJ [.b (gB r0 0),.i (gI r0 1),.r (gR r0 2),.b (gB r0 3),.i (gI r0 4),.r (gR r0 5),.b (gB r1 0),.i (gI r1 1),.r (gR r1 2),.b (gB r0 9),.i (gI r0 10),.r (gR r0 11)]))):=by kernel_rfl
theorem qvF:q1S [.i c0,.i c1]=(.br (ine c1 0) (qOI (ine c1 0) (qOJ [.i c1,.i (qdN c0 c1)])) (.leaf (1,[.i c0]))):=by kernel_rfl
theorem qwW:q6l [.b d0,.i c1,.r a2,.b d3,.i c4,.r a5]=(let t0:=qf q1S [.i (cI a2 0 0),.i (cI a5 0 0)];let t1:=wB [.i (gI t0 0)];let t2:=ui [.b d0,.i c1,.r a2,.b d3,.i c4,.r a5];let t3:TR:=(qOH t2 (qOJ [.b (gB t2 3),.i (gI t2 4),.r (gR t2 5),.b (gB t2 9),.i (gI t2 10),.r (gR t2 11)]));(.br (ilt 0 c4) (.br (ile c1 1) (.br (ile c4 1) (qOH t0 (qOH t1 (.leaf (2,[.s (gS t1 0),.i 0])))) t3) t3) (.leaf (1,[.b d0,.i c1,.r a2])))):=by kernel_rfl
theorem qzJ:q2U [.s e0,.s e1]=(let r0:=we [.r [[.s e0],[.s e1]]];qOH r0 (.br (ine (gI r0 0) 0) (qOJ [.s [],.i (gI r0 0)]) (let r1:=ww [.s e0];qOH r1 (let r2:=ww [.s e1];qOH r2 (let r3:=qf q6l [.b (gB r1 0),.i (gI r1 1),.r (gR r1 2),.b (gB r2 0),.i (gI r2 1),.r (gR r2 2)];qOH r3 (.br (jIs r3 0) (let r4:=zd [.b false,.i (gI r3 1),.r (gR r3 2)];qOH r4 (qOJ [.s (gS r4 0),.i 0])) (qOJ [.s (gS r3 0),.i (gI r3 1)]))))))):=by kernel_rfl
theorem qvL:zu [.s e0]=(let t0:=qV [.s e0];let t1:=qW [.s (gS t0 0)];let p0:List PV:=[.s (gS t0 1)];let t2:TR:=(qOJ [.i 3]);let i0:Int:=(gI (qW p0) 0);let t3:TR:=(qOJ [.i (qzG (gI t1 0) i0)]);let t4:TR:=(qOJ [.i 0]);let t5:=u6 [.s (gS t0 1),.s [49]];let t6:=q2U ((.s (gS t0 0))::p0);(qOH t0 (qOH t1 (qOH (qW p0) (.br (ieq (gI t1 0) 3) t2 (.br (ieq i0 3) t2 (.br (ine (gI t1 0) 0) t3 (.br (ine i0 0) t3 (.br (not (gB t0 2)) t4 (qOH t5 (qOH t6 (.br (ine (gI t5 1) 0) t2 (.br (ine (gI t6 1) 0) t2 (.br (ile (gI t5 0) 0) t2 (.br (not (seq (gS t6 0) [49])) t2 t4))))))))))))))):=by kernel_rfl
theorem qgK:q1E [.r a0,.i c1,.i c2]=(.br (ilt c2 c1) (qOI (inb c2 (qg a0)) (let r0:=zu [.s (cS a0 c2 0)];qOH r0 (.br (ine (gI r0 0) 0) (.leaf (2,[.i (gI r0 0)])) (qOJ [.r a0,.i c1,.i (qo .i64 c2 1)])))) (.leaf (1,[]))):=by kernel_rfl
theorem qu9:qC [.r a0]=(let r0:=qf q1E [.r a0,.i (qg a0),.i 0];qOH r0 (.br (jIs r0 0) (qOJ [.i 0]) (qOJ [.i (gI r0 0)]))):=by kernel_rfl
theorem qlA:ue [.s e0,.s e1]=(let r0:=qE [.s e0,.s e1];qOH r0 (qOJ [.b (gB r0 0)])):=by kernel_rfl
theorem qvz:q1V [.s e0,.s e1]=(.br (seq e1 [49]) (qOJ [.s e0]) (qOI (ile ((qv e0)+(qv [47])) 140737488355328) (qOI (ile ((qv (qgU e0 [47]))+(qv e1)) 140737488355328) (qOJ [.s (qgU (qgU e0 [47]) e1)])))):=by kernel_rfl
theorem qtn:q4I [.s e0,.s e1]=(let t0:=we [.r [[.s e0],[.s e1]]];let t1:=yw [.s e0,.s e1];let i0:Int:=(gI t1 1);let i1:Int:=(qdN (gI t1 0) i0);let i2:Int:=(qev .i64 (gI t1 0) i0);let t2:=wB [.i (wo .i64 i2 1)];let t3:=wB [.i (qo .i64 i1 i0)];let t4:TR:=(qOH (wB [.i i2]) (qOH (wB [.i i1]) (qOJ [.s (gS (wB [.i i2]) 0),.s (gS (wB [.i i1]) 0),.i 0])));let t5:=ww [.s e0];let t6:=ww [.s e1];let t7:=ui [.b (gB t5 0),.i (gI t5 1),.r (gR t5 2),.b (gB t6 0),.i (gI t6 1),.r (gR t6 2)];let b0:Bool:=(not (beq (gB t7 0) (gB t7 3)));let t8:=wW [.b true,.i (gI t7 7),.r (gR t7 8),.b true,.i 1,.r (qcN (q4e 232 [.i 0]) 0 0 [.i 1])];let t9:=wW [.b (gB t7 0),.i (gI t7 10),.r (gR t7 11),.b (gB t7 3),.i (gI t7 4),.r (gR t7 5)];let t10:=zd [.b (gB t8 0),.i (gI t8 1),.r (gR t8 2)];let t11:=zd [.b (gB t9 0),.i (gI t9 1),.r (gR t9 2)];let t12:=zd [.b b0,.i (gI t7 7),.r (gR t7 8)];let t13:=zd [.b (gB t7 0),.i (gI t7 10),.r (gR t7 11)];let t14:TR:=(qOH t12 (qOH t13 (qOJ [.s (gS t12 0),.s (gS t13 0),.i 0])));(qOH t0 (.br (ine (gI t0 0) 0) (qOJ [.s [],.s [],.i (gI t0 0)]) (.br (seq e1 [48]) (qOJ [.s [],.s [],.i 10]) (qOH t1 (.br (gB t1 2) (qOI (ine i0 0) (qOI (ine i0 0) (.br (ine i1 0) (.br (not (beq (ilt i1 0) (ilt i0 0))) (qOH t2 (qOH t3 (qOJ [.s (gS t2 0),.s (gS t3 0),.i 0]))) t4) t4))) (qOH t5 (qOH t6 (qOH t7 (.br (ilt 0 (gI t7 10)) (.br b0 (qOH t8 (qOH t9 (qOH t10 (qOH t11 (qOJ [.s (gS t10 0),.s (gS t11 0),.i 0]))))) t14) t14)))))))))):=by kernel_rfl
theorem qAZ:q83 [.s e0,.s e1]=(let r0:=q4I [.s e0,.s e1];qOH r0 (.br (ine (gI r0 2) 0) (qOJ [.s [],.i (gI r0 2)]) (let r1:=qW [.s (gS r0 0)];qOH r1 (.br (ine (gI r1 0) 0) (qOJ [.s [],.i (gI r1 0)]) (qOJ [.s (gS r0 0),.i 0]))))):=by kernel_rfl
theorem qdH:wL [.s e0,.s e1,.i c2]=(.br (ine c2 0) (qOJ [.s [48],.i c2]) (let r0:=q2U [.s e0,.s e1];qOH r0 (.br (ine (gI r0 1) 0) (qOJ [.s [48],.i (gI r0 1)]) (qOJ [.s (gS r0 0),.i (gI r0 1)])))):=by kernel_rfl
theorem qdM:qP [.s e0,.s e1,.i c2]=(.br (ine c2 0) (qOJ [.s [48],.i c2]) (let r0:=q83 [.s e0,.s e1];qOH r0 (.br (ine (gI r0 1) 0) (qOJ [.s [48],.i (gI r0 1)]) (qOJ [.s (gS r0 0),.i (gI r0 1)])))):=by kernel_rfl
theorem qlQ:qT [.s e0,.s e1,.i c2]=(let r0:=wL [.s e0,.s e1,.i c2];qOH r0 (let r1:=ue [.s e1,.s [45]];qOH r1 (.br (gB r1 0) (let r2:=j0 [.s [48],.s (gS r0 0),.i (gI r0 1)];qOH r2 (.br (ine (gI r2 1) 0) (qOJ [.s [],.i (gI r2 1)]) (let r3:=qP [.s e0,.s (gS r2 0),.i (gI r2 1)];qOH r3 (let r4:=qP [.s e1,.s (gS r2 0),.i (gI r3 1)];qOH r4 (let r5:=q1V [.s (gS r3 0),.s (gS r4 0)];qOH r5 (qOJ [.s (gS r5 0),.i (gI r4 1)])))))) (.br (ine (gI r0 1) 0) (qOJ [.s [],.i (gI r0 1)]) (let r2:=qP [.s e0,.s (gS r0 0),.i (gI r0 1)];qOH r2 (let r3:=qP [.s e1,.s (gS r0 0),.i (gI r2 1)];qOH r3 (let r4:=q1V [.s (gS r2 0),.s (gS r3 0)];qOH r4 (qOJ [.s (gS r4 0),.i (gI r3 1)])))))))):=by kernel_rfl
theorem qfE:ve [.s e0,.s e1]=(let r0:=qC [.r [[.s e0],[.s e1]]];qOH r0 (.br (ine (gI r0 0) 0) (qOJ [.s [],.i (gI r0 0)]) (let r1:=qV [.s e0];qOH r1 (let r2:=qV [.s e1];qOH r2 (let r3:=q3Y [.s (gS r1 0),.s (gS r1 1),.s (gS r2 0),.s (gS r2 1),.i 0];qOH r3 (.br (ine (gI r3 2) 0) (qOJ [.s [],.i (gI r3 2)]) (.br (seq (gS r3 1) [48]) (qOJ [.s [],.i 10]) (let r4:=qT [.s (gS r3 0),.s (gS r3 1),.i (gI r3 2)];qOH r4 (qOJ [.s (gS r4 0),.i (gI r4 1)]))))))))):=by kernel_rfl
theorem qzX:wk [.s e0,.s e1]=(let r0:=ve [.s e0,.s e1];qOH r0 (qOJ [.s (gS r0 0),.i (gI r0 1)])):=by kernel_rfl
theorem qj7:qD [.i c0,.i c1,.i c2]=(qOJ [.i c0,.i c1,.i c2]):=by kernel_rfl
theorem qiM:q0q [.i c0,.i c1,.i c2,.i c3,.i c4,.i c5,.i c6,.i c7,.i c8,.i c9,.i c10]=(let b0:Bool:=(ieq c1 2);let p0:List PV:=[.i (qo .i64 c1 1),.i c2,.i c3,.i c4,.i c5,.i c6,.i c7,.i c8,.i c9,.i c10];let i0:Int:=(wo .i64 c7 c4);let i1:Int:=(wo .i64 c10 c4);let b1:Bool:=(ieq c1 1);let i2:Int:=(wo .i64 c10 c3);let b2:Bool:=(ieq c1 0);let i3:Int:=(wo .i64 c10 c2);let i4:Int:=(wo .i64 c9 c4);let i5:Int:=(wo .i64 c9 c3);let i6:Int:=(wo .i64 c9 c2);let i7:Int:=(wo .i64 c8 c4);let i8:Int:=(wo .i64 c8 c3);let i9:Int:=(wo .i64 c8 c2);let i10:Int:=(wo .i64 c7 c3);let i11:Int:=(wo .i64 c7 c2);let i12:Int:=(wo .i64 c6 c4);let i13:Int:=(wo .i64 c6 c3);let i14:Int:=(wo .i64 c6 c2);let i15:Int:=(wo .i64 c5 c4);let i16:Int:=(wo .i64 c5 c3);let i17:Int:=(wo .i64 c5 c2);(.br (ilt c1 3) (.br b0 (.br b0 (.br b0 (.br b0 (qOJ ((.i (qo .i64 c0 (wd .i64 i0 i1)))::p0)) (.br b1 (qOJ ((.i (qo .i64 c0 (wd .i64 i0 i2)))::p0)) (qOI b2 (qOJ ((.i (qo .i64 c0 (wd .i64 i0 i3)))::p0))))) (.br b1 (.br b0 (qOJ ((.i (qo .i64 c0 (wd .i64 i0 i4)))::p0)) (.br b1 (qOJ ((.i (qo .i64 c0 (wd .i64 i0 i5)))::p0)) (qOI b2 (qOJ ((.i (qo .i64 c0 (wd .i64 i0 i6)))::p0))))) (qOI b2 (.br b0 (qOJ ((.i (qo .i64 c0 (wd .i64 i0 i7)))::p0)) (.br b1 (qOJ ((.i (qo .i64 c0 (wd .i64 i0 i8)))::p0)) (qOI b2 (qOJ ((.i (qo .i64 c0 (wd .i64 i0 i9)))::p0)))))))) (.br b1 (.br b0 (.br b0 (qOJ ((.i (qo .i64 c0 (wd .i64 i10 i1)))::p0)) (.br b1 (qOJ ((.i (qo .i64 c0 (wd .i64 i10 i2)))::p0)) (qOI b2 (qOJ ((.i (qo .i64 c0 (wd .i64 i10 i3)))::p0))))) (.br b1 (.br b0 (qOJ ((.i (qo .i64 c0 (wd .i64 i10 i4)))::p0)) (.br b1 (qOJ ((.i (qo .i64 c0 (wd .i64 i10 i5)))::p0)) (qOI b2 (qOJ ((.i (qo .i64 c0 (wd .i64 i10 i6)))::p0))))) (qOI b2 (.br b0 (qOJ ((.i (qo .i64 c0 (wd .i64 i10 i7)))::p0)) (.br b1 (qOJ ((.i (qo .i64 c0 (wd .i64 i10 i8)))::p0)) (qOI b2 (qOJ ((.i (qo .i64 c0 (wd .i64 i10 i9)))::p0)))))))) (qOI b2 (.br b0 (.br b0 (qOJ ((.i (qo .i64 c0 (wd .i64 i11 i1)))::p0)) (.br b1 (qOJ ((.i (qo .i64 c0 (wd .i64 i11 i2)))::p0)) (qOI b2 (qOJ ((.i (qo .i64 c0 (wd .i64 i11 i3)))::p0))))) (.br b1 (.br b0 (qOJ ((.i (qo .i64 c0 (wd .i64 i11 i4)))::p0)) (.br b1 (qOJ ((.i (qo .i64 c0 (wd .i64 i11 i5)))::p0)) (qOI b2 (qOJ ((.i (qo .i64 c0 (wd .i64 i11 i6)))::p0))))) (qOI b2 (.br b0 (qOJ ((.i (qo .i64 c0 (wd .i64 i11 i7)))::p0)) (.br b1 (qOJ ((.i (qo .i64 c0 (wd .i64 i11 i8)))::p0)) (qOI b2 (qOJ ((.i (qo .i64 c0 (wd .i64 i11 i9)))::p0))))))))))) (.br b1 (.br b0 (.br b0 (.br b0 (qOJ ((.i (qo .i64 c0 (wd .i64 i12 i1)))::p0)) (.br b1 (qOJ ((.i (qo .i64 c0 (wd .i64 i12 i2)))::p0)) (qOI b2 (qOJ ((.i (qo .i64 c0 (wd .i64 i12 i3)))::p0))))) (.br b1 (.br b0 (qOJ ((.i (qo .i64 c0 (wd .i64 i12 i4)))::p0)) (.br b1 (qOJ ((.i (qo .i64 c0 (wd .i64 i12 i5)))::p0)) (qOI b2 (qOJ ((.i (qo .i64 c0 (wd .i64 i12 i6)))::p0))))) (qOI b2 (.br b0 (qOJ ((.i (qo .i64 c0 (wd .i64 i12 i7)))::p0)) (.br b1 (qOJ ((.i (qo .i64 c0 (wd .i64 i12 i8)))::p0)) (qOI b2 (qOJ ((.i (qo .i64 c0 (wd .i64 i12 i9)))::p0)))))))) (.br b1 (.br b0 (.br b0 (qOJ ((.i (qo .i64 c0 (wd .i64 i13 i1)))::p0)) (.br b1 (qOJ ((.i (qo .i64 c0 (wd .i64 i13 i2)))::p0)) (qOI b2 (qOJ ((.i (qo .i64 c0 (wd .i64 i13 i3)))::p0))))) (.br b1 (.br b0 (qOJ ((.i (qo .i64 c0 (wd .i64 i13 i4)))::p0)) (.br b1 (qOJ ((.i (qo .i64 c0 (wd .i64 i13 i5)))::p0)) (qOI b2 (qOJ ((.i (qo .i64 c0 (wd .i64 i13 i6)))::p0))))) (qOI b2 (.br b0 (qOJ ((.i (qo .i64 c0 (wd .i64 i13 i7)))::p0)) (.br b1 (qOJ ((.i (qo .i64 c0 (wd .i64 i13 i8)))::p0)) (qOI b2 (qOJ ((.i (qo .i64 c0 (wd .i64 i13 i9)))::p0)))))))) (qOI b2 (.br b0 (.br b0 (qOJ ((.i (qo .i64 c0 (wd .i64 i14 i1)))::p0)) (.br b1 (qOJ ((.i (qo .i64 c0 (wd .i64 i14 i2)))::p0)) (qOI b2 (qOJ ((.i (qo .i64 c0 (wd .i64 i14 i3)))::p0))))) (.br b1 (.br b0 (qOJ ((.i (qo .i64 c0 (wd .i64 i14 i4)))::p0)) (.br b1 (qOJ ((.i (qo .i64 c0 (wd .i64 i14 i5)))::p0)) (qOI b2 (qOJ ((.i (qo .i64 c0 (wd .i64 i14 i6)))::p0))))) (qOI b2 (.br b0 (qOJ ((.i (qo .i64 c0 (wd .i64 i14 i7)))::p0)) (.br b1 (qOJ ((.i (qo .i64 c0 (wd .i64 i14 i8)))::p0)) (qOI b2 (qOJ ((.i (qo .i64 c0 (wd .i64 i14 i9)))::p0))))))))))) (qOI b2 (.br b0 (.br b0 (.br b0 (qOJ ((.i (qo .i64 c0 (wd .i64 i15 i1)))::p0)) (.br b1 (qOJ ((.i (qo .i64 c0 (wd .i64 i15 i2)))::p0)) (qOI b2 (qOJ ((.i (qo .i64 c0 (wd .i64 i15 i3)))::p0))))) (.br b1 (.br b0 (qOJ ((.i (qo .i64 c0 (wd .i64 i15 i4)))::p0)) (.br b1 (qOJ ((.i (qo .i64 c0 (wd .i64 i15 i5)))::p0)) (qOI b2 (qOJ ((.i (qo .i64 c0 (wd .i64 i15 i6)))::p0))))) (qOI b2 (.br b0 (qOJ ((.i (qo .i64 c0 (wd .i64 i15 i7)))::p0)) (.br b1 (qOJ ((.i (qo .i64 c0 (wd .i64 i15 i8)))::p0)) (qOI b2 (qOJ ((.i (qo .i64 c0 (wd .i64 i15 i9)))::p0)))))))) (.br b1 (.br b0 (.br b0 (qOJ ((.i (qo .i64 c0 (wd .i64 i16 i1)))::p0)) (.br b1 (qOJ ((.i (qo .i64 c0 (wd .i64 i16 i2)))::p0)) (qOI b2 (qOJ ((.i (qo .i64 c0 (wd .i64 i16 i3)))::p0))))) (.br b1 (.br b0 (qOJ ((.i (qo .i64 c0 (wd .i64 i16 i4)))::p0)) (.br b1 (qOJ ((.i (qo .i64 c0 (wd .i64 i16 i5)))::p0)) (qOI b2 (qOJ ((.i (qo .i64 c0 (wd .i64 i16 i6)))::p0))))) (qOI b2 (.br b0 (qOJ ((.i (qo .i64 c0 (wd .i64 i16 i7)))::p0)) (.br b1 (qOJ ((.i (qo .i64 c0 (wd .i64 i16 i8)))::p0)) (qOI b2 (qOJ ((.i (qo .i64 c0 (wd .i64 i16 i9)))::p0)))))))) (qOI b2 (.br b0 (.br b0 (qOJ ((.i (qo .i64 c0 (wd .i64 i17 i1)))::p0)) (.br b1 (qOJ ((.i (qo .i64 c0 (wd .i64 i17 i2)))::p0)) (qOI b2 (qOJ ((.i (qo .i64 c0 (wd .i64 i17 i3)))::p0))))) (.br b1 (.br b0 (qOJ ((.i (qo .i64 c0 (wd .i64 i17 i4)))::p0)) (.br b1 (qOJ ((.i (qo .i64 c0 (wd .i64 i17 i5)))::p0)) (qOI b2 (qOJ ((.i (qo .i64 c0 (wd .i64 i17 i6)))::p0))))) (qOI b2 (.br b0 (qOJ ((.i (qo .i64 c0 (wd .i64 i17 i7)))::p0)) (.br b1 (qOJ ((.i (qo .i64 c0 (wd .i64 i17 i8)))::p0)) (qOI b2 (qOJ ((.i (qo .i64 c0 (wd .i64 i17 i9)))::p0)))))))))))))) (.leaf (1,[.i c0])))):=by kernel_rfl
theorem qvI:q13 [.i c0,.i c1,.i c2,.i c3,.i c4,.i c5,.i c6,.i c7,.i c8]=(let r0:=qD [.i c0,.i c1,.i c2];qOH r0 (let r1:=qD [.i c3,.i c4,.i c5];qOH r1 (let r2:=qD [.i c6,.i c7,.i c8];qOH r2 (let r3:=qf q0q [.i 0,.i 0,.i (gI r0 0),.i (gI r0 1),.i (gI r0 2),.i (gI r1 0),.i (gI r1 1),.i (gI r1 2),.i (gI r2 0),.i (gI r2 1),.i (gI r2 2)];qOH r3 (qOJ [.i (gI r3 0)]))))):=by kernel_rfl
theorem qwI:vP [.i c0]=(.br (ile 0 c0) (qOJ [.b (ile c0 16)]) (qOJ [.b false])):=by kernel_rfl
theorem qwG:kB [.i c0,.i c1,.r a2,.i c3]=(qOI (inb (qo .i64 (wd .i64 c0 c3) c1) (qg a2)) (let r0:=wN [.i (cI a2 (qo .i64 (wd .i64 c0 c3) c1) 0)];qOH r0 (qOJ [.s (gS r0 0),.r a2,.i c3]))):=by kernel_rfl
theorem qg2:uV [.i c0,.i c1,.i c2,.i c3,.i c4,.i c5,.r a6,.i c7,.i c8,.i c9,.i c10,.i c11,.r a12]=(.br (ilt c5 c4) (let r0:=kB [.i c1,.i c5,.r a6,.i c7];qOH r0 (qOI (ile ((qg a12)+(qg [[.s (gS r0 0)]])) 8796093022208) (qOJ [.i c0,.i c1,.i c2,.i c3,.i c4,.i (qo .i64 c5 1),.r (gR r0 1),.i (gI r0 2),.i c8,.i c9,.i c10,.i c11,.r (zE a12 [[.s (gS r0 0)]])]))) (.leaf (1,[.i c0,.i c2,.i c3,.r a6,.i c7,.i c8,.i c9,.i c10,.i c11,.r a12]))):=by kernel_rfl
theorem qiw:q0k [.i c0,.i c1,.i c2,.r a3,.i c4,.i c5,.i c6,.i c7,.i c8,.r a9]=(.br (ilt c2 c1) (let r0:=qf uV [.i c0,.i c2,.i c1,.i c2,.i c0,.i 0,.r a3,.i c4,.i c5,.i c6,.i c7,.i c8,.r a9];qOH r0 (qOJ [.i (gI r0 0),.i (gI r0 1),.i (qo .i64 (gI r0 2) 1),.r (gR r0 3),.i (gI r0 4),.i (gI r0 5),.i (gI r0 6),.i (gI r0 7),.i (gI r0 8),.r (gR r0 9)])) (.leaf (1,[.r a3,.i c4,.i c5,.i c6,.i c7,.i c8,.r a9]))):=by kernel_rfl
theorem qw0:q6E [.i c0,.i c1,.r a2,.i c3]=(let r0:=qf q0k [.i c1,.i c0,.i 0,.r a2,.i c3,.i 0,.i 0,.i c0,.i c1,.r []];qOH r0 (qOJ [.i (gI r0 4),.i (gI r0 5),.r (gR r0 6),.r (gR r0 0),.i (gI r0 1)])):=by kernel_rfl
theorem qA9:qds [.i c0,.i c1,.r a2]=(let r0:=vP [.i c0];qOH r0 (.br (not (gB r0 0)) (qOJ [.i 0,.i 0,.r [],.i 2]) (let r1:=vP [.i c1];qOH r1 (.br (not (gB r1 0)) (qOJ [.i 0,.i 0,.r [],.i 2]) (.br (ine (qg a2) (wd .i64 c0 c1)) (qOJ [.i 0,.i 0,.r [],.i 8]) (let r2:=q6E [.i c0,.i c1,.r a2,.i c1];qOH r2 (qOJ [.i (gI r2 0),.i (gI r2 1),.r (gR r2 2),.i 0]))))))):=by kernel_rfl
theorem qd7:jG [.r a0,.i c1,.i c2]=(.br (ilt c2 c1) (qOI (inb c2 (qg a0)) (let r0:=zu [.s (cS a0 c2 0)];qOH r0 (.br (ine (gI r0 0) 0) (.leaf (2,[.i (gI r0 0)])) (qOJ [.r a0,.i c1,.i (qo .i64 c2 1)])))) (.leaf (1,[]))):=by kernel_rfl
theorem qr0:j4 [.r a0]=(let r0:=qf jG [.r a0,.i (qg a0),.i 0];qOH r0 (.br (jIs r0 0) (qOJ [.i 0]) (qOJ [.i (gI r0 0)]))):=by kernel_rfl
theorem qtN:jx [.i c0,.i c1,.r a2]=(qOH (vP [.i c0]) (.br (not (gB (vP [.i c0]) 0)) (qOJ [.i 2]) (qOH (vP [.i c1]) (.br (not (gB (vP [.i c1]) 0)) (qOJ [.i 2]) (.br (ine (qg a2) (wd .i64 c0 c1)) (qOJ [.i 8]) (qOH (j4 [.r a2]) (qOJ [.i (gI (j4 [.r a2]) 0)]))))))):=by kernel_rfl
theorem qwg:q3B [.s e0,.s e1,.s e2,.s e3,.i c4]=(let r0:=qt [.r [[.s e0],[.s e2]],.i c4];qOH r0 (let r1:=qt [.r [[.s e1],[.s e3]],.i (gI r0 1)];qOH r1 (qOJ [.s (gS r0 0),.s (gS r1 0),.i (gI r1 1)]))):=by kernel_rfl
theorem qeQ:vd [.s e0,.s e1]=(let r0:=qC [.r [[.s e0],[.s e1]]];qOH r0 (.br (ine (gI r0 0) 0) (qOJ [.s [],.i (gI r0 0)]) (let r1:=qV [.s e0];qOH r1 (let r2:=qV [.s e1];qOH r2 (let r3:=q3B [.s (gS r1 0),.s (gS r1 1),.s (gS r2 0),.s (gS r2 1),.i 0];qOH r3 (.br (ine (gI r3 2) 0) (qOJ [.s [],.i (gI r3 2)]) (.br (seq (gS r3 1) [48]) (qOJ [.s [],.i 10]) (let r4:=qT [.s (gS r3 0),.s (gS r3 1),.i (gI r3 2)];qOH r4 (qOJ [.s (gS r4 0),.i (gI r4 1)]))))))))):=by kernel_rfl
theorem qBq:vK [.s e0,.s e1]=(let r0:=vd [.s e0,.s e1];qOH r0 (qOJ [.s (gS r0 0),.i (gI r0 1)])):=by kernel_rfl
theorem qwA:q3H [.s e0,.s e1,.s e2,.s e3,.i c4]=(let r0:=qt [.r [[.s e0],[.s e3]],.i c4];qOH r0 (let r1:=qt [.r [[.s e1],[.s e2]],.i (gI r0 1)];qOH r1 (qOJ [.s (gS r0 0),.s (gS r1 0),.i (gI r1 1)]))):=by kernel_rfl
theorem qfa:wZ [.s e0,.s e1]=(let r0:=qC [.r [[.s e0],[.s e1]]];qOH r0 (.br (ine (gI r0 0) 0) (qOJ [.s [],.i (gI r0 0)]) (let r1:=qV [.s e0];qOH r1 (let r2:=qV [.s e1];qOH r2 (let r3:=q3H [.s (gS r1 0),.s (gS r1 1),.s (gS r2 0),.s (gS r2 1),.i 0];qOH r3 (.br (ine (gI r3 2) 0) (qOJ [.s [],.i (gI r3 2)]) (.br (seq (gS r3 1) [48]) (qOJ [.s [],.i 10]) (let r4:=qT [.s (gS r3 0),.s (gS r3 1),.i (gI r3 2)];qOH r4 (qOJ [.s (gS r4 0),.i (gI r4 1)]))))))))):=by kernel_rfl
theorem qAv:q5v [.s e0,.s e1]=(let r0:=qC [.r [[.s e0],[.s e1]]];qOH r0 (.br (ine (gI r0 0) 0) (qOJ [.s [],.i (gI r0 0)]) (.br (seq e1 [48]) (qOJ [.s [],.i 10]) (let r1:=wZ [.s e0,.s e1];qOH r1 (qOJ [.s (gS r1 0),.i (gI r1 1)]))))):=by kernel_rfl
theorem qdK:wF [.s e0,.s e1,.i c2]=(.br (ine c2 0) (qOJ [.s [48],.i c2]) (let r0:=q2H [.s e0,.s e1];qOH r0 (.br (ine (gI r0 1) 0) (qOJ [.s [48],.i (gI r0 1)]) (qOJ [.s (gS r0 0),.i (gI r0 1)])))):=by kernel_rfl
theorem qqz:q1I [.s e0,.s e1,.i c2]=(let r0:=wF [.s e0,.s e1,.i c2];qOH r0 (qOJ [.s (gS r0 0),.i (gI r0 1)])):=by kernel_rfl
theorem qwV:q3x [.s e0,.s e1,.s e2,.s e3,.i c4]=(let r0:=qt [.r [[.s e0],[.s e3]],.i c4];qOH r0 (let r1:=qt [.r [[.s e2],[.s e1]],.i (gI r0 1)];qOH r1 (let r2:=q1I [.s (gS r0 0),.s (gS r1 0),.i (gI r1 1)];qOH r2 (let r3:=qt [.r [[.s e1],[.s e3]],.i (gI r2 1)];qOH r3 (qOJ [.s (gS r2 0),.s (gS r3 0),.i (gI r3 1)]))))):=by kernel_rfl
theorem qeU:vb [.s e0,.s e1]=(let r0:=qC [.r [[.s e0],[.s e1]]];qOH r0 (.br (ine (gI r0 0) 0) (qOJ [.s [],.i (gI r0 0)]) (let r1:=qV [.s e0];qOH r1 (let r2:=qV [.s e1];qOH r2 (let r3:=q3x [.s (gS r1 0),.s (gS r1 1),.s (gS r2 0),.s (gS r2 1),.i 0];qOH r3 (.br (ine (gI r3 2) 0) (qOJ [.s [],.i (gI r3 2)]) (.br (seq (gS r3 1) [48]) (qOJ [.s [],.i 10]) (let r4:=qT [.s (gS r3 0),.s (gS r3 1),.i (gI r3 2)];qOH r4 (qOJ [.s (gS r4 0),.i (gI r4 1)]))))))))):=by kernel_rfl
theorem qAl:uh [.s e0,.s e1]=(let r0:=vb [.s e0,.s e1];qOH r0 (qOJ [.s (gS r0 0),.i (gI r0 1)])):=by kernel_rfl
theorem qlH:wS [.s e0,.i c1,.i c2]=(let t0:TR:=(.br (ine c2 0) (qOJ [.s [48],.i c2]) (qOJ [.s e0,.i c2]));(.br (ine c1 0) (.br (ieq c2 0) (.br (ine c1 0) (qOJ [.s [48],.i c1]) (qOJ [.s e0,.i c1])) t0) t0)):=by kernel_rfl
theorem qnS:kq [.s e0,.s e1,.i c2]=(let r0:=uh [.s e0,.s e1];qOH r0 (let r1:=wS [.s (gS r0 0),.i (gI r0 1),.i c2];qOH r1 (qOJ [.s (gS r1 0),.i (gI r1 1)]))):=by kernel_rfl
theorem qmW:kD [.s e0,.s e1,.i c2]=(let r0:=vK [.s e0,.s e1];qOH r0 (let r1:=wS [.s (gS r0 0),.i (gI r0 1),.i c2];qOH r1 (qOJ [.s (gS r1 0),.i (gI r1 1)]))):=by kernel_rfl
theorem quf:q4S [.i c0,.i c1,.r a2,.i c3,.i c4]=(qOI (inb (qo .i64 (wd .i64 c3 c1) c4) (qg a2)) (qOJ [.s (cS a2 (qo .i64 (wd .i64 c3 c1) c4) 0)])):=by kernel_rfl
theorem qdX:yV [.r a0,.i c1,.s e2,.i c3,.i c4,.r a5,.i c6,.i c7,.i c8,.i c9,.r a10,.i c11,.r a12]=(.br (ilt c7 c6) (qOI (inb c7 (qg a5)) (let r0:=q4S [.i c8,.i c9,.r a10,.i c1,.i c7];qOH r0 (let r1:=kD [.s (gS r0 0),.s (cS a5 c7 0),.i c11];qOH r1 (let r2:=kq [.s e2,.s (gS r1 0),.i (gI r1 1)];qOH r2 (qOJ [.r a0,.i c1,.s (gS r2 0),.i c3,.i c4,.r a5,.i c6,.i (qo .i64 c7 1),.i c8,.i c9,.r a10,.i (gI r2 1),.r a12]))))) (.leaf (1,[.r a0,.s e2,.i c3,.i c4,.i c8,.i c9,.r a10,.i c11,.r a12]))):=by kernel_rfl
theorem qew:yT [.r a0,.i c1,.i c2,.i c3,.i c4,.r a5,.i c6,.r a7]=(.br (ilt c2 c1) (let r0:=qf yV [.r a0,.i c2,.s [48],.i c1,.i c2,.r a0,.i (qg a0),.i 0,.i c3,.i c4,.r a5,.i c6,.r a7];qOH r0 (qOI (ile ((qg (gR r0 8))+(qg [[.s (gS r0 1)]])) 8796093022208) (qOJ [.r (gR r0 0),.i (gI r0 2),.i (qo .i64 (gI r0 3) 1),.i (gI r0 4),.i (gI r0 5),.r (gR r0 6),.i (gI r0 7),.r (zE (gR r0 8) [[.s (gS r0 1)]])]))) (.leaf (1,[.i c6,.r a7]))):=by kernel_rfl
theorem qv4:q4o [.i c0,.i c1,.r a2,.r a3]=(let r0:=jx [.i c0,.i c1,.r a2];qOH r0 (.br (ine (gI r0 0) 0) (qOJ [.r [],.i (gI r0 0)]) (.br (ine (qg a3) c1) (qOJ [.r [],.i 8]) (let r1:=j4 [.r a3];qOH r1 (.br (ine (gI r1 0) 0) (qOJ [.r [],.i (gI r1 0)]) (let r2:=qf yT [.r a3,.i c0,.i 0,.i c0,.i c1,.r a2,.i 0,.r []];qOH r2 (.br (ine (gI r2 0) 0) (qOJ [.r [],.i (gI r2 0)]) (qOJ [.r (gR r2 1),.i 0])))))))):=by kernel_rfl
theorem qko:q20 [.s e0,.r a1,.i c2,.i c3]=(.br (ilt c3 c2) (qOI (inb c3 (qg a1)) (let r0:=uh [.s e0,.s (cS a1 c3 0)];qOH r0 (.br (ine (gI r0 1) 0) (.leaf (2,[.s [],.i (gI r0 1)])) (qOJ [.s (gS r0 0),.r a1,.i c2,.i (qo .i64 c3 1)])))) (.leaf (1,[.s e0]))):=by kernel_rfl
theorem qAW:qc9 [.r a0]=(.br (ilt 4096 (qg a0)) (qOJ [.s [],.i 5]) (let r0:=qC [.r a0];qOH r0 (.br (ine (gI r0 0) 0) (qOJ [.s [],.i (gI r0 0)]) (let r1:=qf q20 [.s [48],.r a0,.i (qg a0),.i 0];qOH r1 (.br (jIs r1 0) (qOJ [.s (gS r1 0),.i 0]) (qOJ [.s (gS r1 0),.i (gI r1 1)])))))):=by kernel_rfl
theorem uE:qM [.r a0,.s e1,.r a2,.i c3,.i c4]=(.br (ilt c4 c3) (qOI (inb c4 (qg a2)) (qOI (inb c4 (qg a0)) (let r0:=vK [.s (cS a2 c4 0),.s (cS a0 c4 0)];qOH r0 (.br (ine (gI r0 1) 0) (.leaf (2,[.s [],.i (gI r0 1)])) (let r1:=uh [.s e1,.s (gS r0 0)];qOH r1 (.br (ine (gI r1 1) 0) (.leaf (2,[.s [],.i (gI r1 1)])) (qOJ [.r a0,.s (gS r1 0),.r a2,.i c3,.i (qo .i64 c4 1)]))))))) (.leaf (1,[.s e1]))):=by kernel_rfl
theorem q7Q:qA [.r a0,.r a1]=(let r0:=qf qM [.r a1,.s [48],.r a0,.i (qg a0),.i 0];qOH r0 (.br (jIs r0 0) (qOJ [.s (gS r0 0),.i 0]) (qOJ [.s (gS r0 0),.i (gI r0 1)]))):=by kernel_rfl
theorem qgb:uX [.i c0,.i c1,.i c2,.i c3,.s e4,.s e5,.s e6,.r a7]=(let t0:=wN [.i (qqf [c0,c1,c2] c3)];let p0:List PV:=[.s (gS t0 0)];let t1:=wk ((.s e6)::p0);let i0:Int:=(qo .i64 c3 1);let t2:=wk ((.s e5)::p0);let t3:=wk ((.s e4)::p0);(.br (ilt c3 3) (qOI (inb c3 3) (.br (ieq c3 2) (qOH t0 (qOH t1 (.br (ine (gI t1 1) 0) (.leaf (2,[.s [],.i (gI t1 1)])) (qOI (ile ((qg a7)+(qg [[.s (gS t1 0)]])) 8796093022208) (qOJ [.i c0,.i c1,.i c2,.i i0,.s e4,.s e5,.s e6,.r (zE a7 [[.s (gS t1 0)]])]))))) (.br (ieq c3 1) (qOH t0 (qOH t2 (.br (ine (gI t2 1) 0) (.leaf (2,[.s [],.i (gI t2 1)])) (qOI (ile ((qg a7)+(qg [[.s (gS t2 0)]])) 8796093022208) (qOJ [.i c0,.i c1,.i c2,.i i0,.s e4,.s e5,.s e6,.r (zE a7 [[.s (gS t2 0)]])]))))) (qOI (ieq c3 0) (qOH t0 (qOH t3 (.br (ine (gI t3 1) 0) (.leaf (2,[.s [],.i (gI t3 1)])) (qOI (ile ((qg a7)+(qg [[.s (gS t3 0)]])) 8796093022208) (qOJ [.i c0,.i c1,.i c2,.i i0,.s e4,.s e5,.s e6,.r (zE a7 [[.s (gS t3 0)]])]))))))))) (.leaf (1,[.r a7])))):=by kernel_rfl
theorem quV:vw [.s e0,.s e1,.s e2,.i c3,.i c4,.i c5]=(let r0:=qD [.i c3,.i c4,.i c5];qOH r0 (let r1:=qf uX [.i (gI r0 0),.i (gI r0 1),.i (gI r0 2),.i 0,.s e0,.s e1,.s e2,.r []];qOH r1 (.br (jIs r1 0) (let r2:=qA [.r (gR r1 0),.r (gR r1 0)];qOH r2 (qOJ [.s (gS r2 0),.i (gI r2 1)])) (qOJ [.s (gS r1 0),.i (gI r1 1)])))):=by kernel_rfl
theorem qaU:jh [.r a0,.i c1,.i c2,.i c3,.i c4,.i c5,.i c6,.s e7,.s e8,.s e9,.s e10,.r a11,.r a12]=(.br (ilt c6 c5) (qOI (inb 0 (qg a0)) (qOI (inb (qo .i64 c2 1) (qg a0)) (qOI (inb (qo .i64 c6 1) (qg a0)) (let r0:=q13 [.i (cI a0 0 0),.i (cI a0 0 1),.i (cI a0 0 2),.i (cI a0 (qo .i64 c2 1) 0),.i (cI a0 (qo .i64 c2 1) 1),.i (cI a0 (qo .i64 c2 1) 2),.i (cI a0 (qo .i64 c6 1) 0),.i (cI a0 (qo .i64 c6 1) 1),.i (cI a0 (qo .i64 c6 1) 2)];qOH r0 (qOI (ile ((qg a11)+(qg [[.i (wd .i64 2 (gI r0 0))]])) 17592186044416) (qOJ [.r a0,.i c1,.i c2,.i c3,.i c4,.i c5,.i (qo .i64 c6 1),.s e7,.s e8,.s e9,.s e10,.r (zE a11 [[.i (wd .i64 2 (gI r0 0))]]),.r a12])))))) (.leaf (1,[.r a0,.i c1,.i c2,.i c3,.i c4,.s e7,.s e8,.s e9,.s e10,.r a11,.r a12]))):=by kernel_rfl
theorem qcX:jL [.r a0,.i c1,.i c2,.i c3,.s e4,.s e5,.s e6,.s e7,.r a8,.r a9]=(let p0:List PV:=[.s e4,.s e5,.s e6,.s e7,.r a8,.r a9];let t0:=qf jh ((.r a0)::(.i c1)::(.i c3)::(.i c2)::(.i c3)::(.i c1)::(.i 0)::p0);let l0:R:=(gR t0 0);let i0:Int:=(qo .i64 (gI t0 2) 1);let t1:=q13 [.i (cI l0 0 0),.i (cI l0 0 1),.i (cI l0 0 2),.i (cI l0 i0 0),.i (cI l0 i0 1),.i (cI l0 i0 2),.i (cI l0 i0 0),.i (cI l0 i0 1),.i (cI l0 i0 2)];let t2:=wN [.i (gI t1 0)];(.br (ilt c3 c2) (qOH t0 (qOI (inb 0 (qg l0)) (qOI (inb i0 (qg l0)) (qOI (inb i0 (qg l0)) (qOH t1 (qOH t2 (qOI (ile ((qg (gR t0 10))+(qg [[.s (gS t2 0)]])) 8796093022208) (qOJ [.r l0,.i (gI t0 1),.i (gI t0 3),.i (qo .i64 (gI t0 4) 1),.s (gS t0 5),.s (gS t0 6),.s (gS t0 7),.s (gS t0 8),.r (gR t0 9),.r (zE (gR t0 10) [[.s (gS t2 0)]])])))))))) (.leaf (1,((.r a0)::(.i c1)::p0))))):=by kernel_rfl
theorem qaT:ja [.r a0,.i c1,.i c2,.r a3,.i c4,.i c5,.s e6,.s e7,.s e8,.s e9,.r a10,.s e11,.s e12,.s e13,.s e14,.r a15]=(.br (ilt c5 c4) (qOI (inb c5 (qg a3)) (let r0:=qD [.i (cI a3 c5 0),.i (cI a3 c5 1),.i (cI a3 c5 2)];qOH r0 (qOI (inb c1 3) (let r1:=wN [.i (qqf [(gI r0 0),(gI r0 1),(gI r0 2)] c1)];qOH r1 (qOI (ile ((qg a15)+(qg [[.s (gS r1 0)]])) 8796093022208) (qOJ [.r a0,.i c1,.i c2,.r a3,.i c4,.i (qo .i64 c5 1),.s e6,.s e7,.s e8,.s e9,.r a10,.s e11,.s e12,.s e13,.s e14,.r (zE a15 [[.s (gS r1 0)]])])))))) (.leaf (1,[.r a0,.i c1,.i c2,.s e6,.s e7,.s e8,.s e9,.r a10,.s e11,.s e12,.s e13,.s e14,.r a15]))):=by kernel_rfl
theorem qaO:jg [.r a0,.i c1,.s e2,.s e3,.s e4,.s e5,.r a6,.s e7,.s e8,.s e9,.s e10]=(let t0:=qf ja [.r a0,.i c1,.i c1,.r a0,.i (qg a0),.i 0,.s e2,.s e3,.s e4,.s e5,.r a6,.s e7,.s e8,.s e9,.s e10,.r []];let l0:R:=(gR t0 7);let t1:=qA [.r l0,.r (gR t0 12)];let b0:Bool:=(ine (gI t1 1) 0);let t2:TR:=(.leaf (2,[.b false,.i (gI t1 1),.s [],.s [],.s [],.s []]));let i0:Int:=(qo .i64 (gI t0 2) 1);let p0:List PV:=[.s (gS t0 10),.s (gS t0 11)];(.br (ilt c1 3) (qOH t0 (qOH t1 (.br (ieq (gI t0 1) 2) (.br b0 t2 (qOJ [.r (gR t0 0),.i i0,.s (gS t0 3),.s (gS t0 4),.s (gS t0 5),.s (gS t0 6),.r l0,.s (gS t0 8),.s (gS t0 9),.s (gS t1 0),.s (gS t0 11)])) (.br (ieq (gI t0 1) 1) (.br b0 t2 (qOJ ((.r (gR t0 0))::(.i i0)::(.s (gS t0 3))::(.s (gS t0 4))::(.s (gS t0 5))::(.s (gS t0 6))::(.r l0)::(.s (gS t0 8))::(.s (gS t1 0))::p0))) (qOI (ieq (gI t0 1) 0) (.br b0 t2 (qOJ ((.r (gR t0 0))::(.i i0)::(.s (gS t0 3))::(.s (gS t0 4))::(.s (gS t0 5))::(.s (gS t0 6))::(.r l0)::(.s (gS t1 0))::(.s (gS t0 9))::p0)))))))) (.leaf (1,[.r a0,.s e2,.s e3,.s e4,.s e5,.r a6,.s e7,.s e8,.s e9,.s e10])))):=by kernel_rfl
theorem qgA:uZ [.r a0]=(let r0:=qf jL [.r a0,.i (wo .i64 (qg a0) 1),.i (wo .i64 (qg a0) 1),.i 0,.s [],.s [],.s [],.s [],.r [],.r []];qOH r0 (let r1:=qds [.i (gI r0 1),.i (gI r0 1),.r (gR r0 6)];qOH r1 (.br (ine (gI r1 3) 0) (qOJ [.s [],.s [],.s [],.s [],.r [],.b false,.i (gI r1 3)]) (let r2:=ya [.i (gI r1 0),.i (gI r1 1),.r (gR r1 2)];qOH r2 (.br (ieq (gI r2 3) 14) (qOJ [.s [],.s [],.s [],.s [],.r [],.b false,.i 0]) (.br (ine (gI r2 3) 0) (qOJ [.s [],.s [],.s [],.s [],.r [],.b false,.i (gI r2 3)]) (let r3:=q4o [.i (gI r2 0),.i (gI r2 1),.r (gR r2 2),.r (gR r0 7)];qOH r3 (.br (ine (gI r3 1) 0) (qOJ [.s [],.s [],.s [],.s [],.r [],.b false,.i (gI r3 1)]) (let r4:=qc9 [.r (gR r3 0)];qOH r4 (.br (ine (gI r4 1) 0) (qOJ [.s [],.s [],.s [],.s [],.r [],.b false,.i (gI r4 1)]) (let r5:=wk [.s [49],.s (gS r4 0)];qOH r5 (.br (ine (gI r5 1) 0) (qOJ [.s [],.s [],.s [],.s [],.r [],.b false,.i (gI r5 1)]) (qOI (ile ((qg [[.s (gS r5 0)]])+(qg (gR r3 0))) 8796093022208) (let r6:=qf jg [.r (gR r0 0),.i 0,.s (gS r0 2),.s (gS r0 3),.s (gS r0 4),.s (gS r0 5),.r (zE [[.s (gS r5 0)]] (gR r3 0)),.s [],.s [],.s [],.s []];qOH r6 (.br (jIs r6 0) (qOI (inb 0 (qg (gR r6 0))) (let r7:=vw [.s (gS r6 6),.s (gS r6 7),.s (gS r6 8),.i (cI (gR r6 0) 0 0),.i (cI (gR r6 0) 0 1),.i (cI (gR r6 0) 0 2)];qOH r7 (qOJ [.s (gS r6 6),.s (gS r6 7),.s (gS r6 8),.s (gS r7 0),.r (gR r6 5),.b true,.i (gI r7 1)]))) (qOJ [.s (gS r6 2),.s (gS r6 3),.s (gS r6 4),.s (gS r6 5),.r [],.b (gB r6 0),.i (gI r6 1)])))))))))))))))):=by kernel_rfl
theorem qdl:jQ [.r a0,.r a1,.i c2,.i c3,.r a4]=(.br (ilt c3 c2) (qOI (inb c3 (qg a1)) (qOI (inb (cI a1 c3 0) (qg a0)) (qOI (ile ((qg a4)+(qg [[.i (cI a0 (cI a1 c3 0) 0),.i (cI a0 (cI a1 c3 0) 1),.i (cI a0 (cI a1 c3 0) 2)]])) 5864062014805) (qOJ [.r a0,.r a1,.i c2,.i (qo .i64 c3 1),.r (zE a4 [[.i (cI a0 (cI a1 c3 0) 0),.i (cI a0 (cI a1 c3 0) 1),.i (cI a0 (cI a1 c3 0) 2)]])])))) (.leaf (1,[.r a4]))):=by kernel_rfl
theorem qqC:q1F [.r a0,.r a1]=(let r0:=qf jQ [.r a0,.r a1,.i (qg a1),.i 0,.r []];qOH r0 (qOJ [.r (gR r0 0)])):=by kernel_rfl
theorem qwm:q7n [.s e0]=(let r0:=zu [.s e0];qOH r0 (.br (ine (gI r0 0) 0) (qOJ [.s [],.s [],.i (gI r0 0)]) (let r1:=qV [.s e0];qOH r1 (qOJ [.s (gS r1 0),.s (gS r1 1),.i 0])))):=by kernel_rfl
theorem qzA:q9u [.s e0]=(let r0:=qW [.s e0];qOH r0 (.br (ine (gI r0 0) 0) (qOJ [.i 0,.i (gI r0 0)]) (let r1:=yH [.s e0];qOH r1 (qOJ [.i (gI r1 0),.i 0])))):=by kernel_rfl
theorem qye:q61 [.s e0]=(let r0:=q7n [.s e0];qOH r0 (.br (ine (gI r0 2) 0) (qOJ [.i 0,.i (gI r0 2)]) (let r1:=q9u [.s (gS r0 0)];qOH r1 (qOJ [.i (gI r1 0),.i (gI r1 1)])))):=by kernel_rfl
theorem qdG:qQ [.s e0]=(qOH (q61 [.s e0]) (qOJ [.b (ilt (gI (q61 [.s e0]) 0) 0)])):=by kernel_rfl
theorem wj:qx [.r a0,.i c1,.i c2]=(.br (ilt c2 c1) (qOI (inb c2 (qg a0)) (let r0:=qQ [.s (cS a0 c2 0)];qOH r0 (.br (gB r0 0) (.leaf (2,[.i c2])) (qOJ [.r a0,.i c1,.i (qo .i64 c2 1)])))) (.leaf (1,[]))):=by kernel_rfl
theorem ud:qJ [.r a0]=(let r0:=qf qx [.r a0,.i (qg a0),.i 0];qOH r0 (.br (jIs r0 0) (qOJ [.i (-1)]) (qOJ [.i (gI r0 0)]))):=by kernel_rfl
theorem q3s:qN [.r a0]=(let r0:=qJ [.r a0];qOH r0 (qOJ [.b (ile 0 (gI r0 0))])):=by kernel_rfl
theorem qgt:vO [.s e0,.s e1,.s e2,.s e3,.r a4]=(let r0:=qN [.r a4];qOH r0 (qOJ [.b (not (gB r0 0))])):=by kernel_rfl
theorem qsP:wH [.s e0,.s e1]=(let r0:=qC [.r [[.s e0],[.s e1]]];qOH r0 (.br (ine (gI r0 0) 0) (qOJ [.i 0,.i (gI r0 0)]) (let r1:=qV [.s e0];qOH r1 (let r2:=qV [.s e1];qOH r2 (let r3:=qt [.r [[.s (gS r1 0)],[.s (gS r2 1)]],.i 0];qOH r3 (let r4:=qt [.r [[.s (gS r2 0)],[.s (gS r1 1)]],.i (gI r3 1)];qOH r4 (.br (ine (gI r4 1) 0) (qOJ [.i 0,.i (gI r4 1)]) (let r5:=u6 [.s (gS r3 0),.s (gS r4 0)];qOH r5 (qOJ [.i (gI r5 0),.i (gI r5 1)]))))))))):=by kernel_rfl
theorem ym:qS [.r a0,.i c1,.i c2,.s e3,.s e4,.s e5,.s e6,.r a7]=(.br (ilt c2 c1) (qOI (inb c2 (qg a0)) (let r0:=vw [.s e3,.s e4,.s e5,.i (cI a0 c2 0),.i (cI a0 c2 1),.i (cI a0 c2 2)];qOH r0 (.br (ine (gI r0 1) 0) (.leaf (2,[.b false,.i (gI r0 1)])) (let r1:=wH [.s (gS r0 0),.s e6];qOH r1 (.br (ine (gI r1 1) 0) (.leaf (2,[.b false,.i (gI r1 1)])) (.br (ilt 0 (gI r1 0)) (.leaf (2,[.b false,.i (gI r1 1)])) (qOJ [.r a0,.i c1,.i (qo .i64 c2 1),.s e3,.s e4,.s e5,.s e6,.r a7]))))))) (.leaf (1,[]))):=by kernel_rfl
theorem qdE:wI [.s e0,.s e1,.s e2,.s e3,.r a4,.r a5]=(let r0:=qf qS [.r a5,.i (qg a5),.i 0,.s e0,.s e1,.s e2,.s e3,.r a4];qOH r0 (.br (jIs r0 0) (qOJ [.b true,.i 0]) (qOJ [.b (gB r0 0),.i (gI r0 1)]))):=by kernel_rfl
theorem qaZ:zO [.r a0,.r a1]=(let t0:=q1F [.r a0,.r a1];let t1:=uZ [.r (gR t0 0)];let t2:TR:=(qOJ [.s [],.s [],.s [],.s [],.r [],.b false,.i (gI t1 6)]);let t3:=vO [.s (gS t1 0),.s (gS t1 1),.s (gS t1 2),.s (gS t1 3),.r (gR t1 4)];let t4:=wI [.s (gS t1 0),.s (gS t1 1),.s (gS t1 2),.s (gS t1 3),.r (gR t1 4),.r a0];(qOH t0 (qOH t1 (.br (ine (gI t1 6) 0) t2 (.br (not (gB t1 5)) t2 (qOH t3 (.br (not (gB t3 0)) t2 (qOH t4 (qOJ [.s (gS t1 0),.s (gS t1 1),.s (gS t1 2),.s (gS t1 3),.r (gR t1 4),.b (gB t4 0),.i (gI t4 1)]))))))))):=by kernel_rfl
theorem q17:qF [.r a0,.i c1,.i c2,.i c3,.i c4,.i c5,.r a6,.s e7,.s e8,.s e9,.s e10,.i c11,.i c12,.i c13,.r a14,.r a15]=(.br (ilt c1 c12) (let r0:=wC [.r a0];qOH r0 (qOI (ile ((qg (gR r0 0))+(qg [[.i c1]])) 17592186044416) (qOI (ile ((qg a15)+(qg [[.l (zE (gR r0 0) [[.i c1]])]])) 5864062014805) (let r1:=zO [.r a6,.r (zE (gR r0 0) [[.i c1]])];qOH r1 (.br (ine (gI r1 6) 0) .fail (.br (gB r1 5) (.leaf (2,[.r a6,.s (gS r1 0),.s (gS r1 1),.s (gS r1 2),.s (gS r1 3),.r (gR r1 4),.i 0,.i c12,.i c13,.r (zE (gR r0 0) [[.i c1]])])) (qOJ [.r a0,.i (qo .i64 c1 1),.i c2,.i c3,.i c4,.i c5,.r a6,.s e7,.s e8,.s e9,.s e10,.i c11,.i c12,.i c13,.r a14,.r (zE a15 [[.l (zE (gR r0 0) [[.i c1]])]])]))))))) (.leaf (1,[.i c2,.i c3,.i c4,.i c5,.r a6,.s e7,.s e8,.s e9,.s e10,.i c11,.i c12,.i c13,.r a14,.r a15]))):=by kernel_rfl
theorem q2g:v8 [.i c0,.i c1,.i c2,.i c3,.r a4,.s e5,.s e6,.s e7,.s e8,.i c9,.i c10,.i c11,.r a12,.r a13]=(let l0:R:=(cR a12 c3 0);let i0:Int:=(qg l0);let p0:List PV:=[.i c0,.i c1,.i c2,.i c3,.r a4,.s e5,.s e6,.s e7,.s e8,.i c9,.i c10,.i c11,.r a12,.r a13];let t0:=qf qF ((.r l0)::(.i (qo .i64 (cI l0 (wo .i64 i0 1) 0) 1))::p0);let t1:=qf qF ((.r l0)::(.i 0)::p0);(.br (ilt c3 c2) (qOI (inb c3 (qg a12)) (.br (ilt 0 i0) (qOI (inb (wo .i64 i0 1) i0) (qOH t0 (.br (jIs t0 0) (qOJ [.i (gI t0 0),.i (gI t0 1),.i (gI t0 2),.i (qo .i64 (gI t0 3) 1),.r (gR t0 4),.s (gS t0 5),.s (gS t0 6),.s (gS t0 7),.s (gS t0 8),.i (gI t0 9),.i (gI t0 10),.i (gI t0 11),.r (gR t0 12),.r (gR t0 13)]) (.leaf (2,[.r (gR t0 0),.s (gS t0 1),.s (gS t0 2),.s (gS t0 3),.s (gS t0 4),.r (gR t0 5),.i (gI t0 6),.i (gI t0 7),.i (gI t0 8),.r (gR t0 9)]))))) (qOH t1 (.br (jIs t1 0) (qOJ [.i (gI t1 0),.i (gI t1 1),.i (gI t1 2),.i (qo .i64 (gI t1 3) 1),.r (gR t1 4),.s (gS t1 5),.s (gS t1 6),.s (gS t1 7),.s (gS t1 8),.i (gI t1 9),.i (gI t1 10),.i (gI t1 11),.r (gR t1 12),.r (gR t1 13)]) (.leaf (2,[.r (gR t1 0),.s (gS t1 1),.s (gS t1 2),.s (gS t1 3),.s (gS t1 4),.r (gR t1 5),.i (gI t1 6),.i (gI t1 7),.i (gI t1 8),.r (gR t1 9)])))))) (.leaf (1,[.i c0,.i c1,.r a4,.s e5,.s e6,.s e7,.s e8,.i c9,.i c10,.i c11,.r a13])))):=by kernel_rfl
theorem q2d:v7 [.i c0,.i c1,.r a2,.s e3,.s e4,.s e5,.s e6,.i c7,.i c8,.i c9,.r a10]=(.br (ilt c1 c0) (let r0:=qf v8 [.i c0,.i c1,.i (qg a10),.i 0,.r a2,.s e3,.s e4,.s e5,.s e6,.i c7,.i c8,.i c9,.r a10,.r []];qOH r0 (.br (jIs r0 0) (qOJ [.i (gI r0 0),.i (qo .i64 (gI r0 1) 1),.r (gR r0 2),.s (gS r0 3),.s (gS r0 4),.s (gS r0 5),.s (gS r0 6),.i (gI r0 7),.i (gI r0 8),.i (gI r0 9),.r (gR r0 10)]) (.leaf (2,[.r (gR r0 0),.s (gS r0 1),.s (gS r0 2),.s (gS r0 3),.s (gS r0 4),.r (gR r0 5),.i (gI r0 6),.i (gI r0 7),.i (gI r0 8),.r (gR r0 9)])))) (.leaf (1,[.r a2,.s e3,.s e4,.s e5,.s e6,.i c7,.i c8,.i c9]))):=by kernel_rfl
theorem qsT:q0C [.r a0,.i c1]=(let r0:=qf v7 [.i c1,.i 0,.r a0,.s [],.s [],.s [],.s [],.i 0,.i (qg a0),.i c1,.r [[.l []]]];qOH r0 (.br (jIs r0 0) (qOJ [.s [],.s [],.s [],.s [],.r [],.r [],.i 6]) (qOJ [.s (gS r0 1),.s (gS r0 2),.s (gS r0 3),.s (gS r0 4),.r (gR r0 5),.r (gR r0 9),.i (gI r0 6)]))):=by kernel_rfl
theorem qcw:jD [.r a0,.i c1,.i c2,.r a3]=(.br (ilt c2 c1) (qOI (inb c2 (qg a0)) (qOI (ile ((qg a3)+(qg [[.i (cI a0 c2 0),.i (cI a0 c2 1),.i 0]])) 5864062014805) (qOJ [.r a0,.i c1,.i (qo .i64 c2 1),.r (zE a3 [[.i (cI a0 c2 0),.i (cI a0 c2 1),.i 0]])]))) (.leaf (1,[.r a3]))):=by kernel_rfl
theorem qrl:q1H [.r a0]=(let r0:=qf jD [.r a0,.i (qg a0),.i 0,.r []];qOH r0 (qOJ [.r (gR r0 0)])):=by kernel_rfl
theorem qhr:ut [.s e0,.s e1,.s e2,.s e3,.r a4]=(qOJ [.s e0,.s e1]):=by kernel_rfl
theorem qgD:jT [.r a0]=(let r0:=q4l [.r a0];qOH r0 (.br (ine (gI r0 0) 0) (qOJ [.s [],.s [],.s [],.r [],.i (gI r0 0)]) (let r1:=q1H [.r a0];qOH r1 (let r2:=q0C [.r (gR r1 0),.i 3];qOH r2 (.br (ine (gI r2 6) 0) (qOJ [.s [],.s [],.s [],.r [],.i (gI r2 6)]) (let r3:=ut [.s (gS r2 0),.s (gS r2 1),.s (gS r2 2),.s (gS r2 3),.r (gR r2 4)];qOH r3 (qOJ [.s (gS r3 0),.s (gS r3 1),.s (gS r2 3),.r (gR r2 5),.i 0]))))))):=by kernel_rfl
theorem qi1:jH [.r a0,.i c1]=(let r0:=jT [.r a0];qOH r0 (.br (ine (gI r0 4) 0) (qOJ [.b false,.i (gI r0 4)]) (.br (ilt c1 0) (qOJ [.b false,.i 2]) (.br (ilt 100000 c1) (qOJ [.b false,.i 2]) (let r1:=vK [.s [52],.s (gS r0 2)];qOH r1 (.br (ine (gI r1 1) 0) (qOJ [.b false,.i (gI r1 1)]) (let r2:=wN [.i (wd .i64 c1 c1)];qOH r2 (let r3:=wH [.s (gS r1 0),.s (gS r2 0)];qOH r3 (.br (ieq (gI r3 1) 0) (qOJ [.b (ile (gI r3 0) 0),.i (gI r3 1)]) (qOJ [.b false,.i (gI r3 1)])))))))))):=by kernel_rfl
theorem quw:q98 [.i c0,.i c1,.i c2,.i c3,.i c4,.i c5]=(qOJ [.i (wo .i64 c3 c0),.i (wo .i64 c4 c1),.i (wo .i64 c5 c2)]):=by kernel_rfl
theorem qoM:q3l [.i c0,.i c1,.i c2,.i c3,.i c4,.i c5]=(qOJ [.i (qo .i64 (qo .i64 (wd .i64 c0 c3) (wd .i64 c1 c4)) (wd .i64 c2 c5))]):=by kernel_rfl
theorem qjR:vV [.i c0,.i c1,.i c2,.i c3,.i c4,.i c5]=(let r0:=zo [.r [[.i c0,.i c1,.i c2],[.i c3,.i c4,.i c5]]];qOH r0 (.br (ine (gI r0 0) 0) (qOJ [.i 0,.i (gI r0 0)]) (let r1:=q98 [.i c0,.i c1,.i c2,.i c3,.i c4,.i c5];qOH r1 (let r2:=q3l [.i (gI r1 0),.i (gI r1 1),.i (gI r1 2),.i (gI r1 0),.i (gI r1 1),.i (gI r1 2)];qOH r2 (qOJ [.i (gI r2 0),.i 0]))))):=by kernel_rfl
theorem qae:q0K [.r a0,.i c1,.i c2,.r a3]=(.br (ilt c2 c1) (qOI (inb c2 (qg a0)) (let r0:=vV [.i (cI a0 c2 0),.i (cI a0 c2 1),.i (cI a0 c2 2),.i (cI a0 c2 3),.i (cI a0 c2 4),.i (cI a0 c2 5)];qOH r0 (.br (ine (gI r0 1) 0) (.leaf (2,[.i (gI r0 1)])) (qOI (ile ((qg a3)+(qg [[.i (gI r0 0)]])) 17592186044416) (qOJ [.r a0,.i c1,.i (qo .i64 c2 1),.r (zE a3 [[.i (gI r0 0)]])]))))) (.leaf (1,[.r a3]))):=by kernel_rfl
theorem qw6:vQ [.r a0]=(.br (ilt 64 (qg a0)) (qOJ [.r [],.i 5]) (let r0:=qf q0K [.r a0,.i (qg a0),.i 0,.r []];qOH r0 (.br (jIs r0 0) (qOJ [.r (gR r0 0),.i 0]) (qOJ [.r [],.i (gI r0 0)])))):=by kernel_rfl
theorem qn0:wu [.i c0]=(.br (ile (-100000) c0) (qOJ [.b (ile c0 100000)]) (qOJ [.b false])):=by kernel_rfl
theorem qom:q0z [.i c0,.i c1]=(qOH (wu [.i c0]) (.br (not (gB (wu [.i c0]) 0)) (qOJ [.i 2]) (qOH (wu [.i c1]) (.br (not (gB (wu [.i c1]) 0)) (qOJ [.i 2]) (.br (ilt c1 c0) (qOJ [.i 9]) (qOJ [.i 0])))))):=by kernel_rfl
theorem qw4:q7g [.i c0,.i c1]=(let r0:=q0z [.i c0,.i c1];qOH r0 (.br (ine (gI r0 0) 0) (qOJ [.i (gI r0 0)]) (.br (ilt c0 0) (qOJ [.i 2]) (qOJ [.i 0])))):=by kernel_rfl
theorem qcA:q1X [.i c0,.i c1,.i c2]=(.br (ilt c0 (wd .i64 c1 c1)) (qOJ [.b true,.i c1,.i c2]) (qOJ [.b (ilt (wd .i64 c2 c2) c0),.i c1,.i c2])):=by kernel_rfl
theorem jS:z7 [.r a0,.i c1,.i c2,.i c3,.i c4]=(.br (ilt c2 c1) (qOI (inb c2 (qg a0)) (let r0:=q1X [.i (cI a0 c2 0),.i c3,.i c4];qOH r0 (.br (gB r0 0) (.leaf (2,[.i c2,.i (gI r0 1),.i (gI r0 2)])) (qOJ [.r a0,.i c1,.i (qo .i64 c2 1),.i (gI r0 1),.i (gI r0 2)])))) (.leaf (1,[.i c3,.i c4]))):=by kernel_rfl
theorem qd0:w8 [.r a0,.i c1,.i c2]=(let r0:=qf z7 [.r a0,.i (qg a0),.i 0,.i c1,.i c2];qOH r0 (.br (jIs r0 0) (qOJ [.i (-1),.i (gI r0 0),.i (gI r0 1)]) (qOJ [.i (gI r0 0),.i (gI r0 1),.i (gI r0 2)]))):=by kernel_rfl
theorem qzl:q0S [.r a0,.i c1,.i c2]=(let r0:=vQ [.r a0];qOH r0 (.br (ine (gI r0 1) 0) (qOJ [.b false,.i 0,.i (gI r0 1)]) (let r1:=q7g [.i c1,.i c2];qOH r1 (.br (ine (gI r1 0) 0) (qOJ [.b false,.i 0,.i (gI r1 0)]) (let r2:=w8 [.r (gR r0 0),.i c1,.i c2];qOH r2 (.br (ile 0 (gI r2 0)) (qOJ [.b false,.i (gI r2 0),.i 0]) (qOJ [.b true,.i (qg (gR r0 0)),.i 0]))))))):=by kernel_rfl
theorem q4n:zI [.r a0,.r a1,.i c2,.i c3]=(.br (ilt c3 c2) (qOI (inb c3 (qg a0)) (qOI (inb c3 (qg a1)) (.br (ine (cI a0 c3 0) (cI a1 c3 0)) (.leaf (2,[.b false])) (qOJ [.r a0,.r a1,.i c2,.i (qo .i64 c3 1)])))) (.leaf (1,[]))):=by kernel_rfl
theorem qgX:zA [.r a0,.r a1]=(.br (ine (qg a0) (qg a1)) (qOJ [.b false]) (let r0:=qf zI [.r a0,.r a1,.i (qg a0),.i 0];qOH r0 (.br (jIs r0 0) (qOJ [.b true]) (qOJ [.b (gB r0 0)])))):=by kernel_rfl
theorem qzb  : qeg []=(qOJ [.i 0,.r [[.i 0,.i 0,.i 0],[.i 1,.i 5,.i 0]],.r [[.i 10,.i 0,.i 0],[.i 12,.i 5,.i 0]]]):=by kernel_rfl
theorem qvT  : yo []=(let t0:=vQ [.r [[.i 0,.i 0,.i 0,.i 3,.i 4,.i 0]]];let t1:=q0S [.r [[.i 0,.i 0,.i 0,.i 3,.i 4,.i 0]],.i 4,.i 5];let t2:=q0S [.r [[.i 0,.i 0,.i 0,.i 3,.i 4,.i 0]],.i 6,.i 7];let t3:=qeg [];let t4:=q3e [.i (gI t3 0),.r (gR t3 1),.r (gR t3 2),.b true];let t5:=q3e [.i (gI t3 0),.r (gR t3 1),.r (gR t3 2),.b false];let t6:=q6q [.i (gI t3 0),.r (gR t3 1),.r (gR t3 2)];let t7:=jH [.r [[.i 0,.i 0],[.i 6,.i 0],[.i 3,.i 1]],.i 6];let t8:=jH [.r [[.i 0,.i 0],[.i 6,.i 0],[.i 3,.i 1]],.i 5];let t9:=zA [.r (gR t0 0),.r [[.i 25]]];let t10:TR:=(qOJ [.b false]);(qOH t0 (qOH t1 (qOH t2 (qOH t3 (qOH t4 (qOH t3 (qOH t5 (qOH t3 (qOH t6 (qOH t7 (qOH t8 (.br (ieq (qo .i64 (qo .i64 (qo .i64 (qo .i64 (qo .i64 (qo .i64 (qo .i64 (gI t0 1) (gI t1 2)) (gI t2 2)) (gI t4 1)) (gI t5 1)) (gI t6 2)) (gI t7 1)) (gI t8 1)) 0) (qOH t9 (.br (gB t9 0) (.br (gB t1 0) (.br (ieq (gI t1 1) 1) (.br (not (gB t2 0)) (.br (ieq (gI t4 0) 9) (.br (ieq (gI t5 0) 12) (.br (qHC (ieq (gI t6 0) 9) (qHC (ieq (gI t6 1) 12) true)) (.br (gB t7 0) (qOJ [.b (not (gB t8 0))]) t10) t10) t10) t10) t10) t10) t10) t10)) t10))))))))))))):=by kernel_rfl
theorem qC4:jd [.i c0]=(.br (ile (-100000) c0) (qOJ [.b (ile c0 100000)]) (qOJ [.b false])):=by kernel_rfl
theorem qq0:jb [.i c0,.i c1,.i c2]=(qOH (jd [.i c0]) (.br (gB (jd [.i c0]) 0) (qOH (jd [.i c1]) (.br (gB (jd [.i c1]) 0) (qOH (jd [.i c2]) (qOJ [.b (gB (jd [.i c2]) 0)])) (qOJ [.b false]))) (qOJ [.b false]))):=by kernel_rfl
theorem qAO:qdn [.r a0]=(.br (ile (qg a0) 8) (qOJ [.b true]) (.br (ilt 64 (qg a0)) (qOJ [.b (ilt (qg a0) 128)]) (qOJ [.b false]))):=by kernel_rfl
theorem qvO:q3U [.i c0,.i c1]=(qOH (jd [.i c0]) (.br (gB (jd [.i c0]) 0) (qOH (jd [.i c1]) (qOJ [.b (gB (jd [.i c1]) 0)])) (qOJ [.b false]))):=by kernel_rfl
theorem qiz:ug [.r a0,.i c1]=(.br (ilt c1 (qg a0)) (qOI (inb c1 (qg a0)) (let r0:=q3U [.i (cI a0 c1 0),.i (cI a0 c1 1)];qOH r0 (.br (not (gB r0 0)) (.leaf (2,[.i 2])) (qOJ [.r a0,.i (qo .i64 c1 1)])))) (.leaf (1,[]))):=by kernel_rfl
theorem qwM:q18 [.r a0]=(.br (ilt 64 (qg a0)) (qOJ [.i 5]) (let r0:=qf ug [.r a0,.i 0];qOH r0 (.br (jIs r0 0) (qOJ [.i 0]) (qOJ [.i (gI r0 0)])))):=by kernel_rfl
theorem qyU:q9y [.r a0]=(let r0:=q18 [.r a0];qOH r0 (.br (ine (gI r0 0) 0) (qOJ [.i (gI r0 0)]) (.br (ieq (qg a0) 0) (qOJ [.i 13]) (qOJ [.i 0])))):=by kernel_rfl
theorem quE:yC [.i c0,.i c1]=(qOI (ieq c1 0) (qOJ [.r [[.l []]]])):=by kernel_rfl
theorem qoF(y0:Int)(y1:R)(y2:Int)(y3:R)(y4 y5:Int)(y6:R):yO [.i y0,.r y1,.i y2,.r y3,.i y4,.i y5,.r y6]=(.br (ilt y2 y0) (qOI (ile ((qg [])+(qg y1)) 17592186044416) (qOI (ile ((qg (zE [] y1))+(qg [[.i y2]])) 17592186044416) (qOI (ile ((qg y6)+(qg [[.l (zE (zE [] y1) [[.i y2]])]])) 5864062014805) (qOJ [.i y0,.r y1,.i (qo .i64 y2 1),.r y3,.i y4,.i y5,.r (zE y6 [[.l (zE (zE [] y1) [[.i y2]])]])])))) (.leaf (1,[.i y0,.r y3,.i y4,.i y5,.r y6]))):=by kernel_rfl
theorem qqF(y0:Int)(y1:R)(y2 y3:Int)(y4:R):q1M [.i y0,.r y1,.i y2,.i y3,.r y4]=(.br (ilt y3 y2) (qOI (inb y3 (qg y1)) (.br (ilt 0 (qg (cR y1 y3 0))) (qOI (inb (wo .i64 (qg (cR y1 y3 0)) 1) (qg (cR y1 y3 0))) (let r0:=qf yO [.i y0,.r (cR y1 y3 0),.i (qo .i64 (cI (cR y1 y3 0) (wo .i64 (qg (cR y1 y3 0)) 1) 0) 1),.r y1,.i y2,.i y3,.r y4];qOH r0 (qOJ [.i (gI r0 0),.r (gR r0 1),.i (gI r0 2),.i (qo .i64 (gI r0 3) 1),.r (gR r0 4)]))) (let r0:=qf yO [.i y0,.r (cR y1 y3 0),.i 0,.r y1,.i y2,.i y3,.r y4];qOH r0 (qOJ [.i (gI r0 0),.r (gR r0 1),.i (gI r0 2),.i (qo .i64 (gI r0 3) 1),.r (gR r0 4)])))) (.leaf (1,[.r y4]))):=by kernel_rfl
theorem quc:kY [.i c0,.i c1]=(.br (ieq c1 0) (qOJ [.r [[.l []]]]) (let r0:=yC [.i c0,.i (wo .i64 c1 1)];qOH r0 (let r1:=qf q1M [.i c0,.r (gR r0 0),.i (qg (gR r0 0)),.i 0,.r []];qOH r1 (qOJ [.r (gR r1 0)])))):=by kernel_rfl
theorem qps(y0:Int)(y1:R)(y2:Int)(y3:R)(y4 y5:Int)(y6:R):yS [.i y0,.r y1,.i y2,.r y3,.i y4,.i y5,.r y6]=(.br (ilt y2 y0) (qOI (ile ((qg [])+(qg y1)) 17592186044416) (qOI (ile ((qg (zE [] y1))+(qg [[.i y2]])) 17592186044416) (qOI (ile ((qg y6)+(qg [[.l (zE (zE [] y1) [[.i y2]])]])) 5864062014805) (qOJ [.i y0,.r y1,.i (qo .i64 y2 1),.r y3,.i y4,.i y5,.r (zE y6 [[.l (zE (zE [] y1) [[.i y2]])]])])))) (.leaf (1,[.i y0,.r y3,.i y4,.i y5,.r y6]))):=by kernel_rfl
theorem qqr(y0:Int)(y1:R)(y2 y3:Int)(y4:R):q1O [.i y0,.r y1,.i y2,.i y3,.r y4]=(.br (ilt y3 y2) (qOI (inb y3 (qg y1)) (.br (ilt 0 (qg (cR y1 y3 0))) (qOI (inb (wo .i64 (qg (cR y1 y3 0)) 1) (qg (cR y1 y3 0))) (let r0:=qf yS [.i y0,.r (cR y1 y3 0),.i (qo .i64 (cI (cR y1 y3 0) (wo .i64 (qg (cR y1 y3 0)) 1) 0) 1),.r y1,.i y2,.i y3,.r y4];qOH r0 (qOJ [.i (gI r0 0),.r (gR r0 1),.i (gI r0 2),.i (qo .i64 (gI r0 3) 1),.r (gR r0 4)]))) (let r0:=qf yS [.i y0,.r (cR y1 y3 0),.i 0,.r y1,.i y2,.i y3,.r y4];qOH r0 (qOJ [.i (gI r0 0),.r (gR r0 1),.i (gI r0 2),.i (qo .i64 (gI r0 3) 1),.r (gR r0 4)])))) (.leaf (1,[.r y4]))):=by kernel_rfl
theorem qtW:kH [.i c0,.i c1]=(.br (ieq c1 0) (qOJ [.r [[.l []]]]) (let r0:=kY [.i c0,.i (wo .i64 c1 1)];qOH r0 (let r1:=qf q1O [.i c0,.r (gR r0 0),.i (qg (gR r0 0)),.i 0,.r []];qOH r1 (qOJ [.r (gR r1 0)])))):=by kernel_rfl
theorem qqc(y0:Int)(y1:R)(y2:Int)(y3:R)(y4 y5:Int)(y6:R):yQ [.i y0,.r y1,.i y2,.r y3,.i y4,.i y5,.r y6]=(.br (ilt y2 y0) (qOI (ile ((qg [])+(qg y1)) 17592186044416) (qOI (ile ((qg (zE [] y1))+(qg [[.i y2]])) 17592186044416) (qOI (ile ((qg y6)+(qg [[.l (zE (zE [] y1) [[.i y2]])]])) 5864062014805) (qOJ [.i y0,.r y1,.i (qo .i64 y2 1),.r y3,.i y4,.i y5,.r (zE y6 [[.l (zE (zE [] y1) [[.i y2]])]])])))) (.leaf (1,[.i y0,.r y3,.i y4,.i y5,.r y6]))):=by kernel_rfl
theorem qqK(y0:Int)(y1:R)(y2 y3:Int)(y4:R):q1J [.i y0,.r y1,.i y2,.i y3,.r y4]=(.br (ilt y3 y2) (qOI (inb y3 (qg y1)) (.br (ilt 0 (qg (cR y1 y3 0))) (qOI (inb (wo .i64 (qg (cR y1 y3 0)) 1) (qg (cR y1 y3 0))) (let r0:=qf yQ [.i y0,.r (cR y1 y3 0),.i (qo .i64 (cI (cR y1 y3 0) (wo .i64 (qg (cR y1 y3 0)) 1) 0) 1),.r y1,.i y2,.i y3,.r y4];qOH r0 (qOJ [.i (gI r0 0),.r (gR r0 1),.i (gI r0 2),.i (qo .i64 (gI r0 3) 1),.r (gR r0 4)]))) (let r0:=qf yQ [.i y0,.r (cR y1 y3 0),.i 0,.r y1,.i y2,.i y3,.r y4];qOH r0 (qOJ [.i (gI r0 0),.r (gR r0 1),.i (gI r0 2),.i (qo .i64 (gI r0 3) 1),.r (gR r0 4)])))) (.leaf (1,[.r y4]))):=by kernel_rfl
theorem qv0:kR [.i c0,.i c1]=(.br (ieq c1 0) (qOJ [.r [[.l []]]]) (let r0:=kH [.i c0,.i (wo .i64 c1 1)];qOH r0 (let r1:=qf q1J [.i c0,.r (gR r0 0),.i (qg (gR r0 0)),.i 0,.r []];qOH r1 (qOJ [.r (gR r1 0)])))):=by kernel_rfl
theorem qqu(y0:Int)(y1:R)(y2:Int)(y3:R)(y4 y5:Int)(y6:R):uU [.i y0,.r y1,.i y2,.r y3,.i y4,.i y5,.r y6]=(.br (ilt y2 y0) (qOI (ile ((qg [])+(qg y1)) 17592186044416) (qOI (ile ((qg (zE [] y1))+(qg [[.i y2]])) 17592186044416) (qOI (ile ((qg y6)+(qg [[.l (zE (zE [] y1) [[.i y2]])]])) 5864062014805) (qOJ [.i y0,.r y1,.i (qo .i64 y2 1),.r y3,.i y4,.i y5,.r (zE y6 [[.l (zE (zE [] y1) [[.i y2]])]])])))) (.leaf (1,[.i y0,.r y3,.i y4,.i y5,.r y6]))):=by kernel_rfl
theorem qsG(y0:Int)(y1:R)(y2 y3:Int)(y4:R):q2G [.i y0,.r y1,.i y2,.i y3,.r y4]=(.br (ilt y3 y2) (qOI (inb y3 (qg y1)) (.br (ilt 0 (qg (cR y1 y3 0))) (qOI (inb (wo .i64 (qg (cR y1 y3 0)) 1) (qg (cR y1 y3 0))) (let r0:=qf uU [.i y0,.r (cR y1 y3 0),.i (qo .i64 (cI (cR y1 y3 0) (wo .i64 (qg (cR y1 y3 0)) 1) 0) 1),.r y1,.i y2,.i y3,.r y4];qOH r0 (qOJ [.i (gI r0 0),.r (gR r0 1),.i (gI r0 2),.i (qo .i64 (gI r0 3) 1),.r (gR r0 4)]))) (let r0:=qf uU [.i y0,.r (cR y1 y3 0),.i 0,.r y1,.i y2,.i y3,.r y4];qOH r0 (qOJ [.i (gI r0 0),.r (gR r0 1),.i (gI r0 2),.i (qo .i64 (gI r0 3) 1),.r (gR r0 4)])))) (.leaf (1,[.r y4]))):=by kernel_rfl
theorem qwc:q6J [.i c0,.i c1]=(.br (ieq c1 0) (qOJ [.r [[.l []]]]) (let r0:=kR [.i c0,.i (wo .i64 c1 1)];qOH r0 (let r1:=qf q2G [.i c0,.r (gR r0 0),.i (qg (gR r0 0)),.i 0,.r []];qOH r1 (qOJ [.r (gR r1 0)])))):=by kernel_rfl
theorem qwe:qy [.s e0]=(qOI (inb 0 (qv e0)) (qOJ [.b (ieq (sat e0 0) 45)])):=by kernel_rfl
theorem qvq:qY [.s e0,.b d1]=(.br d1 (.br (not (seq e0 [48])) (qOI (ile ((qv [45])+(qv e0)) 140737488355328) (qOJ [.s (qgU [45] e0)])) (qOJ [.s e0])) (qOJ [.s e0])):=by kernel_rfl
theorem qyr:qw [.s e0]=(.br (not (seq e0 [])) (qOI (inb 0 (qv e0)) (.br (ieq (sat e0 0) 45) (qOI (q7O (qv e0) (qv e0)) (qOI (q7O 1 (qv e0)) (qOJ [.s (qfh e0 1 (qv e0))]))) (qOJ [.s e0]))) (qOJ [.s e0])):=by kernel_rfl
theorem quO:zR [.s e0]=(let r0:=qw [.s e0];qOH r0 (let r1:=qy [.s e0];qOH r1 (let r2:=qY [.s (gS r0 0),.b (not (gB r1 0))];qOH r2 (qOJ [.s (gS r2 0)])))):=by kernel_rfl
theorem qws(y0:Int)(y1:qOK):qbL [.i y0,.s y1]=(.br (ilt 9 y0) (qOI (ile ((qv (qrw [[.i (q3C .u8 (qo .i64 48 (qdN y0 10)))]]))+(qv y1)) 140737488355328) (qOJ [.i (qev .i64 y0 10),.s (qgU (qrw [[.i (q3C .u8 (qo .i64 48 (qdN y0 10)))]]) y1)])) (.leaf (1,[.i y0,.s y1]))):=by kernel_rfl
theorem qB0:q5A [.i c0]=(let t0:=qf qbL [.i c0,.s []];let s0:List UInt8:=(qrw [[.i (q3C .u8 (qo .i64 48 (gI t0 0)))]]);let t1:TR:=(.br (ilt c0 0) .fail (qOH t0 (qOI (ile ((qv s0)+(qv (gS t0 1))) 140737488355328) (qOJ [.s (qgU s0 (gS t0 1))]))));(.br (ieq c0 (wo .i64 0 c0)) (.br (ine c0 0) (qOJ [.s [45,57,50,50,51,51,55,50,48,51,54,56,53,52,55,55,53,56,48,56]]) t1) t1)):=by kernel_rfl
theorem qyx(y0:Int)(y1:qOK):qec [.i y0,.s y1]=(.br (ilt 9 y0) (qOI (ile ((qv (qrw [[.i (q3C .u8 (qo .i64 48 (qdN y0 10)))]]))+(qv y1)) 140737488355328) (qOJ [.i (qev .i64 y0 10),.s (qgU (qrw [[.i (q3C .u8 (qo .i64 48 (qdN y0 10)))]]) y1)])) (.leaf (1,[.i y0,.s y1]))):=by kernel_rfl
theorem quq:zH [.i c0]=(let i0:Int:=(wo .i64 0 c0);let t0:=zR [.s (gS (q5A [.i i0]) 0)];let t1:=qf qec [.i c0,.s []];let s0:List UInt8:=(qrw [[.i (q3C .u8 (qo .i64 48 (gI t1 0)))]]);let t2:TR:=(.br (ilt c0 0) (qOH (q5A [.i i0]) (qOH t0 (qOJ [.s (gS t0 0)]))) (qOH t1 (qOI (ile ((qv s0)+(qv (gS t1 1))) 140737488355328) (qOJ [.s (qgU s0 (gS t1 1))]))));(.br (ieq c0 i0) (.br (ine c0 0) (qOJ [.s [45,57,50,50,51,51,55,50,48,51,54,56,53,52,55,55,53,56,48,56]]) t2) t2)):=by kernel_rfl
theorem qwJ:zq [.i c0]=(qOH (zH [.i c0]) (qOJ [.s (gS (zH [.i c0]) 0)])):=by kernel_rfl
theorem qcD:zh [.i c0,.i c1,.i c2,.i c3,.i c4,.i c5]=(qOJ [.i (qo .i64 (qo .i64 (wd .i64 c0 c3) (wd .i64 c1 c4)) (wd .i64 c2 c5))]):=by kernel_rfl
theorem qp2:q0R [.i c0,.i c1,.i c2,.i c3,.i c4,.i c5]=(qOJ [.i (wo .i64 c0 c3),.i (wo .i64 c1 c4),.i (wo .i64 c2 c5)]):=by kernel_rfl
theorem qsu:q2N [.s e0,.i c1]=(.br (ilt c1 (qv e0)) (qOI (inb c1 (qv e0)) (.br (ieq (sat e0 c1) 47) (.leaf (2,[.i c1])) (qOJ [.s e0,.i (qo .i64 c1 1)]))) (.leaf (1,[]))):=by kernel_rfl
theorem qwy:q7H [.s e0]=(let r0:=qf q2N [.s e0,.i 0];qOH r0 (.br (jIs r0 0) (qOJ [.i (-1)]) (qOJ [.i (gI r0 0)]))):=by kernel_rfl
theorem qvV:yp [.s e0]=(let r0:=q7H [.s e0];qOH r0 (.br (ilt (gI r0 0) 0) (qOJ [.s e0,.s [49]]) (qOI (q7O (gI r0 0) (qv e0)) (qOI (q7O 0 (gI r0 0)) (qOI (q7O (qv e0) (qv e0)) (qOI (q7O (qo .i64 (gI r0 0) 1) (qv e0)) (qOJ [.s (qfh e0 0 (gI r0 0)),.s (qfh e0 (qo .i64 (gI r0 0) 1) (qv e0))]))))))):=by kernel_rfl
theorem qg4:uR [.s e0,.i c1,.s e2,.i c3]=(.br (ilt c3 (qv e2)) (qOI (inb c3 (qv e2)) (qOJ [.s e0,.i (qo .i64 (wd .i64 10 c1) (q3C .i64 (wo .u8 (sat e2 c3) 48))),.s e2,.i (qo .i64 c3 1)])) (.leaf (1,[.s e0,.i c1]))):=by kernel_rfl
theorem qvB:yI [.s e0]=(let r0:=qw [.s e0];qOH r0 (let r1:=qf uR [.s e0,.i 0,.s (gS r0 0),.i 0];qOH r1 (let r2:=qy [.s (gS r1 0)];qOH r2 (.br (gB r2 0) (qOJ [.i (wo .i64 0 (gI r1 1))]) (qOJ [.i (gI r1 1)]))))):=by kernel_rfl
theorem qwR:vF [.s e0,.s e1]=(qOH (qw [.s e0]) (.br (ilt 18 (qv (gS (qw [.s e0]) 0))) (qOJ [.i 0,.i 0,.b false]) (qOH (qw [.s e1]) (.br (ilt 18 (qv (gS (qw [.s e1]) 0))) (qOJ [.i 0,.i 0,.b false]) (qOH (yI [.s e0]) (qOH (yI [.s e1]) (qOJ [.i (gI (yI [.s e0]) 0),.i (gI (yI [.s e1]) 0),.b true]))))))):=by kernel_rfl
theorem qtS:q4C [.s e0]=(.br (ilt 1 (qv e0)) (qOI (inb 0 (qv e0)) (.br (ieq (sat e0 0) 48) (qOI (q7O (qv e0) (qv e0)) (qOI (q7O 1 (qv e0)) (qOJ [.s (qfh e0 1 (qv e0))]))) (.leaf (1,[.s e0])))) (.leaf (1,[.s e0]))):=by kernel_rfl
theorem qyQ:yG [.s e0]=(let r0:=qf q4C [.s e0];qOH r0 (qOJ [.s (gS r0 0)])):=by kernel_rfl
theorem qoh:yL [.s e0,.s e1,.i c2,.i c3,.r a4]=(let i0:Int:=(qo .i64 (qo .i64 c2 c3) 1);(.br (ilt c3 (qv e1)) (qOI (inb i0 (qg a4)) (qOI (inb c2 (qv e0)) (qOI (inb c3 (qv e1)) (qOI (inb i0 (qg a4)) (qOJ [.s e0,.s e1,.i c2,.i (qo .i64 c3 1),.r (qcN a4 i0 0 [.i (qo .i64 (cI a4 i0 0) (wd .i64 (q3C .i64 (wo .u8 (sat e0 c2) 48)) (q3C .i64 (wo .u8 (sat e1 c3) 48))))])]))))) (.leaf (1,[.s e0,.s e1,.i c2,.r a4])))):=by kernel_rfl
theorem qoR:yR [.s e0,.s e1,.i c2,.r a3]=(.br (ilt c2 (qv e0)) (let r0:=qf yL [.s e0,.s e1,.i c2,.i 0,.r a3];qOH r0 (qOJ [.s (gS r0 0),.s (gS r0 1),.i (qo .i64 (gI r0 2) 1),.r (gR r0 3)])) (.leaf (1,[.r a3]))):=by kernel_rfl
theorem qnF:jN [.i c0,.i c1,.r a2,.r a3]=(.br (ile 0 c1) (qOI (inb c1 (qg a2)) (qOI (inb c1 (qg a3)) (qOJ [.i (qev .i64 (qo .i64 c0 (cI a2 c1 0)) 10),.i (wo .i64 c1 1),.r a2,.r (qcN a3 c1 0 [.i (q3C .u8 (qo .i64 48 (qdN (qo .i64 c0 (cI a2 c1 0)) 10)))])]))) (.leaf (1,[.r a3]))):=by kernel_rfl
theorem qsD:q2Q [.s e0,.s e1]=(let i0:Int:=(qo .i64 (qv e0) (qv e1));let t0:=qf yR [.s e0,.s e1,.i 0,.r (q4e i0 [.i 0])];let i1:Int:=(qg (gR t0 0));let t1:=qf jN [.i 0,.i (wo .i64 i1 1),.r (gR t0 0),.r (q4e i1 [.i 0])];let t2:=yG [.s (qrw (gR t1 0))];(qOI (ieq i0 i0) (qOI (q7O i0 17592186044416) (qOH t0 (qOI (ieq i1 i1) (qOI (q7O i1 140737488355328) (qOH t1 (qOH t2 (qOJ [.s (gS t2 0)]))))))))):=by kernel_rfl
theorem qwO:wP [.s e0,.s e1]=(let p0:List PV:=[.s e1];let t0:=vF ((.s e0)::p0);let t1:=zH [.i (wd .i64 (gI t0 0) (gI t0 1))];let t2:=q2Q [.s (gS (qw [.s e0]) 0),.s (gS (qw p0) 0)];let t3:=qY [.s (gS t2 0),.b (not (beq (gB (qy [.s e0]) 0) (gB (qy p0) 0)))];let t4:TR:=(qOH (qw [.s e0]) (qOH (qw p0) (qOH t2 (qOH (qy [.s e0]) (qOH (qy p0) (qOH t3 (qOJ [.s (gS t3 0)])))))));(qOH t0 (.br (gB t0 2) (.br (ile (qo .i64 (qv e0) (qv e1)) 18) (qOH t1 (qOJ [.s (gS t1 0)])) t4) t4))):=by kernel_rfl
theorem qsr:zf [.s e0,.s e1]=(let r0:=yp [.s e0];qOH r0 (let r1:=yp [.s e1];qOH r1 (let r2:=wP [.s (gS r0 0),.s (gS r1 1)];qOH r2 (let r3:=wP [.s (gS r1 0),.s (gS r0 1)];qOH r3 (let r4:=wP [.s (gS r0 1),.s (gS r1 1)];qOH r4 (let r5:=wP [.s (gS r0 0),.s (gS r1 0)];qOH r5 (let r6:=wP [.s (gS r0 1),.s (gS r1 0)];qOH r6 (qOJ [.r [[.s (gS r2 0)],[.s (gS r3 0)],[.s (gS r4 0)],[.s (gS r5 0)],[.s (gS r6 0)]]])))))))):=by kernel_rfl
theorem qjy:q1U [.s e0,.i c1,.i c2,.r a3]=(.br (ilt c2 c1) (qOI (inb c2 (qg a3)) (qOJ [.s e0,.i c1,.i (qo .i64 c2 1),.r (qcN a3 c2 0 [.i 48])])) (.leaf (1,[.s e0,.i c1,.r a3]))):=by kernel_rfl
theorem qxV:q6f [.s e0,.i c1]=(let t0:=qf q1U [.s e0,.i c1,.i 0,.r (q4e c1 [.i 0])];let i0:Int:=(qg (gR t0 2));let i1:Int:=(wo .i64 (gI t0 1) (qv (gS t0 0)));(qOI (ieq c1 c1) (qOI (q7O c1 140737488355328) (qOH t0 (qOI (ilt 0 i0) (qOI (q7O i1 i0) (qOI (ile (qv (gS t0 0)) (qC0 i0 i1)) (qOJ [.s (qrw (qBw (gR t0 2) i1 (gS t0 0)))])))))))):=by kernel_rfl
theorem qtJ:q4M [.i c0,.i c1,.i c2,.b d3]=(let i0:Int:=(q3C .i64 (wo .u8 c0 48));let i1:Int:=(q3C .i64 (wo .u8 c1 48));let i2:Int:=(qo .i64 (qo .i64 i0 i1) c2);let i3:Int:=(qo .i64 48 i2);let i4:Int:=(wo .i64 (wo .i64 i0 i1) c2);let i5:Int:=(qo .i64 48 i4);(.br d3 (.br (ilt 9 i2) (qOJ [.i (q3C .u8 (wo .i64 i3 10)),.i 1]) (.br (ilt i2 0) (qOJ [.i (q3C .u8 (qo .i64 i3 10)),.i 1]) (qOJ [.i (q3C .u8 i3),.i 0]))) (.br (ilt 9 i4) (qOJ [.i (q3C .u8 (wo .i64 i5 10)),.i 1]) (.br (ilt i4 0) (qOJ [.i (q3C .u8 (qo .i64 i5 10)),.i 1]) (qOJ [.i (q3C .u8 i5),.i 0]))))):=by kernel_rfl
theorem qsO:q0g [.s e0,.s e1,.b d2,.i c3,.i c4,.r a5]=(.br (ile 0 c4) (qOI (inb c4 (qv e0)) (qOI (inb c4 (qv e1)) (let r0:=q4M [.i (sat e0 c4),.i (sat e1 c4),.i c3,.b d2];qOH r0 (qOI (inb c4 (qg a5)) (qOJ [.s e0,.s e1,.b d2,.i (gI r0 1),.i (wo .i64 c4 1),.r (qcN a5 c4 0 [.i (gI r0 0)])]))))) (.leaf (1,[.r a5]))):=by kernel_rfl
theorem qw7:yv [.s e0,.s e1,.b d2]=(let i0:Int:=(qo .i64 (qzG (qv e0) (qv e1)) 1);let t0:=q6f [.s e0,.i i0];let t1:=q6f [.s e1,.i i0];let t2:=qf q0g [.s (gS t0 0),.s (gS t1 0),.b d2,.i 0,.i (wo .i64 i0 1),.r (q4e i0 [.i 0])];let t3:=yG [.s (qrw (gR t2 0))];(qOH t0 (qOH t1 (qOI (ieq i0 i0) (qOI (q7O i0 140737488355328) (qOH t2 (qOH t3 (qOJ [.s (gS t3 0)])))))))):=by kernel_rfl
theorem qzr:q34 [.s e0,.s e1]=(.br (ilt (qv e0) (qv e1)) (qOJ [.b true]) (.br (ieq (qv e0) (qv e1)) (qOJ [.b (slt e0 e1)]) (qOJ [.b false]))):=by kernel_rfl
theorem qy3:q30 [.s e0,.s e1]=(let r0:=vF [.s e0,.s e1];qOH r0 (.br (gB r0 2) (let r1:=zH [.i (qo .i64 (gI r0 0) (gI r0 1))];qOH r1 (qOJ [.s (gS r1 0)])) (let r1:=qw [.s e0];qOH r1 (let r2:=qw [.s e1];qOH r2 (let r3:=qy [.s e0];qOH r3 (let r4:=qy [.s e1];qOH r4 (.br (beq (gB r3 0) (gB r4 0)) (let r5:=yv [.s (gS r1 0),.s (gS r2 0),.b true];qOH r5 (qOH r3 (let r6:=qY [.s (gS r5 0),.b (gB r3 0)];qOH r6 (qOJ [.s (gS r6 0)])))) (let r5:=q34 [.s (gS r1 0),.s (gS r2 0)];qOH r5 (.br (gB r5 0) (let r6:=yv [.s (gS r2 0),.s (gS r1 0),.b false];qOH r6 (qOH r4 (let r7:=qY [.s (gS r6 0),.b (gB r4 0)];qOH r7 (qOJ [.s (gS r7 0)])))) (let r6:=yv [.s (gS r1 0),.s (gS r2 0),.b false];qOH r6 (qOH r3 (let r7:=qY [.s (gS r6 0),.b (gB r3 0)];qOH r7 (qOJ [.s (gS r7 0)]))))))))))))):=by kernel_rfl
theorem qwj:vN [.s e0,.s e1]=(let r0:=zR [.s e1];qOH r0 (let r1:=q30 [.s e0,.s (gS r0 0)];qOH r1 (qOJ [.s (gS r1 0)]))):=by kernel_rfl
theorem qnl:jK [.s e0,.s e1,.s e2,.s e3,.i c4,.i c5]=(let r0:=q34 [.s e3,.s e1];qOH r0 (.br (not (gB r0 0)) (let r1:=yv [.s e3,.s e1,.b false];qOH r1 (qOJ [.s e0,.s e1,.s e2,.s (gS r1 0),.i c4,.i (qo .u8 c5 1)])) (.leaf (1,[.s e0,.s e1,.s e2,.s e3,.i c4,.i c5])))):=by kernel_rfl
theorem qpx:q0s [.s e0,.s e1,.s e2,.s e3,.i c4]=(.br (ilt c4 (qv e0)) (qOI (q7O (qo .i64 c4 1) (qv e0)) (qOI (q7O c4 (qo .i64 c4 1)) (qOI (ile ((qv e3)+(qv (qfh e0 c4 (qo .i64 c4 1)))) 140737488355328) (let r0:=yG [.s (qgU e3 (qfh e0 c4 (qo .i64 c4 1)))];qOH r0 (let r1:=qf jK [.s e0,.s e1,.s e2,.s (gS r0 0),.i c4,.i 48];qOH r1 (qOI (ile ((qv (gS r1 2))+(qv (qrw [[.i (gI r1 5)]]))) 140737488355328) (qOJ [.s (gS r1 0),.s (gS r1 1),.s (qgU (gS r1 2) (qrw [[.i (gI r1 5)]])),.s (gS r1 3),.i (qo .i64 (gI r1 4) 1)]))))))) (.leaf (1,[.s e2,.s e3]))):=by kernel_rfl
theorem qsj:q2E [.s e0,.s e1]=(let r0:=qf q0s [.s e0,.s e1,.s [],.s [48],.i 0];qOH r0 (let r1:=yG [.s (gS r0 0)];qOH r1 (qOJ [.s (gS r1 0),.s (gS r0 1)]))):=by kernel_rfl
theorem qtZ:vu [.s e0,.s e1]=(let p0:List PV:=[.s e1];let t0:=vF ((.s e0)::p0);let i0:Int:=(gI t0 1);let i1:Int:=(qdN (gI t0 0) i0);let i2:Int:=(qo .i64 i1 i0);let t1:=zH [.i (qev .i64 (wo .i64 (gI t0 0) i2) i0)];let t2:=zH [.i (qev .i64 (wo .i64 (gI t0 0) i1) i0)];let t3:TR:=(qOI (ine i0 0) (qOH t2 (qOH (zH [.i i1]) (qOJ [.s (gS t2 0),.s (gS (zH [.i i1]) 0)]))));let t4:=q2E [.s (gS (qw [.s e0]) 0),.s (gS (qw p0) 0)];let t5:=qy [.s e0];let b0:Bool:=(not (beq (gB t5 0) (gB (qy p0) 0)));let t6:=qY [.s (gS t4 0),.b b0];let t7:=vN [.s (gS t6 0),.s [49]];let t8:=wP ((.s (gS t7 0))::p0);let t9:=vN [.s e0,.s (gS t8 0)];let t10:=wP ((.s (gS t6 0))::p0);let t11:=vN [.s e0,.s (gS t10 0)];let t12:TR:=(qOH t10 (qOH t11 (qOJ [.s (gS t6 0),.s (gS t11 0)])));(qOH t0 (.br (gB t0 2) (qOI (ine i0 0) (.br (ine i1 0) (.br (not (beq (ilt i1 0) (ilt i0 0))) (qOI (ine i0 0) (qOH t1 (qOH (zH [.i i2]) (qOJ [.s (gS t1 0),.s (gS (zH [.i i2]) 0)])))) t3) t3)) (qOH (qw [.s e0]) (qOH (qw p0) (qOH t4 (qOH t5 (qOH (qy p0) (qOH t6 (.br (not (seq (gS t4 1) [48])) (qOH t5 (qOH (qy p0) (.br b0 (qOH t7 (qOH t8 (qOH t9 (qOJ [.s (gS t7 0),.s (gS t9 0)])))) t12))) t12)))))))))):=by kernel_rfl
theorem qpO:yU [.i c0,.i c1]=(.br (ilt 0 c1) (qOI (ine c1 0) (qOJ [.i c1,.i (qdN c0 c1)])) (.leaf (1,[.i c0]))):=by kernel_rfl
theorem qrd:q1B [.s e0,.s e1]=(.br (not (seq e1 [48])) (let r0:=vF [.s e0,.s e1];qOH r0 (.br (gB r0 2) (let r1:=qf yU [.i (gI r0 0),.i (gI r0 1)];qOH r1 (let r2:=zH [.i (gI r1 0)];qOH r2 (.leaf (2,[.s (gS r2 0)])))) (let r1:=vu [.s e0,.s e1];qOH r1 (qOJ [.s e1,.s (gS r1 1)])))) (.leaf (1,[.s e0]))):=by kernel_rfl
theorem qu2:q4q [.s e0,.s e1]=(let r0:=qw [.s e0];qOH r0 (let r1:=qY [.s (gS r0 0),.b false];qOH r1 (let r2:=qw [.s e1];qOH r2 (let r3:=qY [.s (gS r2 0),.b false];qOH r3 (let r4:=qf q1B [.s (gS r1 0),.s (gS r3 0)];qOH r4 (.br (jIs r4 0) (qOJ [.s (gS r4 0)]) (qOJ [.s (gS r4 0)]))))))):=by kernel_rfl
theorem qtU:wJ [.s e0,.s e1]=(let r0:=q4q [.s e0,.s e1];qOH r0 (let r1:=qy [.s e1];qOH r1 (.br (gB r1 0) (let r2:=zR [.s (gS r0 0)];qOH r2 (let r3:=vu [.s e0,.s (gS r2 0)];qOH r3 (let r4:=vu [.s e1,.s (gS r2 0)];qOH r4 (.br (seq (gS r4 0) [49]) (qOJ [.s (gS r3 0)]) (qOI (ile ((qv (gS r3 0))+(qv [47])) 140737488355328) (qOI (ile ((qv (qgU (gS r3 0) [47]))+(qv (gS r4 0))) 140737488355328) (qOJ [.s (qgU (qgU (gS r3 0) [47]) (gS r4 0))]))))))) (let r2:=vu [.s e0,.s (gS r0 0)];qOH r2 (let r3:=vu [.s e1,.s (gS r0 0)];qOH r3 (.br (seq (gS r3 0) [49]) (qOJ [.s (gS r2 0)]) (qOI (ile ((qv (gS r2 0))+(qv [47])) 140737488355328) (qOI (ile ((qv (qgU (gS r2 0) [47]))+(qv (gS r3 0))) 140737488355328) (qOJ [.s (qgU (qgU (gS r2 0) [47]) (gS r3 0))]))))))))):=by kernel_rfl
theorem qwl:za [.s e0,.s e1]=(let r0:=zf [.s e0,.s e1];qOH r0 (qOI (inb 3 (qg (gR r0 0))) (qOI (inb 2 (qg (gR r0 0))) (let r1:=wJ [.s (cS (gR r0 0) 3 0),.s (cS (gR r0 0) 2 0)];qOH r1 (qOJ [.s (gS r1 0)]))))):=by kernel_rfl
theorem qwS:vG [.s e0,.s e1]=(let r0:=zf [.s e0,.s e1];qOH r0 (qOI (inb 0 (qg (gR r0 0))) (qOI (inb 1 (qg (gR r0 0))) (let r1:=vN [.s (cS (gR r0 0) 0 0),.s (cS (gR r0 0) 1 0)];qOH r1 (qOI (inb 2 (qg (gR r0 0))) (let r2:=wJ [.s (gS r1 0),.s (cS (gR r0 0) 2 0)];qOH r2 (qOJ [.s (gS r2 0)]))))))):=by kernel_rfl
theorem q7p:jk [.r a0,.i c1,.i c2,.r a3]=(.br (ilt c2 (qg a0)) (qOI (inb c2 (qg a0)) (qOI (inb c1 (qg (cR a0 c2 0))) (.br (not (seq (cS (cR a0 c2 0) c1 0) [48])) (qOI (inb c2 (qg a0)) (qOI (inb c1 (qg a0)) (qOI (inb c1 (qg a3)) (qOI (inb c2 (qg (qcN a3 c1 0 [.l (cR a0 c2 0)]))) (.leaf (2,[.b true,.r (qcN (qcN a3 c1 0 [.l (cR a0 c2 0)]) c2 0 [.l (cR a0 c1 0)])])))))) (qOJ [.r a0,.i c1,.i (qo .i64 c2 1),.r a3])))) (.leaf (1,[]))):=by kernel_rfl
theorem qsw:q2O [.r a0,.i c1]=(qOI (ile ((qg [])+(qg a0)) 5864062014805) (let r0:=qf jk [.r a0,.i c1,.i c1,.r (zE [] a0)];qOH r0 (.br (jIs r0 0) (qOJ [.r [],.b false]) (qOJ [.r (gR r0 1),.b (gB r0 0)])))):=by kernel_rfl
theorem qD1:qgu [.s e0,.s e1]=(let r0:=zf [.s e0,.s e1];qOH r0 (qOI (inb 0 (qg (gR r0 0))) (qOI (inb 4 (qg (gR r0 0))) (let r1:=wJ [.s (cS (gR r0 0) 0 0),.s (cS (gR r0 0) 4 0)];qOH r1 (qOJ [.s (gS r1 0)]))))):=by kernel_rfl
theorem qzo:zP [.s e0,.s e1]=(let r0:=zf [.s e0,.s e1];qOH r0 (qOI (inb 0 (qg (gR r0 0))) (qOI (inb 1 (qg (gR r0 0))) (let r1:=q30 [.s (cS (gR r0 0) 0 0),.s (cS (gR r0 0) 1 0)];qOH r1 (qOI (inb 2 (qg (gR r0 0))) (let r2:=wJ [.s (gS r1 0),.s (cS (gR r0 0) 2 0)];qOH r2 (qOJ [.s (gS r2 0)]))))))):=by kernel_rfl
theorem qii:q0t [.r a0,.s e1,.i c2]=(.br (ilt c2 (qg a0)) (qOI (inb c2 (qg a0)) (let r0:=zP [.s e1,.s (cS a0 c2 0)];qOH r0 (qOJ [.r a0,.s (gS r0 0),.i (qo .i64 c2 1)]))) (.leaf (1,[.s e1]))):=by kernel_rfl
theorem qw3:q3w [.r a0]=(let r0:=qf q0t [.r a0,.s [48],.i 0];qOH r0 (qOJ [.s (gS r0 0)])):=by kernel_rfl
theorem qcE:jO [.r a0,.i c1,.i c2,.r a3,.i c4,.i c5,.i c6,.r a7]=(.br (ilt c2 (qg a0)) (qOI (inb c2 (qg a0)) (qOI (inb 0 (qg a0)) (let r0:=q0R [.i (cI a0 c2 0),.i (cI a0 c2 1),.i (cI a0 c2 2),.i (cI a0 0 0),.i (cI a0 0 1),.i (cI a0 0 2)];qOH r0 (let r1:=zh [.i c4,.i c5,.i c6,.i (gI r0 0),.i (gI r0 1),.i (gI r0 2)];qOH r1 (let r2:=zq [.i (wd .i64 2 (gI r1 0))];qOH r2 (qOI (ile ((qg a7)+(qg [[.s (gS r2 0)]])) 8796093022208) (qOJ [.r a0,.i c1,.i (qo .i64 c2 1),.r a3,.i c4,.i c5,.i c6,.r (zE a7 [[.s (gS r2 0)]])]))))))) (.leaf (1,[.r a0,.i c1,.r a3,.i c4,.i c5,.i c6,.r a7]))):=by kernel_rfl
theorem qe5:yP [.r a0,.i c1,.r a2]=(.br (ilt c1 (qg a0)) (qOI (inb c1 (qg a0)) (qOI (inb 0 (qg a0)) (let r0:=q0R [.i (cI a0 c1 0),.i (cI a0 c1 1),.i (cI a0 c1 2),.i (cI a0 0 0),.i (cI a0 0 1),.i (cI a0 0 2)];qOH r0 (let r1:=qf jO [.r a0,.i c1,.i 1,.r a2,.i (gI r0 0),.i (gI r0 1),.i (gI r0 2),.r []];qOH r1 (let r2:=zh [.i (gI r1 3),.i (gI r1 4),.i (gI r1 5),.i (gI r1 3),.i (gI r1 4),.i (gI r1 5)];qOH r2 (let r3:=zq [.i (gI r2 0)];qOH r3 (qOI (ile ((qg (gR r1 6))+(qg [[.s (gS r3 0)]])) 8796093022208) (qOI (ile ((qg (gR r1 2))+(qg [[.l (zE (gR r1 6) [[.s (gS r3 0)]])]])) 5864062014805) (qOJ [.r (gR r1 0),.i (qo .i64 (gI r1 1) 1),.r (zE (gR r1 2) [[.l (zE (gR r1 6) [[.s (gS r3 0)]])]])]))))))))) (.leaf (1,[.r a2]))):=by kernel_rfl
theorem q7j:zB [.i c0,.r a1,.i c2,.i c3,.r a4,.r a5]=(qOI (inb c2 (qg a1)) (.br (ilt c3 (qg (cR a1 c2 0))) (qOI (inb c0 (qg a1)) (qOI (inb c3 (qg (cR a1 c0 0))) (qOI (inb c0 (qg a1)) (qOI (inb c0 (qg (cR a1 c0 0))) (let r0:=qgu [.s (cS (cR a1 c0 0) c3 0),.s (cS (cR a1 c0 0) c0 0)];qOH r0 (.br (ine c2 c0) (qOI (inb c2 (qg a1)) (qOI (inb c3 (qg (cR a1 c2 0))) (qOI (inb c2 (qg a1)) (qOI (inb c0 (qg (cR a1 c2 0))) (let r1:=za [.s (cS (cR a1 c2 0) c0 0),.s (gS r0 0)];qOH r1 (let r2:=vG [.s (cS (cR a1 c2 0) c3 0),.s (gS r1 0)];qOH r2 (qOI (ile ((qg a5)+(qg [[.s (gS r2 0)]])) 8796093022208) (qOJ [.i c0,.r a1,.i c2,.i (qo .i64 c3 1),.r a4,.r (zE a5 [[.s (gS r2 0)]])])))))))) (qOI (ile ((qg a5)+(qg [[.s (gS r0 0)]])) 8796093022208) (qOJ [.i c0,.r a1,.i c2,.i (qo .i64 c3 1),.r a4,.r (zE a5 [[.s (gS r0 0)]])])))))))) (.leaf (1,[.i c0,.r a1,.i c2,.r a4,.r a5])))):=by kernel_rfl
theorem q76:wA [.i c0,.r a1,.i c2,.r a3]=(.br (ilt c2 (qg a1)) (let r0:=qf zB [.i c0,.r a1,.i c2,.i 0,.r a3,.r []];qOH r0 (qOI (ile ((qg (gR r0 3))+(qg [[.l (gR r0 4)]])) 5864062014805) (qOJ [.i (gI r0 0),.r (gR r0 1),.i (qo .i64 (gI r0 2) 1),.r (zE (gR r0 3) [[.l (gR r0 4)]])]))) (.leaf (1,[.i c0,.r a3]))):=by kernel_rfl
theorem qj3:zN [.i c0,.r a1]=(.br (ilt c0 (qg a1)) (let r0:=q2O [.r a1,.i c0];qOH r0 (.br (not (gB r0 1)) (.leaf (2,[.b false])) (let r1:=qf wA [.i c0,.r (gR r0 0),.i 0,.r []];qOH r1 (qOJ [.i (qo .i64 (gI r1 0) 1),.r (gR r1 1)])))) (.leaf (1,[.r a1]))):=by kernel_rfl
theorem q6N:wz [.i c0,.r a1,.r a2]=(.br (ilt c0 (qg a1)) (qOI (inb c0 (qg a1)) (qOI (inb (qg a1) (qg (cR a1 c0 0))) (qOI (ile ((qg a2)+(qg [[.s (cS (cR a1 c0 0) (qg a1) 0)]])) 8796093022208) (qOJ [.i (qo .i64 c0 1),.r a1,.r (zE a2 [[.s (cS (cR a1 c0 0) (qg a1) 0)]])])))) (.leaf (1,[.r a2]))):=by kernel_rfl
theorem qiN:vE [.r a0]=(let r0:=qf yP [.r a0,.i 1,.r []];qOH r0 (let r1:=qf zN [.i 0,.r (gR r0 0)];qOH r1 (.br (jIs r1 0) (let r2:=qf wz [.i 0,.r (gR r1 0),.r []];qOH r2 (let r3:=q3w [.r (gR r2 0)];qOH r3 (let r4:=vG [.s [49],.s (gS r3 0)];qOH r4 (qOI (ile ((qg [[.s (gS r4 0)]])+(qg (gR r2 0))) 8796093022208) (qOJ [.r (zE [[.s (gS r4 0)]] (gR r2 0)),.b true]))))) (.br (not (gB r1 0)) (qOJ [.r [],.b false]) (let r2:=q3w [.r []];qOH r2 (let r3:=vG [.s [49],.s (gS r2 0)];qOH r3 .fail)))))):=by kernel_rfl
theorem qg5:ka [.r a0,.r a1,.i c2,.i c3,.i c4,.i c5,.i c6,.s e7,.s e8,.s e9,.s e10,.s e11,.s e12]=(.br (ilt c6 3) (qOI (inb c6 3) (.br (ieq c6 2) (qOI (inb c2 (qg a1)) (let r0:=zq [.i (qqf [c3,c4,c5] c6)];qOH r0 (let r1:=za [.s (cS a1 c2 0),.s (gS r0 0)];qOH r1 (let r2:=zP [.s e12,.s (gS r1 0)];qOH r2 (.br (ieq c6 2) (qOJ [.r a0,.r a1,.i c2,.i c3,.i c4,.i c5,.i (qo .i64 c6 1),.s e7,.s e8,.s e9,.s e10,.s e11,.s (gS r2 0)]) (.br (ieq c6 1) (qOJ [.r a0,.r a1,.i c2,.i c3,.i c4,.i c5,.i (qo .i64 c6 1),.s e7,.s e8,.s e9,.s e10,.s (gS r2 0),.s e12]) (qOI (ieq c6 0) (qOJ [.r a0,.r a1,.i c2,.i c3,.i c4,.i c5,.i (qo .i64 c6 1),.s e7,.s e8,.s e9,.s (gS r2 0),.s e11,.s e12])))))))) (.br (ieq c6 1) (qOI (inb c2 (qg a1)) (let r0:=zq [.i (qqf [c3,c4,c5] c6)];qOH r0 (let r1:=za [.s (cS a1 c2 0),.s (gS r0 0)];qOH r1 (let r2:=zP [.s e11,.s (gS r1 0)];qOH r2 (.br (ieq c6 2) (qOJ [.r a0,.r a1,.i c2,.i c3,.i c4,.i c5,.i (qo .i64 c6 1),.s e7,.s e8,.s e9,.s e10,.s e11,.s (gS r2 0)]) (.br (ieq c6 1) (qOJ [.r a0,.r a1,.i c2,.i c3,.i c4,.i c5,.i (qo .i64 c6 1),.s e7,.s e8,.s e9,.s e10,.s (gS r2 0),.s e12]) (qOI (ieq c6 0) (qOJ [.r a0,.r a1,.i c2,.i c3,.i c4,.i c5,.i (qo .i64 c6 1),.s e7,.s e8,.s e9,.s (gS r2 0),.s e11,.s e12])))))))) (qOI (ieq c6 0) (qOI (inb c2 (qg a1)) (let r0:=zq [.i (qqf [c3,c4,c5] c6)];qOH r0 (let r1:=za [.s (cS a1 c2 0),.s (gS r0 0)];qOH r1 (let r2:=zP [.s e10,.s (gS r1 0)];qOH r2 (.br (ieq c6 2) (qOJ [.r a0,.r a1,.i c2,.i c3,.i c4,.i c5,.i (qo .i64 c6 1),.s e7,.s e8,.s e9,.s e10,.s e11,.s (gS r2 0)]) (.br (ieq c6 1) (qOJ [.r a0,.r a1,.i c2,.i c3,.i c4,.i c5,.i (qo .i64 c6 1),.s e7,.s e8,.s e9,.s e10,.s (gS r2 0),.s e12]) (qOI (ieq c6 0) (qOJ [.r a0,.r a1,.i c2,.i c3,.i c4,.i c5,.i (qo .i64 c6 1),.s e7,.s e8,.s e9,.s (gS r2 0),.s e11,.s e12])))))))))))) (.leaf (1,[.r a0,.r a1,.i c2,.s e7,.s e8,.s e9,.s e10,.s e11,.s e12]))):=by kernel_rfl
theorem qgQ:uY [.r a0,.r a1,.i c2,.s e3,.s e4,.s e5,.s e6,.s e7,.s e8]=(.br (ilt c2 (qg a0)) (qOI (inb c2 (qg a0)) (qOI (inb c2 (qg a0)) (qOI (inb c2 (qg a0)) (let r0:=qf ka [.r a0,.r a1,.i c2,.i (cI a0 c2 0),.i (cI a0 c2 1),.i (cI a0 c2 2),.i 0,.s e3,.s e4,.s e5,.s e6,.s e7,.s e8];qOH r0 (qOJ [.r (gR r0 0),.r (gR r0 1),.i (qo .i64 (gI r0 2) 1),.s (gS r0 3),.s (gS r0 4),.s (gS r0 5),.s (gS r0 6),.s (gS r0 7),.s (gS r0 8)]))))) (.leaf (1,[.s e3,.s e4,.s e5,.s e6,.s e7,.s e8]))):=by kernel_rfl
theorem quI:q4L [.r a0,.r a1]=(let r0:=qf uY [.r a0,.r a1,.i 0,.s [],.s [],.s [],.s [48],.s [48],.s [48]];qOH r0 (qOJ [.s (gS r0 3),.s (gS r0 4),.s (gS r0 5)])):=by kernel_rfl
theorem qkF:q1Q [.s e0,.i c1,.i c2,.i c3,.i c4,.s e5,.s e6,.s e7]=(let t0:=zq [.i (qqf [c1,c2,c3] c4)];let p0:List PV:=[.s (gS t0 0)];let t1:=vG ((.s e7)::p0);let t2:=za [.s (gS t1 0),.s (gS t1 0)];let t3:=zP [.s e0,.s (gS t2 0)];let p1:List PV:=[.i c1,.i c2,.i c3,.i (qo .i64 c4 1),.s e5,.s e6,.s e7];let t4:=vG ((.s e6)::p0);let t5:=za [.s (gS t4 0),.s (gS t4 0)];let t6:=zP [.s e0,.s (gS t5 0)];let t7:=vG ((.s e5)::p0);let t8:=za [.s (gS t7 0),.s (gS t7 0)];let t9:=zP [.s e0,.s (gS t8 0)];(.br (ilt c4 3) (qOI (inb c4 3) (.br (ieq c4 2) (qOH t0 (qOH t1 (qOH t2 (qOH t3 (qOJ ((.s (gS t3 0))::p1)))))) (.br (ieq c4 1) (qOH t0 (qOH t4 (qOH t5 (qOH t6 (qOJ ((.s (gS t6 0))::p1)))))) (qOI (ieq c4 0) (qOH t0 (qOH t7 (qOH t8 (qOH t9 (qOJ ((.s (gS t9 0))::p1)))))))))) (.leaf (1,[.s e0])))):=by kernel_rfl
theorem qy8:yJ [.s e0,.s e1,.s e2,.i c3,.i c4,.i c5]=(let r0:=qf q1Q [.s [48],.i c3,.i c4,.i c5,.i 0,.s e0,.s e1,.s e2];qOH r0 (qOJ [.s (gS r0 0)])):=by kernel_rfl
theorem qq2:ku [.r a0]=(let r0:=vE [.r a0];qOH r0 (.br (not (gB r0 1)) (qOJ [.s [],.s [],.s [],.s [],.b false]) (let r1:=q4L [.r a0,.r (gR r0 0)];qOH r1 (qOI (inb 0 (qg a0)) (let r2:=yJ [.s (gS r1 0),.s (gS r1 1),.s (gS r1 2),.i (cI a0 0 0),.i (cI a0 0 1),.i (cI a0 0 2)];qOH r2 (qOJ [.s (gS r1 0),.s (gS r1 1),.s (gS r1 2),.s (gS r2 0),.b true])))))):=by kernel_rfl
theorem qg3:uP [.r a0,.r a1,.i c2,.r a3]=(.br (ilt c2 (qg a1)) (qOI (inb c2 (qg a1)) (qOI (inb (cI a1 c2 0) (qg a0)) (qOI (ile ((qg a3)+(qg [[.i (cI a0 (cI a1 c2 0) 0),.i (cI a0 (cI a1 c2 0) 1),.i (cI a0 (cI a1 c2 0) 2)]])) 5864062014805) (qOJ [.r a0,.r a1,.i (qo .i64 c2 1),.r (zE a3 [[.i (cI a0 (cI a1 c2 0) 0),.i (cI a0 (cI a1 c2 0) 1),.i (cI a0 (cI a1 c2 0) 2)]])])))) (.leaf (1,[.r a3]))):=by kernel_rfl
theorem qvf:q00 [.r a0,.r a1]=(let r0:=qf uP [.r a0,.r a1,.i 0,.r []];qOH r0 (qOJ [.r (gR r0 0)])):=by kernel_rfl
theorem qvS:q14 [.s e0,.s e1]=(let r0:=vN [.s e0,.s e1];qOH r0 (.br (seq (gS r0 0) [48]) (qOJ [.i 0]) (let r1:=qy [.s (gS r0 0)];qOH r1 (.br (gB r1 0) (qOJ [.i (-1)]) (qOJ [.i 1]))))):=by kernel_rfl
theorem qv8:kG [.s e0]=(let r0:=yp [.s e0];qOH r0 (let r1:=q14 [.s (gS r0 0),.s [48]];qOH r1 (qOJ [.i (gI r1 0)]))):=by kernel_rfl
theorem qgS:uQ [.r a0,.b d1,.i c2]=(.br (ilt c2 (qg a0)) (.br d1 (qOI (inb c2 (qg a0)) (qOH (kG [.s (cS a0 c2 0)]) (qOJ [.r a0,.b (ile 0 (gI (kG [.s (cS a0 c2 0)]) 0)),.i (qo .i64 c2 1)]))) (qOJ [.r a0,.b false,.i (qo .i64 c2 1)])) (.leaf (1,[.b d1]))):=by kernel_rfl
theorem quK:q4W [.r a0]=(let r0:=vE [.r a0];qOH r0 (let r1:=qf uQ [.r (gR r0 0),.b (gB r0 1),.i 0];qOH r1 (qOJ [.b (gB r1 0)]))):=by kernel_rfl
theorem qvN:yx [.s e0,.s e1]=(let r0:=zf [.s e0,.s e1];qOH r0 (qOI (inb 0 (qg (gR r0 0))) (qOI (inb 1 (qg (gR r0 0))) (let r1:=q14 [.s (cS (gR r0 0) 0 0),.s (cS (gR r0 0) 1 0)];qOH r1 (qOJ [.i (gI r1 0)]))))):=by kernel_rfl
theorem q5T:vJ [.r a0,.s e1,.i c2,.s e3,.s e4,.s e5]=(.br (ilt c2 (qg a0)) (qOI (inb c2 (qg a0)) (let r0:=yJ [.s e3,.s e4,.s e5,.i (cI a0 c2 0),.i (cI a0 c2 1),.i (cI a0 c2 2)];qOH r0 (let r1:=yx [.s (gS r0 0),.s e1];qOH r1 (.br (ilt 0 (gI r1 0)) (.leaf (2,[.b false])) (qOJ [.r a0,.s e1,.i (qo .i64 c2 1),.s e3,.s e4,.s e5]))))) (.leaf (1,[]))):=by kernel_rfl
theorem qqU:q1A [.r a0,.s e1,.s e2,.s e3,.s e4]=(let r0:=qf vJ [.r a0,.s e4,.i 0,.s e1,.s e2,.s e3];qOH r0 (.br (jIs r0 0) (qOJ [.b true]) (qOJ [.b (gB r0 0)]))):=by kernel_rfl
theorem qgo:q1D [.r a0,.r a1]=(let r0:=q00 [.r a0,.r a1];qOH r0 (let r1:=ku [.r (gR r0 0)];qOH r1 (.br (gB r1 4) (let r2:=q4W [.r (gR r0 0)];qOH r2 (.br (gB r2 0) (let r3:=q1A [.r a0,.s (gS r1 0),.s (gS r1 1),.s (gS r1 2),.s (gS r1 3)];qOH r3 (qOJ [.b (gB r3 0)])) (qOJ [.b false]))) (qOJ [.b false])))):=by kernel_rfl
theorem q9V:q0I [.r a0,.i c1,.i c2,.r a3,.i c4,.i c5]=(.br (ilt c5 c4) (qOI (inb c5 (qg a3)) (let r0:=q1D [.r a0,.r (cR a3 c5 0)];qOH r0 (.br (gB r0 0) (.leaf (2,[.r (cR a3 c5 0)])) (qOJ [.r a0,.i c1,.i c2,.r a3,.i c4,.i (qo .i64 c5 1)])))) (.leaf (1,[.r a0,.i c1,.i c2]))):=by kernel_rfl
theorem qaq:q0F [.r a0,.i c1,.i c2]=(.br (ile c2 c1) (let r0:=q6J [.i (qg a0),.i c2];qOH r0 (let r1:=qf q0I [.r a0,.i c1,.i c2,.r (gR r0 0),.i (qg (gR r0 0)),.i 0];qOH r1 (.br (jIs r1 0) (qOJ [.r (gR r1 0),.i (gI r1 1),.i (qo .i64 (gI r1 2) 1)]) (.leaf (2,[.r (gR r1 0)]))))) (.leaf (1,[]))):=by kernel_rfl
theorem qwk:q3M [.r a0,.i c1]=(let r0:=qf q0F [.r a0,.i c1,.i 1];qOH r0 (.br (jIs r0 0) (qOJ [.r []]) (qOJ [.r (gR r0 0)]))):=by kernel_rfl
theorem qg9:uT [.r a0,.i c1,.r a2]=(.br (ilt c1 (qg a0)) (qOI (inb c1 (qg a0)) (qOI (inb c1 (qg a0)) (qOI (ile ((qg a2)+(qg [[.i (cI a0 c1 0),.i (cI a0 c1 1),.i 0]])) 5864062014805) (qOJ [.r a0,.i (qo .i64 c1 1),.r (zE a2 [[.i (cI a0 c1 0),.i (cI a0 c1 1),.i 0]])])))) (.leaf (1,[.r a2]))):=by kernel_rfl
theorem quT:q4Q [.r a0]=(let r0:=qf uT [.r a0,.i 0,.r []];qOH r0 (qOJ [.r (gR r0 0)])):=by kernel_rfl
theorem qkf:q1Y [.r a0]=(let r0:=q9y [.r a0];qOH r0 (.br (ine (gI r0 0) 0) (qOJ [.s [],.s [],.s [],.r [],.i (gI r0 0)]) (let r1:=q4Q [.r a0];qOH r1 (let r2:=q3M [.r (gR r1 0),.i 3];qOH r2 (qOH r1 (let r3:=q00 [.r (gR r1 0),.r (gR r2 0)];qOH r3 (let r4:=ku [.r (gR r3 0)];qOH r4 (qOJ [.s (gS r4 0),.s (gS r4 1),.s (gS r4 3),.r (gR r2 0),.i 0])))))))):=by kernel_rfl
theorem qeD:q2T [.r a0,.i c1]=(let r0:=q18 [.r a0];qOH r0 (.br (ine (gI r0 0) 0) (qOJ [.b false,.i (gI r0 0)]) (.br (ieq (qg a0) 0) (qOJ [.b false,.i 13]) (.br (ilt c1 0) (qOJ [.b false,.i 2]) (.br (ilt 100000 c1) (qOJ [.b false,.i 2]) (let r1:=q1Y [.r a0];qOH r1 (let r2:=za [.s [52],.s (gS r1 2)];qOH r2 (let r3:=zq [.i (wd .i64 c1 c1)];qOH r3 (let r4:=yx [.s (gS r2 0),.s (gS r3 0)];qOH r4 (qOJ [.b (ile (gI r4 0) 0),.i 0])))))))))):=by kernel_rfl
theorem qrz:q1y [.r a0,.i c1]=(let r0:=qdn [.r a0];qOH r0 (.br (not (gB r0 0)) (let r1:=yo [];qOH r1 (qOJ [.b (gB r1 0)])) (let r1:=jH [.r a0,.i c1];qOH r1 (let r2:=q2T [.r a0,.i c1];qOH r2 (let r3:=yo [];qOH r3 (.br (gB r3 0) (.br (beq (gB r1 0) (gB r2 0)) (qOJ [.b (ieq (gI r1 1) (gI r2 1))]) (qOJ [.b false])) (qOJ [.b false]))))))):=by kernel_rfl
theorem qAD:qcM [.r a0]=(.br (ile (qg a0) 10) (qOJ [.b true]) (.br (ilt 64 (qg a0)) (qOJ [.b (ilt (qg a0) 128)]) (qOJ [.b false]))):=by kernel_rfl
theorem qlV:q3z [.r a0,.i c1,.i c2,.r a3]=(.br (ilt c2 c1) (qOI (inb c2 (qg a0)) (qOI (ile ((qg a3)+(qg [[.i (cI a0 c2 0),.i (cI a0 c2 1),.i (cI a0 c2 2),.i (cI a0 c2 3),.i (cI a0 c2 4),.i (cI a0 c2 5)]])) 2932031007402) (qOJ [.r a0,.i c1,.i (qo .i64 c2 1),.r (zE a3 [[.i (cI a0 c2 0),.i (cI a0 c2 1),.i (cI a0 c2 2),.i (cI a0 c2 3),.i (cI a0 c2 4),.i (cI a0 c2 5)]])]))) (.leaf (1,[.r a3]))):=by kernel_rfl
theorem qA8:qd5 [.r a0]=(let r0:=qf q3z [.r a0,.i (qg a0),.i 0,.r []];qOH r0 (qOJ [.r (gR r0 0)])):=by kernel_rfl
theorem qiC:yZ [.r a0,.i c1]=(.br (ilt c1 (qg a0)) (qOI (inb c1 (qg a0)) (let r0:=jb [.i (cI a0 c1 0),.i (cI a0 c1 1),.i (cI a0 c1 2)];qOH r0 (.br (not (gB r0 0)) (.leaf (2,[.i 2])) (qOI (inb c1 (qg a0)) (let r1:=jb [.i (cI a0 c1 3),.i (cI a0 c1 4),.i (cI a0 c1 5)];qOH r1 (.br (not (gB r1 0)) (.leaf (2,[.i 2])) (qOJ [.r a0,.i (qo .i64 c1 1)]))))))) (.leaf (1,[]))):=by kernel_rfl
theorem qvQ:q3E [.r a0]=(.br (ilt 64 (qg a0)) (qOJ [.i 5]) (let r0:=qf yZ [.r a0,.i 0];qOH r0 (.br (jIs r0 0) (qOJ [.i 0]) (qOJ [.i (gI r0 0)])))):=by kernel_rfl
theorem qqQ:uW [.i c0,.i c1,.i c2,.i c3,.i c4,.i c5]=(let r0:=q0R [.i c0,.i c1,.i c2,.i c3,.i c4,.i c5];qOH r0 (qOH r0 (let r1:=zh [.i (gI r0 0),.i (gI r0 1),.i (gI r0 2),.i (gI r0 0),.i (gI r0 1),.i (gI r0 2)];qOH r1 (qOJ [.i (gI r1 0)])))):=by kernel_rfl
theorem qgL:k9 [.r a0,.i c1,.r a2]=(.br (ilt c1 (qg a0)) (qOI (inb c1 (qg a0)) (qOI (inb c1 (qg a0)) (let r0:=uW [.i (cI a0 c1 0),.i (cI a0 c1 1),.i (cI a0 c1 2),.i (cI a0 c1 3),.i (cI a0 c1 4),.i (cI a0 c1 5)];qOH r0 (qOI (ile ((qg a2)+(qg [[.i (gI r0 0)]])) 17592186044416) (qOJ [.r a0,.i (qo .i64 c1 1),.r (zE a2 [[.i (gI r0 0)]])]))))) (.leaf (1,[.r a2]))):=by kernel_rfl
theorem qvd:wE [.r a0]=(let r0:=q3E [.r a0];qOH r0 (.br (ine (gI r0 0) 0) (qOJ [.r [],.i (gI r0 0)]) (let r1:=qf k9 [.r a0,.i 0,.r []];qOH r1 (qOJ [.r (gR r1 0),.i 0])))):=by kernel_rfl
theorem q2s:wV [.i c0]=(qOJ [.i c0]):=by kernel_rfl
theorem q7R:vg [.r a0,.r a1,.i c2,.i c3,.i c4,.i c5,.i c6,.i c7]=(let t0:=wV [.i (cI a1 c3 0)];let t1:=wV [.i (cI a0 c6 0)];let t2:=wV [.i (cI a0 c7 0)];let b0:Bool:=(ilt (gI t2 0) (gI t0 0));let i0:Int:=(qo .i64 c3 1);let p0:List PV:=[.i c4,.i c5,.i c6,.i c7];(.br (ilt c3 c2) (qOI (inb c3 (qg a1)) (qOH t0 (qOI (inb c6 (qg a0)) (qOH t1 (.br (ilt (gI t0 0) (gI t1 0)) (qOH t0 (qOI (inb c7 (qg a0)) (qOH t2 (.br b0 (qOJ [.r a0,.r a1,.i c2,.i i0,.i c4,.i c5,.i c3,.i c3]) (qOJ [.r a0,.r a1,.i c2,.i i0,.i c4,.i c5,.i c3,.i c7]))))) (qOH t0 (qOI (inb c7 (qg a0)) (qOH t2 (.br b0 (qOJ [.r a0,.r a1,.i c2,.i i0,.i c4,.i c5,.i c6,.i c3]) (qOJ ((.r a0)::(.r a1)::(.i c2)::(.i i0)::p0))))))))))) (.leaf (1,p0)))):=by kernel_rfl
theorem qlI:yX [.r a0]=(let r0:=qf vg [.r a0,.r a0,.i (qg a0),.i 0,.i 0,.i 0,.i 0,.i 0];qOH r0 (qOJ [.i (gI r0 2),.i (gI r0 3)])):=by kernel_rfl
theorem q9P:q32 [.r a0]=(let r0:=vQ [.r a0];qOH r0 (.br (ine (gI r0 1) 0) (qOJ [.i 0,.i 0,.i (gI r0 1)]) (.br (ieq (qg (gR r0 0)) 0) (qOJ [.i 0,.i 0,.i 13]) (let r1:=yX [.r (gR r0 0)];qOH r1 (qOJ [.i (gI r1 0),.i (gI r1 1),.i 0]))))):=by kernel_rfl
theorem qaR:je [.r a0,.i c1,.i c2,.i c3]=(.br (ilt c3 (qg a0)) (qOI (inb c3 (qg a0)) (qOI (inb c1 (qg a0)) (.br (ilt (cI a0 c3 0) (cI a0 c1 0)) (qOI (inb c3 (qg a0)) (qOI (inb c2 (qg a0)) (.br (ilt (cI a0 c2 0) (cI a0 c3 0)) (qOJ [.r a0,.i c3,.i c3,.i (qo .i64 c3 1)]) (qOJ [.r a0,.i c3,.i c2,.i (qo .i64 c3 1)])))) (qOI (inb c3 (qg a0)) (qOI (inb c2 (qg a0)) (.br (ilt (cI a0 c2 0) (cI a0 c3 0)) (qOJ [.r a0,.i c1,.i c3,.i (qo .i64 c3 1)]) (qOJ [.r a0,.i c1,.i c2,.i (qo .i64 c3 1)]))))))) (.leaf (1,[.i c1,.i c2]))):=by kernel_rfl
theorem q0M:jV [.r a0]=(let r0:=wE [.r a0];qOH r0 (.br (ine (gI r0 1) 0) (qOJ [.i 0,.i 0,.i (gI r0 1)]) (.br (ieq (qg a0) 0) (qOJ [.i 0,.i 0,.i 13]) (let r1:=qf je [.r (gR r0 0),.i 0,.i 0,.i 1];qOH r1 (qOJ [.i (gI r1 0),.i (gI r1 1),.i 0]))))):=by kernel_rfl
theorem qCu:q6b [.i c0]=(.br (ile (-100000) c0) (qOJ [.b (ile c0 100000)]) (qOJ [.b false])):=by kernel_rfl
theorem qwQ:q7M [.i c0,.i c1]=(qOH (q6b [.i c0]) (.br (not (gB (q6b [.i c0]) 0)) (qOJ [.i 2]) (qOH (q6b [.i c1]) (.br (not (gB (q6b [.i c1]) 0)) (qOJ [.i 2]) (.br (ilt c1 c0) (qOJ [.i 9]) (qOJ [.i 0])))))):=by kernel_rfl
theorem qyO:q5W [.i c0,.i c1]=(let r0:=q7M [.i c0,.i c1];qOH r0 (.br (ine (gI r0 0) 0) (qOJ [.i (gI r0 0)]) (.br (ilt c0 0) (qOJ [.i 2]) (qOJ [.i 0])))):=by kernel_rfl
theorem q8M:uS [.r a0,.r a1,.i c2,.i c3,.i c4]=(.br (ilt c2 (qg a1)) (qOI (inb c2 (qg a1)) (.br (ilt (cI a1 c2 0) (wd .i64 c3 c3)) (.leaf (2,[.b false,.i c2,.i 0])) (qOI (inb c2 (qg a1)) (.br (ilt (wd .i64 c4 c4) (cI a1 c2 0)) (.leaf (2,[.b false,.i c2,.i 0])) (qOJ [.r a0,.r a1,.i (qo .i64 c2 1),.i c3,.i c4]))))) (.leaf (1,[.r a0]))):=by kernel_rfl
theorem qvR:q6V [.r a0,.i c1,.i c2]=(let r0:=wE [.r a0];qOH r0 (.br (ine (gI r0 1) 0) (qOJ [.b false,.i 0,.i (gI r0 1)]) (let r1:=q5W [.i c1,.i c2];qOH r1 (.br (ine (gI r1 0) 0) (qOJ [.b false,.i 0,.i (gI r1 0)]) (let r2:=qf uS [.r a0,.r (gR r0 0),.i 0,.i c1,.i c2];qOH r2 (.br (jIs r2 0) (qOJ [.b true,.i (qg (gR r2 0)),.i 0]) (qOJ [.b (gB r2 0),.i (gI r2 1),.i (gI r2 2)]))))))):=by kernel_rfl
theorem qnm:kv [.r a0,.i c1,.i c2]=(let r0:=qd5 [.r a0];qOH r0 (let r1:=qcM [.r (gR r0 0)];qOH r1 (.br (not (gB r1 0)) (let r2:=yo [];qOH r2 (qOJ [.b (gB r2 0)])) (let r2:=vQ [.r a0];qOH r2 (qOH r0 (let r3:=wE [.r (gR r0 0)];qOH r3 (let r4:=q32 [.r a0];qOH r4 (qOH r0 (let r5:=jV [.r (gR r0 0)];qOH r5 (let r6:=q0S [.r a0,.i c1,.i c2];qOH r6 (qOH r0 (let r7:=q6V [.r (gR r0 0),.i c1,.i c2];qOH r7 (let r8:=yo [];qOH r8 (.br (gB r8 0) (let r9:=zA [.r (gR r2 0),.r (gR r3 0)];qOH r9 (.br (gB r9 0) (.br (ieq (gI r2 1) (gI r3 1)) (.br (ieq (gI r4 0) (gI r5 0)) (.br (ieq (gI r4 1) (gI r5 1)) (.br (ieq (gI r4 2) (gI r5 2)) (.br (beq (gB r6 0) (gB r7 0)) (.br (ieq (gI r6 1) (gI r7 1)) (qOJ [.b (ieq (gI r6 2) (gI r7 2))]) (qOJ [.b false])) (qOJ [.b false])) (qOJ [.b false])) (qOJ [.b false])) (qOJ [.b false])) (qOJ [.b false])) (qOJ [.b false]))) (qOJ [.b false]))))))))))))))):=by kernel_rfl
end Go.Eng

