/- Texts of the proof, merged: what the code computes, and plain laws. No statement stands here. -/
import Derived.WalkSpells
import Derived.KernelRfl
import Derived.Test.YtjdhkocjkfdebaaGreatDoorProg
import Derived.Test.YtjdhkocjkfdebaaGreatDoorI4
namespace Go.Eng
open Go.RowKit Go.Proofs
open Tryz
theorem qki{n:Int}(h:-9223372036854775808<=n/\n<=9223372036854775807):wrap64 n=n:=by unfold wrap64;omega
set_option maxHeartbeats 2000000 in
set_option maxRecDepth 100000 in
theorem qLe(i k:Nat)(_:i<=1000)(hk:k<=1000)(w:World) :Calls prog 377 #[.int .i64 i,.int .i64 k] w fun e w'=>e=.returned (kv (if i=k then [49] else [48]))/\w'=w:=by
 have hs:kv (if i=k then [49] else [48])=if i=k then .string ⟨#[49]⟩ else .string ⟨#[48]⟩:=by split<;>rfl
 rw[hs]
 go_enter func377,ntmps377
 by_cases h:i=k
 ·subst h
  go_wp2
  go_ret
  exact⟨rfl,rfl⟩
 ·have hb:((i:Int)==(k:Int))=false:=by simp;omega
  go_wp2
  go_ret
  exact⟨rfl,rfl⟩
set_option maxHeartbeats 2000000 in
set_option maxRecDepth 100000 in
theorem qLm(b5 b1 g L cap i n:Nat)(w:World)(h5:w.cell? ⟨b5,2,none⟩=some (.slice (some ⟨g,0,none⟩) L cap))(h1:w.cell? ⟨b1,0,none⟩=some (qlX n))(hi:i<=1000)(hn:0<n)(hn2:n<=1000)(hL:(i+1)*n<=L)(hc:L<=cap) :Calls prog 331 #[.int .i64 i,.pointer (some ⟨b5,0,none⟩),.pointer (some ⟨b1,0,none⟩)] w fun e w'=>e=.returned (.slice (some ⟨g,i*n,none⟩) n (cap-i*n))/\w'=w:=by
 unfold qlX at h1;obtain⟨lo,hlo⟩:∃lo,lo=i*n:=⟨_,rfl⟩;have hm:i*n<=1000*1000:=qMB hi hn2;have hhi:(i+1)*n=lo+n:=by rw[hlo,qM9,qNw]
 have e1:wrap64 ((i:Int)*(n:Int))=(lo:Int):=by rw[hlo,qki (by rw[<-qMG];omega)];simp
 have e2:wrap64 (((i:Int)+1)*(n:Int))=((lo+n:Nat):Int):=by
  have:((i:Int)+1)*(n:Int)=((lo+n:Nat):Int):=by rw[<-hhi];simp
  rw[this,qki (by omega)]
 rw[hhi] at hL;rw[<-hlo];have g1:¬cap=lo:=by omega
 clear hm hhi hlo
 go_enter func331,ntmps331
 go_wp2
 go_ret
 rw[Nat.add_sub_cancel_left];exact⟨rfl,rfl⟩
set_option maxHeartbeats 4000000 in
set_option maxRecDepth 1000000 in
theorem qCY(g:Nat)(hen:qaF prog g)(caps:Array Value)(r c:Nat)(hr:r<=16)(hc:c<=16)(F:Nat->Nat->Bs)(w:World)(hF:∀i k w',i<r->k<c->Below w.heap.size w w'->Calls prog g (#[.int .i64 i,.int .i64 k]++caps) w' fun e w''=>e=.returned (kv (F i k))/\Below w'.heap.size w' w'') :Calls prog 326 #[.int .i64 r,.int .i64 c,.func (.func g) #[] caps] w fun e w'=>∃v,e=.returned (.agg #[.int .i64 r,.int .i64 c,v])/\Below w.heap.size w w'/\w'.ownsRow w.heap.size 108 1 v (r*c) ((mkL F c r).map kv):=by
 obtain⟨i0,hi,hz0,hz1,hz2⟩:=info_parts (show (prog.info? 108).map (fun i=>(i.zero,i.size,i.bytes))=some (some (.string ⟨#[]⟩),1,16) by kernel_rfl);obtain⟨B,hB⟩:∃B,B=w.heap.size:=⟨_,rfl⟩;have HF:=Lib.hid hF;clear hF
 go_enter func326,ntmps326
 go_wp2
 go_loopg [14] r (fun g i wr=>∃(ii:Nat) (v:Value),ii<=r/\g=r-ii/\i=.int .i64 ii/\MSt w.heap.size (w.heap.size+1) w.heap.size 370 108 w wr r c v (mkL F c ii))
 case atStart=>exact⟨0,.slice none 0 0,by omega,by omega,rfl,MSt.start w 370 108 (by decide) r c _ rfl _ rfl⟩
 case round=>
  obtain⟨ii,v,hii,rfl,rfl,hM⟩:=hrel;by_cases hlt:ii<r
  ·have HM:=Lib.hid hM;clear hM
   go_wp2
   go_loopg [18] c (fun g k wx=>∃(kk:Nat) (v:Value),kk<=c/\g=c-kk/\k=.int .i64 kk/\MSt w.heap.size (w.heap.size+1) w.heap.size 370 108 w wx r c v (mkL F c ii++(List.range kk).map (F ii)))
   case atStart=>exact⟨0,v,by omega,rfl,rfl,by simpa using HM.out⟩
   case round=>
    clear HM;obtain⟨kk,v,hkk,rfl,rfl,hM⟩:=hrel;have HM:=Lib.hid hM;by_cases hk:kk<c
    ·have c2:=hM.cell.2.2;have hW:Below w.heap.size w wr.drew:=hM.below.drew;have key:=Lib.hid (HF.out ii kk wr.drew hlt hk hW);have own:=Lib.hid hM.own;have hsz:w.heap.size<=wr.heap.size:=hM.below.size;have hl:(mkL F c ii++(List.range kk).map (F ii)).length<=1000:=by rw[qMc,qg7,qLZ,qMr];have:=qMB (show ii<=16 by omega) hc;omega
     have key2:=key.out;unfold kv at key2;clear hM HF
     go_wp2_with fail
     go_region_law (first
      | (refine qCX rfl g caps hen (.tmp 23) #[.tmp 24,.tmp 25] #[3,3] rfl (by simp[Act.eval,Act.put]) (#[.int .i64 ii,.int .i64 kk]++caps) (by simp[Act.eval,Act.put]) (by exact key2) ?_;rintro e w2 ⟨rfl,hb2⟩;have B2:Below wr.heap.size wr w2:=(Below.refl _ wr).drew.trans hb2;have BA:Below wr.heap.size wr (w2.alloc (.cells #[.string ⟨(F ii kk).toArray⟩] 108)):=B2.alloc B2.size _;have k1:=(HM.out.grow B2 hsz).cell.2.2;have k2:=(HM.out.grow BA hsz).cell.2.2;refine⟨_,rfl,?_⟩)
      | (refine qqD rfl (.tmp 22) (.tmp 27) 212 rfl w.heap.size 108 i0 (.string ⟨#[]⟩) 1 16 underlying212 hi hz0 hz1 hz2 rfl (by decide) v _ _ (by simp[Act.eval]) (q09 own.out BA) ⟨w2.heap.size,0,none⟩ 1 1 [.string ⟨(F ii kk).toArray⟩] (by simp[Act.eval]) rfl (qFF (quj w2 _ _)) (fun u hu=>by rw[qMm.1 hu];rfl) (by unfold maxLen;omega) (by omega) (qLW hsz BA.size) ?_;intro v' w3 hown' hgrow _;obtain⟨ao,n',cap',rfl⟩:=q4F hown';obtain⟨k3,k4⟩:=(HM.out.grow BA hsz).keepCell hgrow))
     all_goals
      have MA:=Lib.hid ((HM.out.grow BA hsz).app (ys:=mkL F c ii++(List.range (kk+1)).map (F ii)) hgrow (qLW hsz BA.size) (by rw[qMI,qMe,<-qMo,qMc,qMe];exact hown'));clear k1 k2 k3 k4 c2 hown' hgrow key2
      go_wp2
      go_roundg (c-(kk+1))
      case measure=>go_light;omega
      case rel=>
       go_light
       exact⟨kk+1,_,by omega,rfl,by go_num,MA.out⟩
    ·have hkE:kk=c:=by omega
     subst kk;clear hM
     go_wp2
     go_roundg (r-(ii+1))
     case measure=>go_light;omega
     case rel=>
      go_light
      exact⟨ii+1,v,by omega,rfl,by go_num,HM.out⟩
  ·have hiE:ii=r:=by omega
   subst ii;obtain⟨ao,n',cap',rfl⟩:=q4F hM.own;have c1:=hM.cell;have c2:=hM.cellq;have f20:=hM.freeq 0;have f21:=hM.freeq 1;have f22:=hM.freeq 2;have HM:=Lib.hid hM;clear hM;unfold qlX at c1 c2;obtain⟨c11,c12,c13⟩:=c1;obtain⟨c21,c22,c23⟩:=c2
   go_wp2
   refine bodyPost_ret (by simp[results,results326,go_sem, *];try rfl) rfl ?_;obtain⟨q1,q2⟩:=HM.out.fin (qLU _) (.int .i64 r) (.int .i64 c) (.slice ao n' cap');rw[qg7] at q2;exact⟨_,rfl,q1,q2⟩
end Go.Eng

namespace Go.Eng
open Go.RowKit Go.Proofs
open Tryz
set_option maxHeartbeats 2000000 in
set_option maxRecDepth 100000 in
theorem qGO(ab ao n c:Nat)(hn:0<n)(hn2:n<=1000)(row:List Bs)(hl:row.length=n)(w:World)(hc:∀(j:Nat) x,row[j]?=some x->w.cell? ⟨ab,ao+j,none⟩=some (kv x)) :Calls prog 400 #[.slice (some ⟨ab,ao,none⟩) n c] w fun e w'=>∃v,e=.returned v/\w'.ownsRow w.heap.size 108 1 v n (row.map kv)/\Below w.heap.size w w':=by
 obtain⟨i0,hi,hz0,hz1,hz2⟩:=info_parts (show (prog.info? 108).map (fun i=>(i.zero,i.size,i.bytes))=some (some (.string ⟨#[]⟩),1,16) by kernel_rfl);have hnil:=Lib.run_eql_slice_nil (P:=prog)
 go_enter func400,ntmps400
 have hnews:∀(j:Nat) (u:Value),(row.map kv)[j]?=some u->(w.alloc (.cells #[] 108)).cell? ((⟨ab,ao,none⟩:Addr).add j)=some u:=fun j u hu=>by
  rw[qM2] at hu;obtain⟨x,hx,rfl⟩:=qNC.1 hu;have h1:=hc j x hx;have h2:(⟨ab,ao,none⟩:Addr).add j=⟨ab,ao+j,none⟩:=by
   unfold Addr.add;split
   ·rename_i h;subst h;rfl
   ·rfl
  rw[h2,World.cell?_alloc_lt _ _ _ (qN2 w _ h1)];exact h1
 clear hc
 go_wp2_with (at_builtin;refine wpList_append_own _ rfl _ _ 212 rfl w.heap.size 108 i0 (.string ⟨#[]⟩) 1 16 underlying212 hi hz0 hz1 hz2 rfl (by decide) _ 0 [] rfl (World.ownsRow_made w #[] 0 (qLU _) (by decide) rfl) ⟨ab,ao,none⟩ n c (row.map kv) rfl (by rw[qLZ,hl,qNz]) hnews qAq (by unfold maxLen;omega) (by omega) (by rw[j3];omega) ?_)
 intro v' w2 hown' hgrow _;obtain⟨ao',n',cap',rfl⟩:=q4F hown'
 go_wp2
 go_ret
 refine⟨_,rfl,hown',((Below.refl w.heap.size w).alloc (qLU _) (.cells #[] 108)).grown hgrow (by rw[j3];omega) (fun k hk=>?_)⟩;cases hk;exact qLU _
theorem qIT(i n:Nat)(hi:i<=1000)(hn:n<=1000):wrap64 ((i:Int)*(n:Int))=((i*n:Nat):Int):=by have:=qMB hi hn;rw[<-qMG];exact qki ⟨by omega,by omega⟩
theorem qIy(i n:Nat)(hi:i<=1000)(hn:n<=1000):wrap64 (((i:Int)+1)*(n:Int))=((i*n+n:Nat):Int):=by
 have:=qMB hi hn;have h:((i:Int)+1)*(n:Int)=((i*n+n:Nat):Int):=by rw[Int.add_mul,qNd,<-qMG,<-qNM]
 rw[h];exact qki ⟨by omega,by omega⟩
def row0(F G:Nat->Nat->Bs)(n i:Nat):List Bs:=(List.range n).map (F i)++(List.range n).map (G i)
def qLh(B S b2 n:Nat)(vs:Value)(F G:Nat->Nat->Bs)(w0 w:World)(ii:Nat):Prop:=∃vR H,Sch B S 427 212 108 3 ii (2*n) (.int .i64 0) (.int .i64 n) w vR (.slice none 0 0) H ((List.range ii).map (row0 F G n)) [49] []/\Below B w0 w /\
 w.heap[b2]?=some (.cells #[.int .i64 n,.int .i64 n,vs] 370 (0,0))
set_option maxHeartbeats 4000000 in
set_option maxRecDepth 1000000 in
theorem qGa(n:Nat)(hn:n<=16)(F G:Nat->Nat->Bs)(vs:Value)(b5 b1:Nat)(w:World)(hv:0<n->∃ab ao cap,vs=.slice (some ⟨ab,ao,none⟩) (n*n) cap/\n*n<=cap/\∀i k,i<n->k<n->w.cell? ⟨ab,ao+(i*n+k),none⟩=some (kv (F i k)))(ho:0<n->∃g cap,w.cell? ⟨b5,2,none⟩=some (.slice (some ⟨g,0,none⟩) (n*n) cap)/\n*n<=cap/\∀i k,i<n->k<n->w.cell? ⟨g,i*n+k,none⟩=some (kv (G i k)))(h1:w.cell? ⟨b1,0,none⟩=some (qlX n)) :Calls prog 378 #[.agg #[.int .i64 n,.int .i64 n,vs],.func (.func 331) #[] #[.pointer (some ⟨b5,0,none⟩),.pointer (some ⟨b1,0,none⟩)]] w fun e w' => e=.returned (.pointer (some ⟨w.heap.size+1,0,none⟩))/\qLh w.heap.size (w.heap.size+1) w.heap.size n vs F G w w' n:=by
  obtain⟨i0,hi,hz0,hz1,hz2⟩:=info_parts (show (prog.info? 108).map (fun i=>(i.zero,i.size,i.bytes))=some (some (.string ⟨#[]⟩),1,16) by kernel_rfl);obtain⟨i1,hi',hy0,hy1,hy2⟩:=info_parts (show (prog.info? 212).map (fun i=>(i.zero,i.size,i.bytes))=some (some (.slice none 0 0),1,24) by kernel_rfl);have HV:=Lib.hid hv;have HO:=Lib.hid ho;clear hv ho
  go_enter func378,ntmps378
  go_wp2
  go_loopg [14] n (fun g i wr=>∃ii:Nat,ii<=n/\g=n-ii/\i=.int .i64 ii/\qLh w.heap.size (w.heap.size+1) w.heap.size n vs F G w wr ii)
  case atStart =>
    refine⟨0,by omega,by omega,rfl,.slice none 0 0,[],?_,?_,?_⟩
    · refine Sch.start (by omega) ?_ (by decide)
      rw[<-j3 w (.cells #[.int .i64 n,.int .i64 n,vs] 370)];exact heap_alloc_new _ _
    · exact((Below.refl w.heap.size w).alloc (qLU _) _).alloc (by rw[j3];omega) _
    · exact qix w _ _
  case round =>
    obtain⟨ii,hii,rfl,rfl,hI⟩:=hrel;by_cases hlt:ii<n
    · obtain⟨vR,H,hS,hB,h2⟩:=hI
      obtain⟨ab,ao,cap,rfl,hcap,hcell⟩:=HV.out (by omega);obtain⟨lo,hlo⟩:∃lo,lo=ii*n:=⟨_,rfl⟩;have hm:ii*n<=16*16:=qMB (by omega) hn;have hhi:(ii+1)*n=lo+n:=by rw[hlo,qM9,qNw]
      have hle:lo+n<=n*n:=by rw[<-hhi];exact qMj n hlt
      have g1:¬cap=lo:=by omega
      have g2:lo+n<=cap:=by omega
      have q1:ii<=1000:=by omega
      have q2:n<=1000:=by omega
      clear hm hhi hle;have e1:True->wrap64 ((ii:Int)*(n:Int))=(lo:Int):=fun _=>by rw[hlo];exact qIT ii n q1 q2
      have e2:True->wrap64 (((ii:Int)+1)*(n:Int))=((lo+n:Nat):Int):=fun _=>by rw[hlo];exact qIy ii n q1 q2
      have HLO:=Lib.hid hlo;clear hlo;have c2:=q5A h2;obtain⟨c20,c21,c22⟩:=c2;have keyC:=qGO ab (ao+lo) n (cap-lo) (by omega) q2 ((List.range n).map (F ii)) (by simp) wr (fun j x hx=>by
        rw[qM2] at hx;obtain⟨y,hy,rfl⟩:=qNC.1 hx;have hjn:j<n:=by have:=(qNy.1 hy).1;simpa using this
        rw[qMw hjn] at hy;cases hy;rw[qNq,HLO.out,hB.cell (p:=⟨ab,ao+(ii*n+j),none⟩) (qN2 w _ (hcell ii j hlt hjn))];exact hcell ii j hlt hjn)
      obtain⟨g,capo,ho5,hcapo,hoc⟩:=HO.out (by omega);have keyI:=Lib.hid fun (W:World) (hW:Below w.heap.size w W)=>qLm b5 b1 g (n*n) capo ii n W (by rw[hW.cell (qN2 w _ ho5)];exact ho5) (by rw[hW.cell (qN2 w _ h1)];exact h1) q1 (by omega) q2 (qMj n hlt) hcapo;have HC:=Lib.hid hoc;have HH:=Lib.hid (And.intro hS (And.intro hB h2));clear hcell hoc ho5 hcapo hcap hS hB h2
      go_wp2_with (go_at_call 400;refine keyC.mono ?_;rintro e w1 ⟨v1,rfl,hv1,hb1⟩;obtain⟨a1,n1,cap1,rfl⟩:=q4F hv1)
      clear keyC e1 e2 g1 g2 c20 c21 c22;have hsz:=HH.out.2.1.size;have B1:Below wr.heap.size wr w1.drew:=hb1.drew;have k1:=(HH.out.1.grow B1).cell.2.1;have BW:Below w.heap.size w w1.drew:=HH.out.2.1.trans (B1.mono hsz);have key2:=keyI.out w1.drew BW;have own1:=Lib.hid (q09 hv1 (Below.refl _ w1).drew);have LT1:=Lib.hid hv1;have NEW:∀(j:Nat) (u:Value),(((List.range n).map (G ii)).map kv)[j]?=some u->w1.drew.cell? ((⟨g,ii*n,none⟩:Addr).add j)=some u:=fun j u hu=>by
        rw[qM2] at hu;obtain⟨x,hx,rfl⟩:=qNC.1 hu;rw[qM2] at hx;obtain⟨y,hy,rfl⟩:=qNC.1 hx;have hjn:j<n:=by have:=(qNy.1 hy).1;simpa using this
        rw[qMw hjn] at hy;cases hy;have h2:(⟨g,ii*n,none⟩:Addr).add j=⟨g,ii*n+j,none⟩:=by
          unfold Addr.add;split
          · rename_i h;subst h;rfl
          · rfl
        have h3:=HC.out ii j hlt hjn;rw[h2,BW.cell (qN2 w _ h3)];exact h3
      clear hv1;have henI:qaF prog 331:=yA func331 (by kernel_rfl) (by kernel_rfl);have stepI:∀(o:Oper) (a:Act) (K:Act->World->Prop) (Q:Exit->Act->World->Prop),o.op=.call { callee:=.value (.tmp 36),args:=#[.tmp 37],argTypes:=#[3] } ->
          a.eval (.tmp 36)=.func (.func 331) #[] #[.pointer (some ⟨b5,0,none⟩),.pointer (some ⟨b1,0,none⟩)]->a.eval (.tmp 37)=.int .i64 ii->K (a.put o.dst (.slice (some ⟨g,ii*n,none⟩) n (capo-ii*n))) w1.drew->Oper.wp prog o a w1.drew K Q :=
        fun o a K Q q1 q2 q3 q4=>qBc 331 _ henI (.tmp 36) _ _ q1 q2 (#[.int .i64 ii,.pointer (some ⟨b5,0,none⟩),.pointer (some ⟨b1,0,none⟩)]) (by simp[q3]) key2 (fun e w' h=>⟨_,h.1,by rw[h.2];exact q4⟩)
      have stepA:∀(o:Oper) (a:Act) (K:Act->World->Prop) (Q:Exit->Act->World->Prop),o.op=.call { callee:=.builtin .append,args:=#[.tmp 35,.tmp 38],argTypes:=#[212,212] } ->
          a.eval (.tmp 35)=.slice a1 n1 cap1->a.eval (.tmp 38)=.slice (some ⟨g,ii*n,none⟩) n (capo-ii*n) ->
          (∀a2 n2 cap2 w2,w2.ownsRow wr.heap.size 108 1 (.slice a2 n2 cap2) (2*n) ((row0 F G n ii).map kv)->Below wr.heap.size wr w2->K (a.put o.dst (.slice a2 n2 cap2)) w2)->Oper.wp prog o a w1.drew K Q :=
        fun o a K Q q1 q2 q3 q4=>wp_append_own w1.drew _ _ 212 q1 wr.heap.size 108 i0 (.string ⟨#[]⟩) 1 16 underlying212 hi hz0 hz1 hz2 rfl (by decide) _ n _ q2 own1.out ⟨g,ii*n,none⟩ n _ (((List.range n).map (G ii)).map kv) q3 (by simp) NEW qAq (by unfold maxLen;omega) (by omega) B1.size
          (fun v2 w2 h1 h2 _=>by obtain⟨a2,n2,cap2,rfl⟩:=q4F h1;refine q4 _ _ _ _ ?_ (B1.grown h2 B1.size (fun k hk=>(LT1.out.lt k hk).1));rw[Nat.two_mul];unfold row0;rw[qMe];exact h1)
      have stepB:∀(w2:World) (a2:Option Addr) (n2 cap2:Nat) (o:Oper) (a:Act) (K:Act->World->Prop) (Q:Exit->Act->World->Prop),Below wr.heap.size wr w2->o.op=.call { callee:=.builtin .append,args:=#[.tmp 34,.tmp 40],argTypes:=#[342,342] } ->
          a.eval (.tmp 34)=vR->a.eval (.tmp 40)=.slice (some ⟨w2.heap.size,0,none⟩) 1 1 ->
          (∀a3 n3 cap3 w3,w3.ownsRow w.heap.size 212 1 (.slice a3 n3 cap3) (ii+1) (H++[.slice a2 n2 cap2])->(w2.alloc (.cells #[.slice a2 n2 cap2] 212)).grownBy w3 vR.ownBlock->K (a.put o.dst (.slice a3 n3 cap3)) w3)->Oper.wp prog o a (w2.alloc (.cells #[.slice a2 n2 cap2] 212)) K Q :=
        fun w2 a2 n2 cap2 o a K Q hb q1 q2 q3 q4=>by
          have B3:Below wr.heap.size wr (w2.alloc (.cells #[.slice a2 n2 cap2] 212)):=hb.alloc hb.size _;exact wp_append_own _ _ _ 342 q1 w.heap.size 212 i1 (.slice none 0 0) 1 24 underlying342 hi' hy0 hy1 hy2 rfl (by decide) _ ii _ q2 (HH.out.1.grow B3).outer ⟨w2.heap.size,0,none⟩ 1 1 [.slice a2 n2 cap2] q3 rfl (qFF (quj w2 _ _)) (fun u hu=>by rw[qMm.1 hu];rfl) (by unfold maxLen;omega) (by omega) (qLW hsz B3.size)
            (fun v3 w3 h1 h2 _=>by obtain⟨a3,n3,cap3,rfl⟩:=q4F h1;exact q4 _ _ _ _ h1 h2)
      clear key2 NEW
      go_region_law ((try simp only[Act.put,List.setIfInBounds_toArray,qM8,qMa]);(with_reducible refine qD1 rfl ?_);first
        | (with_reducible refine stepI _ _ _ _ ?_ ?_ ?_ ?_
           · with_reducible rfl
           · (first|with_reducible rfl|(simp[Act.eval];done))
           · (first|with_reducible rfl|(simp[Act.eval];done)))
        | (with_reducible refine stepA _ _ _ _ ?_ ?_ ?_ ?_
           · with_reducible rfl
           · (first|with_reducible rfl|(simp[Act.eval];done))
           · (first|with_reducible rfl|(simp[Act.eval];done))
           intro a2 n2 cap2 w2 hown2 B2;have B3:Below wr.heap.size wr (w2.alloc (.cells #[.slice a2 n2 cap2] 212)):=B2.alloc B2.size _;have k2:=(HH.out.1.grow B2).cell.2.1;have k3:=(HH.out.1.grow B3).cell.2.1)
        | (with_reducible refine stepB w2 a2 n2 cap2 _ _ _ _ B2 ?_ ?_ ?_ ?_
           · with_reducible rfl
           · (first|with_reducible rfl|(simp[Act.eval];done))
           · (first|with_reducible rfl|(simp[Act.eval];done))
           intro a3 n3 cap3 w3 hown3 hgrow3;obtain⟨k4,k5⟩:=(HH.out.1.grow B3).rowCell hgrow3)
        | fail "NONE")
      all_goals
        have SR:=(HH.out.1.grow B3).addRow (row:=row0 F G n ii) (q4j (q09 hown2 ((Below.refl _ w2).alloc (qLU _) (.cells #[.slice a2 n2 cap2] 212))) hsz) (HH.out.1.heads hown2) hgrow3 hown3;have BL:=((HH.out.2.1.trans (B3.mono hsz)).grown hgrow3 (qLW hsz B3.size) (fun k hk=>((HH.out.1.grow B3).outer.lt k hk).1)).setCell (p:=⟨w.heap.size+1,1,none⟩) (by show w.heap.size<=w.heap.size+1;omega) (.slice a3 n3 cap3);have MK:=qAm (HH.out.1.grow B3).outer (show (w2.alloc (.cells #[.slice a2 n2 cap2] 212)).heap[w.heap.size]?=_ by rw[B3.block _ (qLY.1 HH.out.2.2).1];exact HH.out.2.2) (by decide) hgrow3;have FIN:qLh w.heap.size (w.heap.size+1) w.heap.size n (.slice (some ⟨ab,ao,none⟩) (n*n) cap) F G w (w3.setCell ⟨w.heap.size+1,1,none⟩ (.slice a3 n3 cap3)) (ii+1) :=
          ⟨_,_,by rw[qMI,qMe];exact SR,BL,by rw[heap_setCell_other w3 ⟨w.heap.size+1,1,none⟩ w.heap.size _ (by show w.heap.size≠w.heap.size+1;omega)];exact MK⟩
        have FIN:=Lib.hid FIN;clear SR BL MK k1 k2 k3 k4 k5 hown2 hown3 hgrow3 B2 B3 stepI stepA stepB
        go_wp2
        go_roundg (n-(ii+1))
        case measure=>go_light;omega
        case rel =>
          go_light
          exact⟨ii+1,by omega,rfl,by go_num,FIN.out⟩
    · have hiE:ii=n:=by omega
      subst ii;have HI:=Lib.hid hI;clear hI
      go_wp2
      go_ret
      exact⟨rfl,HI.out⟩
end Go.Eng

namespace Go.Eng
open Go.RowKit Go.Proofs
open Tryz
theorem Sch.base{B B' S:Nat}{tS tR tE tI:TypeId}{N C:Nat}{ek K:Value}{w:World}{vR vL:Value}{H:List Value}{Z:Mx}{det:Bs}{lead:List Nat}(h:Sch B S tS tR tE tI N C ek K w vR vL H Z det lead)(hB:B'<=B) :Sch B' S tS tR tE tI N C ek K w vR vL H Z det lead:=⟨qLW hB h.bs,h.st,h.dim,q4j h.outer hB,fun j a r e1 e2=>q4j (h.inner j a r e1 e2) hB,q4j h.own hB,h.ap,h.ne⟩
set_option maxHeartbeats 4000000 in
set_option maxRecDepth 1000000 in
theorem qKI(ml dv sb:Op2)(gl:World->Prop)(n:Nat)(hn:n<=16)(F G:Nat->Nat->Bs)(vs:Value)(b5 b1:Nat)(w:World)(hgl:∀w',Below w.heap.size w w'->gl w')(hml:qBy prog gl 77 ml) (hdv:qBy prog gl 315 dv) (hsb:qBy prog gl 210 sb)(hv:0<n->∃ab ao cap,vs=.slice (some ⟨ab,ao,none⟩) (n*n) cap/\n*n<=cap/\∀i k,i<n->k<n->w.cell? ⟨ab,ao+(i*n+k),none⟩=some (kv (F i k)))(ho:0<n->∃g cap,w.cell? ⟨b5,2,none⟩=some (.slice (some ⟨g,0,none⟩) (n*n) cap)/\n*n<=cap/\∀i k,i<n->k<n->w.cell? ⟨g,i*n+k,none⟩=some (kv (G i k)))(h1:w.cell? ⟨b1,0,none⟩=some (qlX n)) (fin:RS) (hf:qwj ml dv sb n n (2*n) n ⟨(List.range n).map (row0 F G n),[49],[],0⟩=some fin) :Calls prog 330 #[.agg #[.int .i64 n,.int .i64 n,vs],.func (.func 331) #[] #[.pointer (some ⟨b5,0,none⟩),.pointer (some ⟨b1,0,none⟩)]] w fun e w'=> ∃S,e=.returned (.tuple #[.pointer (some ⟨S,0,none⟩),.int .i64 0])/\(∃vR vL H,Sch w.heap.size S 427 212 108 3 n (2*n) (.int .i64 0) (.int .i64 n) w' vR vL H fin.Z fin.det fin.lead)/\Below w.heap.size w w':=by
 have hB1:Below w.heap.size w (w.alloc (.cells #[.int .i64 n,.int .i64 n,vs] 370)):=(Below.refl w.heap.size w).alloc (qLU _) _;have keyB:=qGa n hn F G vs b5 b1 (w.alloc (.cells #[.int .i64 n,.int .i64 n,vs] 370))
  (fun h=>by obtain⟨ab,ao,cap,q1,q2,q3⟩:=hv h;exact⟨ab,ao,cap,q1,q2,fun i k hi hk=>by rw[hB1.cell (qN2 w _ (q3 i k hi hk))];exact q3 i k hi hk⟩)
  (fun h=>by obtain⟨g,cap,q1,q2,q3⟩:=ho h;exact⟨g,cap,by rw[hB1.cell (qN2 w _ q1)];exact q1,q2,fun i k hi hk=>by rw[hB1.cell (qN2 w _ (q3 i k hi hk))];exact q3 i k hi hk⟩)
  (by rw[hB1.cell (qN2 w _ h1)];exact h1)
 have HG:=Lib.hid hgl;have HF:=Lib.hid hf;clear hv ho hf hgl
 go_enter func330,ntmps330
 go_wp2_with (go_at_call 378;refine keyB.mono ?_;rintro e w1 ⟨rfl,hI⟩)
 have hs1:w.heap.size<=w.heap.size+1:=by omega
 rw[j3] at hI;obtain⟨vR,H,hS,hB,_⟩:=hI;have hB2:Below w.heap.size w w1:=hB1.trans (hB.mono hs1);have keyR:=qJK w.heap.size _ n n (2*n) w1 ml dv sb gl (fun w' hw'=>HG.out w' (hB2.trans hw')) hml hdv hsb hB2.size (qLU _) (by omega) (by omega) (by omega) _ fin ⟨_,_,_,hS.base hs1,Below.refl _ _⟩ rfl rfl HF.out;refine keyR.mono ?_;rintro e w2 ⟨rfl,hR⟩;obtain⟨vR2,vL2,H2,hS2,hB3⟩:=hR;have k0:=hS2.cell.1;clear keyR keyB
 go_wp2_with fail
 go_region_with (fail)
 all_goals
  go_wp2
  refine bodyPost_ret (results_tmp2 rfl _ _ _) rfl ?_;exact⟨_,rfl,⟨_,_,_,hS2.grow (Below.refl _ _).drew⟩,hB2.trans hB3.drew⟩
def qjm(i k:Nat):Bs:=if i=k then [49] else [48]
set_option maxHeartbeats 4000000 in
set_option maxRecDepth 1000000 in
theorem qIF(n:Nat)(hn:n<=16)(w:World) :Calls prog 329 #[.int .i64 n] w fun e w'=>∃v,e=.returned (.agg #[.int .i64 n,.int .i64 n,v])/\Below w.heap.size w w'/\w'.ownsRow w.heap.size 108 1 v (n*n) ((mkL qjm n n).map kv):=by
 have hB1:Below w.heap.size w (w.alloc (.cells #[.int .i64 0,.int .i64 0,.slice none 0 0] 370)):=(Below.refl w.heap.size w).alloc (qLU _) _;have key:=qCY 377 (yA func377 (by kernel_rfl) (by kernel_rfl)) #[] n n hn hn qjm (w.alloc (.cells #[.int .i64 0,.int .i64 0,.slice none 0 0] 370)) (fun i k w' hi hk _=>(qLe i k (by omega) (by omega) w').mono fun e w'' h=>⟨h.1,by rw[h.2];exact Below.refl _ _⟩);have hq:=heap_alloc_new w (.cells #[.int .i64 0,.int .i64 0,.slice none 0 0] 370);rw[j3] at key
 go_enter func329,ntmps329
 go_wp2_with (go_at_call 326;refine key.mono ?_;rintro e w1 ⟨v,rfl,hb,ho⟩;obtain⟨ao,n1,cap,rfl⟩:=q4F ho;have hq2:w1.heap[w.heap.size]?=some (.cells #[.int .i64 0,.int .i64 0,.slice none 0 0] 370 (0,0)):=(hb.block _ (by omega)).trans hq;obtain⟨c0,c1,c2⟩:=q5A hq2;have f0:=frozen_of_row w1 w.heap.size 0 _ 370 hq2;have f1:=frozen_of_row w1 w.heap.size 1 _ 370 hq2;have f2:=frozen_of_row w1 w.heap.size 2 _ 370 hq2)
 refine bodyPost_ret (by simp[results,results329,go_sem, *];try rfl) rfl ?_;have hn0:(Value.slice ao n1 cap).ownBlock≠some w.heap.size:=fun hv=>by obtain⟨c',hc'⟩:=zc ho hv;exact qab hq2 hc' (by decide) rfl
 have hle:w.heap.size<=w.heap.size:=qLU _;exact⟨_,rfl,(((hB1.trans (hb.mono (by omega))).setCell (p:=⟨w.heap.size,0,none⟩) hle _).setCell (p:=⟨w.heap.size,1,none⟩) hle _).setCell (p:=⟨w.heap.size,2,none⟩) hle _,
  qz (qz (qz (q4j ho (by omega)) hn0 _) hn0 _) hn0 _⟩
end Go.Eng

namespace Go.Eng
open Go.RowKit Go.Proofs
open Tryz
theorem qBV{w:World}{B:Nat}{e:TypeId}{z n:Nat}{v:Value}{xs:List Value}(h:w.ownsRow B e z v n xs):∃ao cap,v=.slice ao n cap:=by
 rcases h.2 with⟨hv,h0⟩|⟨g,cap,cur,hv,_⟩
 ·exact⟨none,0,by rw[hv,h0]⟩
 ·exact⟨_,_,hv⟩
set_option maxHeartbeats 4000000 in
set_option maxRecDepth 1000000 in
theorem qLo(b6 b1 S n:Nat)(w:World){B:Nat}{vR vL:Value}{H:List Value}{Z:Mx}{det:Bs}{lead:List Nat}{ek K:Value}(h6:w.cell? ⟨b6,0,none⟩=some (.pointer (some ⟨S,0,none⟩)))(h1:w.cell? ⟨b1,1,none⟩=some (qlX n))(hS:Sch B S 427 212 108 3 n (2*n) ek K w vR vL H Z det lead) (hn:n<=16) (i k:Nat) (hi:i<n) (hk:k<n) :Calls prog 332 #[.int .i64 i,.int .i64 k,.pointer (some ⟨b6,0,none⟩),.pointer (some ⟨b1,0,none⟩)] w fun e w'=>e=.returned (kv (q6H Z i (n+k)))/\w'=w.drew:=by
 obtain⟨O,cO,rfl,bO,ltO,rO,fO,tO⟩:=hS.rows (by omega);obtain⟨G,cG,eH,bG,ltG,zG,fG,tG⟩:=hS.head hi (by omega);have c1:=hS.cell.2.1;have c2:=rO i _ eH;have c3:=zG (n+k) (by omega);have hlt:n+k<2*n:=by omega
 generalize 2*n=C at *;have hlt2:(n:Int)+(k:Int)<(C:Int):=by omega
 have hlt3:((n:Int)+(k:Int)).toNat=n+k:=by omega
 unfold qlX at h1;unfold kv at c3 ⊢;clear rO zG fO fG tO tG eH
 go_enter func332,ntmps332
 go_wp2_with fail
 go_big_region
 go_wp2
 go_ret
 exact⟨rfl,rfl⟩
set_option maxHeartbeats 4000000 in
set_option maxRecDepth 1000000 in
theorem qKF(ml dv sb:Op2)(gl:World->Prop)(n:Nat)(hn:n<=16)(F:Nat->Nat->Bs)(vs:Value)(w:World)(hgl:∀w',Below w.heap.size w w'->gl w')(hml:qBy prog gl 77 ml) (hdv:qBy prog gl 315 dv) (hsb:qBy prog gl 210 sb)(hck:∀w',Below w.heap.size w w'->Calls prog 328 #[.agg #[.int .i64 n,.int .i64 n,vs]] w' fun e w''=>e=.returned (.int .i64 0)/\Below w'.heap.size w' w'')(hv:0<n->∃ab ao cap,vs=.slice (some ⟨ab,ao,none⟩) (n*n) cap/\n*n<=cap/\∀i k,i<n->k<n->w.cell? ⟨ab,ao+(i*n+k),none⟩=some (kv (F i k)))(fin:RS) (hf:qwj ml dv sb n n (2*n) n ⟨(List.range n).map (row0 F qjm n),[49],[],0⟩=some fin) (hvs:∃a l c,vs=.slice a l c) :Calls prog 278 #[.agg #[.int .i64 n,.int .i64 n,vs]] w fun e w'=>Below w.heap.size w w' /\((fin.lead.length < n /\ e = .returned (.tuple #[.agg #[.int .i64 0, .int .i64 0, .slice none 0 0], .int .i64 14])) \/(n<=fin.lead.length/\∃v,e=.returned (.tuple #[.agg #[.int .i64 n,.int .i64 n,v],.int .i64 0])/\w'.ownsRow w.heap.size 108 1 v (n*n) ((mkL (fun i k=>q6H fin.Z i (n+k)) n n).map kv))):=by
  obtain⟨a0,l0,c0,rfl⟩:=hvs;obtain⟨W0,hW0⟩:∃W0,W0=(w.alloc (.cells #[.int .i64 n,.int .i64 n,.slice a0 l0 c0] 370)).alloc (.cells #[.int .i64 0,.int .i64 0,.slice none 0 0] 370):=⟨_,rfl⟩;have hb0:Below w.heap.size w W0:=by rw[hW0];exact((Below.refl w.heap.size w).alloc (qLU _) _).alloc (by rw[j3];omega) _
  have h1:W0.heap[w.heap.size]?=some (.cells #[.int .i64 n,.int .i64 n,.slice a0 l0 c0] 370 (0,0)):=by rw[hW0];exact qix w _ _
  have h2:W0.heap[w.heap.size+1]?=some (.cells #[.int .i64 0,.int .i64 0,.slice none 0 0] 370 (0,0)):=by rw[hW0,<-j3 w (.cells #[.int .i64 n,.int .i64 n,.slice a0 l0 c0] 370)];exact heap_alloc_new _ _
  have hs0:W0.heap.size=w.heap.size+1+1:=by rw[hW0,j3,j3]
  have keyC:=hck W0 hb0;obtain⟨c10,c11,c12⟩:=q5A h1;have HV:=Lib.hid hv;have HF:=Lib.hid hf;have HG:=Lib.hid hgl;clear hv hf hgl hck
  go_enter func278,ntmps278
  go_wp2_with fail
  rw[<-hW0];refine keyC.mono ?_;rintro e w1 ⟨rfl,hb1⟩;have B1:Below w.heap.size w w1:=hb0.trans (hb1.mono hb0.size);have g1:=(hb1.block _ (qLY.1 h1).1).trans h1;have g2:=(hb1.block _ (qLY.1 h2).1).trans h2;have hs1:w.heap.size+1+1<=w1.heap.size:=by have:=hb1.size;omega
  clear keyC h1 h2 c10 c11 c12 hW0 hb0 hb1 hs0;clear W0;obtain⟨c10,c11,c12⟩:=q5A g1
  go_wp2_with fail
  refine(qIF n hn w1).mono ?_;rintro e w2 ⟨vo,rfl,hb2,hou⟩;obtain⟨ao,no,co,rfl⟩:=q4F hou;have B2:Below w.heap.size w w2:=B1.trans (hb2.mono B1.size);have k1:=(hb2.block _ (qLY.1 g1).1).trans g1;have k2:=(hb2.block _ (qLY.1 g2).1).trans g2;have hs2:w.heap.size+1+1<=w2.heap.size:=by have:=hb2.size;omega
  clear g1 g2 c10 c11 c12;obtain⟨c10,c11,c12⟩:=q5A k1;have HU:=Lib.hid hou;clear hou hb2;have B3:Below w2.heap.size w2 (w2.alloc (.cells #[.int .i64 n,.int .i64 n,.slice ao no co] 370)):=(Below.refl _ w2).alloc (qLU _) _;have l1:=(B3.block _ (qLY.1 k1).1).trans k1;have l2:=(B3.block _ (qLY.1 k2).1).trans k2;obtain⟨d10,d11,d12⟩:=q5A l1
  go_wp2_with fail
  obtain⟨W3,hW3⟩:∃W3,W3=w2.alloc (.cells #[.int .i64 n,.int .i64 n,.slice ao no co] 370):=⟨_,rfl⟩;have m5:W3.heap[w2.heap.size]?=some (.cells #[.int .i64 n,.int .i64 n,.slice ao no co] 370 (0,0)):=by rw[hW3];exact heap_alloc_new _ _
  have hs3:W3.heap.size=w2.heap.size+1:=by rw[hW3,j3]
  rw[<-hW3] at B3 l1 l2 d10 d11 d12 ⊢;clear hW3 c10 c11 c12;have B13:Below w.heap.size w W3:=B2.trans (B3.mono B2.size);have keyE:=qKI ml dv sb gl n hn F qjm (.slice a0 l0 c0) w2.heap.size w.heap.size W3 (fun w' hw'=>HG.out w' (B13.trans (hw'.mono B13.size))) hml hdv hsb
    (fun h=>by obtain⟨ab,ao,cap,q1,q2,q3⟩:=HV.out h;exact⟨ab,ao,cap,q1,q2,fun i k hi hk=>by rw[B13.cell (qN2 w _ (q3 i k hi hk))];exact q3 i k hi hk⟩)
    (fun h=>by
      have ho3:=q09 HU.out B3;obtain⟨g,c,q1,_,_,_⟩:=qdN ho3 (Nat.mul_pos h h);have hcap:n*n<=c:=by
        rcases ho3.2 with⟨z,_⟩|⟨g',cap',cur,z,_,_,z2,_⟩
        · rw[q1] at z;cases z
        · rw[q1] at z;cases z;exact z2
      refine⟨g,c,by rw[<-q1];exact(q5A m5).2.2,hcap,fun i k hi hk=>?_⟩;rw[q1] at ho3;have hik:i*n+k<n*n:=by have:=qMj n (show i+1<=n by omega);rw[qM9] at this;omega
      rw[ho3.cellAt (i*n+k) (by omega),qM2,qz7 qjm n n i k hi hk];rfl)
    d10 fin HF.out
  refine keyE.mono ?_;rintro e w4 ⟨S,rfl,⟨vR,vL,H,hS⟩,hb4⟩;have B4:Below w.heap.size w w4:=B13.trans (hb4.mono B13.size);have k1:=(hb4.block _ (qLY.1 l1).1).trans l1;have k2:=(hb4.block _ (qLY.1 l2).1).trans l2;have hs4:w2.heap.size+1<=w4.heap.size:=by have:=hb4.size;omega
  have B5:Below w4.heap.size w4 (w4.alloc (.cells #[.pointer (some ⟨S,0,none⟩)] 420)):=(Below.refl _ w4).alloc (qLU _) _;have HS:=Lib.hid (hS.grow B5);have l1:=(B5.block _ (qLY.1 k1).1).trans k1;have l2:=(B5.block _ (qLY.1 k2).1).trans k2;clear keyE HU HV HF HG hS k1 k2 d10 d11 d12 m5;obtain⟨vl0,vlc,rfl⟩:=qBV HS.out.own;obtain⟨d10,d11,d12⟩:=q5A l1;have s3:=HS.out.cell.2.2.2.1
  go_wp2_with fail
  go_big_region
  have B6:Below w4.heap.size w4 (w4.alloc (.cells #[.pointer (some ⟨S,0,none⟩)] 420)).drew:=B5.drew;have n6:=quj w4 (.pointer (some ⟨S,0,none⟩)) 420;have SZ:(w4.alloc (.cells #[.pointer (some ⟨S,0,none⟩)] 420)).heap.size=w4.heap.size+1:=j3 _ _;obtain⟨W6,hW6⟩:∃W6,W6=(w4.alloc (.cells #[.pointer (some ⟨S,0,none⟩)] 420)).drew:=⟨_,rfl⟩;have l1:W6.heap[w.heap.size]?=some (.cells #[.int .i64 n,.int .i64 n,.slice a0 l0 c0] 370 (0,0)):=by rw[hW6];exact l1
  have l2:W6.heap[w.heap.size+1]?=some (.cells #[.int .i64 0,.int .i64 0,.slice none 0 0] 370 (0,0)):=by rw[hW6];exact l2
  have n6:W6.cell? ⟨w4.heap.size,0,none⟩=some (.pointer (some ⟨S,0,none⟩)):=by rw[hW6];exact n6
  have SZ:W6.heap.size=w4.heap.size+1:=by rw[hW6];exact SZ
  have HS:=Lib.hid (HS.out.grow (Below.refl _ _).drew);rw[<-hW6] at B6 HS ⊢;clear hW6 B5 d10 d11 d12 s3;have B7:Below w.heap.size w W6:=B4.trans (B6.mono B4.size);obtain⟨d10,d11,d12⟩:=q5A l1;obtain⟨d20,d21,d22⟩:=q5A l2;have f20:=frozen_of_row W6 (w.heap.size+1) 0 _ 370 l2;have f21:=frozen_of_row W6 (w.heap.size+1) 1 _ 370 l2;have f22:=frozen_of_row W6 (w.heap.size+1) 2 _ 370 l2;have hle:w.heap.size<=w.heap.size+1:=by omega
  by_cases hl:fin.lead.length<n
  · have hl2:((fin.lead.length:Int)<(n:Int)):=by omega
    go_wp2_with fail
    refine bodyPost_ret (by simp[results,results278,go_sem, *];try rfl) rfl ?_;exact⟨((B7.setCell (p:=⟨w.heap.size+1,0,none⟩) hle _).setCell (p:=⟨w.heap.size+1,1,none⟩) hle _).setCell (p:=⟨w.heap.size+1,2,none⟩) hle _,.inl ⟨hl,rfl⟩⟩
  · have hl2:¬((fin.lead.length:Int)<(n:Int)):=by omega
    have keyM:=qCY 332 (yA func332 (by kernel_rfl) (by kernel_rfl)) #[.pointer (some ⟨w4.heap.size,0,none⟩),.pointer (some ⟨w.heap.size,0,none⟩)] n n hn hn (fun i k=>q6H fin.Z i (n+k)) W6 (fun i k w' hi hk hb =>
      (qLo w4.heap.size w.heap.size S n w' (by rw[hb.cell (qN2 W6 _ n6)];exact n6) (by rw[hb.cell (qN2 W6 _ d11)];exact d11) (HS.out.grow hb) hn i k hi hk).mono
        fun e w'' h=>⟨h.1,by rw[h.2];exact(Below.refl _ _).drew⟩)
    go_wp2_with fail
    refine keyM.mono ?_;rintro e w7 ⟨v,rfl,hb7,ho7⟩;obtain⟨a7,n7,c7,rfl⟩:=q4F ho7;have q2:=(hb7.block _ (qLY.1 l2).1).trans l2;obtain⟨e20,e21,e22⟩:=q5A q2;have f20:=frozen_of_row w7 (w.heap.size+1) 0 _ 370 q2;have f21:=frozen_of_row w7 (w.heap.size+1) 1 _ 370 q2;have f22:=frozen_of_row w7 (w.heap.size+1) 2 _ 370 q2;clear keyM d10 d11 d12 d20 d21 d22
    go_wp2_with fail
    refine bodyPost_ret (by simp[results,results278,go_sem, *];try rfl) rfl ?_;have hn0:(Value.slice a7 n7 c7).ownBlock≠some (w.heap.size+1):=fun hv=>by obtain⟨c',hc'⟩:=zc ho7 hv;exact qab q2 hc' (by decide) rfl
    exact⟨(((B7.trans (hb7.mono B7.size)).setCell (p:=⟨w.heap.size+1,0,none⟩) hle _).setCell (p:=⟨w.heap.size+1,1,none⟩) hle _).setCell (p:=⟨w.heap.size+1,2,none⟩) hle _,
      .inr ⟨by omega,_,rfl,qz (qz (qz (q4j ho7 B7.size) hn0 _) hn0 _) hn0 _⟩⟩
end Go.Eng

namespace Go.Eng
open Go.RowKit Go.Proofs
open Tryz
def qJl(t:TR):Bool:=match t.run with
 | some (0,[.i e])=>decide (e=0)
 | _=>false
theorem qHn{t:TR}(h:qJl t=true):t.run=some (0,[.i 0]):=by
 unfold qJl at h;split at h
 ·rename_i e he;have:e=0:=by simpa using h
  subst this;exact he
 ·cases h
def qJp(ck ml dv sb:List PV->TR):List PV->TR
 | [.i r,.i c,.r l]=>if r=c/\0<=r/\r<=16/\l.length=r.toNat*r.toNat/\qJl (ck [.i r,.i c,.r l])=true then
   (match qwj (opF ml) (opF dv) (opF sb) r.toNat r.toNat (2*r.toNat) r.toNat ⟨(List.range r.toNat).map (row0 (fun i k=>cS l ((i*r.toNat+k:Nat):Int) 0) qjm r.toNat),[49],[],0⟩ with
   | some fin=>if fin.lead.length<r.toNat then .leaf (0,[.i 0,.i 0,.r [],.i 14]) else .leaf (0,[.i r,.i r,.r ((mkL (fun i k=>q6H fin.Z i (r.toNat+k)) r.toNat r.toNat).map fun x=>[.s x]),.i 0])
   | none=>.fail) else .fail
 | _=>.fail
theorem qFI{ps:List PV}(h:ps.map PV.kind=[.i,.i,.r]):∃a b c,ps=[.i a,.i b,.r c]:=by
 match ps,h with
 | [.i a,.i b,.r c],_=>exact⟨a,b,c,rfl⟩
theorem qFY{T:List PV->TR}{a b:Int}{l:R}(h:(T [.i a,.i b,.r l]).run=some (0,[.i 0])) :(q8 ⟨[.agg [.int .i64,.int .i64,.imm [.str]]],[]⟩ [⟨.int .i64,[],none⟩] T [.agg [.int .i64 a,.int .i64 b,.imm [.str] l]] []).run=some (.int .i64 0,[]):=by unfold q8;have ht:(FIn.mk [.agg [.int .i64,.int .i64,.imm [.str]]] []).take [.agg [.int .i64 a,.int .i64 b,.imm [.str] l]] []=some [.i a,.i b,.r l]:=rfl;rw[ht];simp only[Tree.run,okR,h,qO7];simp[qEy,FOut.kinds,AP.kinds,BP.kindsL,qlo,gI,pR,h,PV.toI,FOut.make,AP.make,BP.makeL,Tree.run]
theorem qBK{w:World}{B:Nat}{e:TypeId}{M:Nat->Prop}{v:Value}{n:Nat}{xs:List Bs}(h:w.ownsRow B e 1 v n (xs.map kv))(hM:∀b,v.ownBlock=some b->M b):qdv w M [.str] (xs.map fun x=>[U.s x]) v:=by
 have hl:xs.length=n:=by have:=h.1;rw[qLZ] at this;omega
 rcases h.2 with⟨rfl,h0⟩|⟨g,cap,cur,rfl,_,_,hc,_⟩
 ·exact .inl ⟨rfl,qNp (by rw[qLZ];omega)⟩
 ·refine .inr ⟨⟨g,0,none⟩,cap,by rw[qLZ,hl],fun _=>rfl,by rw[qLZ,hl];exact hc,fun r j hj hr=>?_⟩;have hj0:j=0:=by simp at hj;exact hj
  subst hj0;rw[qLZ] at hr;refine⟨hM g rfl,kv xs[r],?_,?_⟩
  ·have:=h.cellAt r (by omega);rw[qM2,qM0 hr] at this;simpa using this
  ·have:RepU w M .str (U.s xs[r]) (kv xs[r]):=.str (U.s xs[r]);have e:zy (xs.map fun x=>[U.s x]) (r:Int) 0=U.s xs[r]:=by simp[zy,hr]
   rw[e];exact this
theorem qGq{X:Ctx}{a b:Int}{l:R}{vargs:List Value}(h:RepL X [.agg [.int .i64 a,.int .i64 b,.imm [.str] l]] vargs):∃v,vargs=[.agg #[.int .i64 a,.int .i64 b,v]]/\qdv X.w X.M [.str] l v:=by
 cases h with
 | cons h1 t=>
  cases t;cases h1 with
  | agg _ vs h2=>
   cases h2 with
   | cons q1 t1=>
    cases q1;cases t1 with
    | cons q2 t2=>
     cases q2;cases t2 with
     | cons q3 t3=>
      cases t3;cases q3 with
      | imm _ _ _ hv=>exact⟨_,rfl,hv⟩
theorem qFq{gl:List (Nat×AV)}{ck ml dv sb:List PV->TR}(hck:qW prog gl 328 (q8 ⟨[.agg [.int .i64,.int .i64,.imm [.str]]],[]⟩ [⟨.int .i64,[],none⟩] ck))(hml:qW prog gl 77 (q8 ⟨[.str,.str],[]⟩ [⟨.tuple [.str,.int .i64],[],none⟩] ml)) (hdv:qW prog gl 315 (q8 ⟨[.str,.str],[]⟩ [⟨.tuple [.str,.int .i64],[],none⟩] dv))(hsb:qW prog gl 210 (q8 ⟨[.str,.str],[]⟩ [⟨.tuple [.str,.int .i64],[],none⟩] sb)) :qW prog gl 278 (q8 ⟨[.agg [.int .i64,.int .i64,.imm [.str]]],[]⟩ [⟨.tuple [.agg [.int .i64,.int .i64,.imm [.str]],.int .i64],[],none⟩] (qJp ck ml dv sb)):=by
 refine qDf (yA func278 (by kernel_rfl) (by kernel_rfl)) rfl fun B X ps j qs vargs hs hgl hX ha hk hT=>?_;obtain⟨r,c,l,rfl⟩:=qFI hk;have ha:RepL X [.agg [.int .i64 r,.int .i64 c,.imm [.str] l]] vargs:=ha;simp only[qJp] at hT;split at hT
 ·rename_i hc;obtain⟨rfl,hr0,hr16,hl,hok⟩:=hc;obtain⟨n,rfl⟩:∃n:Nat,r=(n:Int):=⟨r.toNat,by omega⟩;rw[qM3] at hT hl;split at hT
  ·rename_i fin hf;obtain⟨v,rfl,hv⟩:=qGq ha;have hgY:∀w',Below X.w.heap.size X.w w'->q4o gl (qHj w' X.y):=fun w' hb=>qLg hs hX hgl hb;have op:∀{f:FuncId} {T:List PV->TR},qW prog gl f (q8 ⟨[.str,.str],[]⟩ [⟨.tuple [.str,.int .i64],[],none⟩] T)->qBy prog (fun w'=>Below X.w.heap.size X.w w') f (opF T):=
    fun hT w' hb a b r h=>qDe hT (hgY w' hb) h
   have key:=qKF (opF ml) (opF dv) (opF sb) (fun w'=>Below X.w.heap.size X.w w') n (by omega) (fun i k=>cS l ((i*n+k:Nat):Int) 0) v X.w (fun _ h=>h) (op hml) (op hdv) (op hsb)
    (fun w' hb=>by
     have m:=qKk hs hX hb;refine(qxg hck (hgY w' hb) (args:=[.agg [.int .i64 n,.int .i64 n,.imm [.str] l]]) (vargs:=[.agg #[.int .i64 n,.int .i64 n,v]]) ?_ (qFY (qHn hok))).mono ?_
     ·exact ha.ext0 m
     ·rintro e w'' ⟨u,X',rfl,rfl,hu,_,_,hb'⟩;cases hu;exact⟨rfl,hb'⟩)
    (fun hn=>by
     rcases hv with⟨_,h0⟩|⟨a,cap,rfl,hsp,hcap,hrows⟩
     ·rw[h0] at hl;have:=Nat.mul_pos hn hn;simp at hl;omega
     ·have hpos:0<l.length:=by rw[hl];exact Nat.mul_pos hn hn
      obtain⟨ab,ao,sp⟩:=a;have:sp=none:=hsp hpos;subst this;refine⟨ab,ao,cap,by rw[hl],by omega,fun i k hi hk=>?_⟩;have hik:i*n+k<l.length:=by have:=qMj n (show i+1<=n by omega);rw[qM9] at this;omega
      obtain⟨_,u,q1,q2⟩:=hrows (i*n+k) 0 (by simp) hik;cases q2;simp only[List.length_singleton,qNz,qMK] at q1;rw[q1];rfl)
    fin hf (by
     rcases hv with⟨rfl,_⟩|⟨a,cap,rfl,_⟩
     ·exact⟨_,_,_,rfl⟩
     ·exact⟨_,_,_,rfl⟩)
   split at hT
   ·rename_i hlt;cases hT;refine⟨rfl,rfl,key.mono ?_⟩;rintro e w' ⟨hb,⟨_,rfl⟩|⟨h,_⟩⟩
    ·refine⟨_,X.M,rfl,hb,fun _ h=>h,fun _ h=>.inl h,?_⟩;exact .tuple _ [_,_] (.cons (.agg _ [_,_,_] (.cons (.int _ _) (.cons (.int _ _) (.cons (.imm _ _ _ (.inl ⟨rfl,rfl⟩)) .nil)))) (.cons (.int _ _) .nil))
    ·omega
   ·rename_i hge;cases hT;refine⟨rfl,rfl,key.mono ?_⟩;rintro e w' ⟨hb,⟨h,_⟩|⟨_,u,rfl,ho⟩⟩
    ·exact absurd h hge
    ·refine⟨_,fun m=>X.M m\/u.ownBlock=some m,rfl,hb,fun _ h=>.inl h,fun m h=>?_,?_⟩
     ·rcases h with h|h
      ·exact .inl h
      ·exact .inr (ho.lt m h)
     ·exact .tuple _ [_,_] (.cons (.agg _ [_,_,_] (.cons (.int _ _) (.cons (.int _ _) (.cons (.imm _ _ _ (qBK ho fun b hb=>.inr hb)) .nil)))) (.cons (.int _ _) .nil))
  ·cases hT
 ·cases hT
end Go.Eng

namespace Go.Eng
open Go.Proofs
open Tryz
noncomputable def qgZ:List (TypeId×TI):=[(1,(.mk .func 1 [.nilFunc] 8 false false)),(2,(.mk (.int .i64) 1 [(.int .i64 0)] 8 false false)),(3,(.mk (.int .i64) 1 [(.int .i64 0)] 8 false false)),(4,(.mk .bool 1 [(.bool false)] 1 false false)),(5,(.mk (.int .u8) 1 [(.int .u8 0)] 1 false false)),(6,(.mk (.int .u8) 1 [(.int .u8 0)] 1 false false)),(7,(.mk (.struct [(0,(2,1)),(1,(3,1)),(2,(4,1)),(3,(6,1))]) 4 [(.int .i64 0),(.int .i64 0),(.bool false),(.int .u8 0)] 24 true true)),(8,(.mk (.struct [(0,(2,1)),(1,(3,1)),(2,(4,1)),(3,(6,1))]) 4 [(.int .i64 0),(.int .i64 0),(.bool false),(.int .u8 0)] 24 true true)),(9,(.mk .str 1 [(.string (.mk (.mk [])))] 16 false false)),(10,(.mk .str 1 [(.string (.mk (.mk [])))] 16 false false)),(11,(.mk .str 1 [(.string (.mk (.mk [])))] 16 false false)),(12,(.mk (.int .u64) 1 [(.int .u64 0)] 8 false false)),(13,(.mk (.struct [(0,(9,1)),(1,(12,1))]) 2 [(.string (.mk (.mk []))),(.int .u64 0)] 24 false true)),(14,(.mk (.struct [(0,(9,1)),(1,(12,1))]) 2 [(.string (.mk (.mk []))),(.int .u64 0)] 24 false true)),(16,(.mk (.ptr 507) 1 [(.pointer .none)] 8 false false)),(17,(.mk (.ptr 515) 1 [(.pointer .none)] 8 false false)),(18,(.mk (.struct [(0,(17,1))]) 1 [(.pointer .none)] 8 false true)),(24,(.mk (.struct [(0,(3,1)),(1,(3,1))]) 2 [(.int .i64 0),(.int .i64 0)] 16 true true)),(25,(.mk (.int .i64) 1 [(.int .i64 0)] 8 false false)),(29,(.mk (.slice 34 5) 1 [(.slice .none 0 0)] 24 false false)),(30,(.mk (.slice 36 2) 1 [(.slice .none 0 0)] 24 false false)),(32,(.mk (.struct [(0,(29,1)),(1,(30,1)),(2,(24,2))]) 4 [(.slice .none 0 0),(.slice .none 0 0),(.int .i64 0),(.int .i64 0)] 64 true true)),(34,(.mk (.struct [(0,(9,1)),(1,(9,1)),(2,(3,1)),(3,(24,2))]) 5 [(.string (.mk (.mk []))),(.string (.mk (.mk []))),(.int .i64 0),(.int .i64 0),(.int .i64 0)] 56 true true)),(36,(.mk (.struct [(0,(3,1)),(1,(4,1))]) 2 [(.int .i64 0),(.bool false)] 16 true true)),(38,(.mk (.slice 3 1) 1 [(.slice .none 0 0)] 24 false false)),(44,(.mk (.slice 71 3) 1 [(.slice .none 0 0)] 24 false false)),(45,(.mk (.struct [(0,(3,1)),(1,(44,1)),(2,(44,1))]) 3 [(.int .i64 0),(.slice .none 0 0),(.slice .none 0 0)] 56 true true)),(46,(.mk (.struct [(0,(3,1)),(1,(44,1)),(2,(44,1))]) 3 [(.int .i64 0),(.slice .none 0 0),(.slice .none 0 0)] 56 true true)),(47,(.mk .func 1 [.nilFunc] 8 false false)),(48,(.mk (.struct [(0,(3,1)),(1,(44,1)),(2,(44,1))]) 3 [(.int .i64 0),(.slice .none 0 0),(.slice .none 0 0)] 56 true true)),(49,(.mk .func 1 [.nilFunc] 8 false false)),(51,(.mk .func 1 [.nilFunc] 8 false false)),(52,(.mk .func 1 [.nilFunc] 8 false false)),(54,(.mk .func 1 [.nilFunc] 8 false false)),(55,(.mk .func 1 [.nilFunc] 8 false false)),(56,(.mk .func 1 [.nilFunc] 8 false false)),(57,(.mk .func 1 [.nilFunc] 8 false false)),(58,(.mk (.slice 68 2) 1 [(.slice .none 0 0)] 24 false false)),(64,(.mk .func 1 [.nilFunc] 8 false false)),(66,(.mk (.slice 73 6) 1 [(.slice .none 0 0)] 24 false false)),(68,(.mk (.struct [(0,(3,1)),(1,(3,1))]) 2 [(.int .i64 0),(.int .i64 0)] 16 true true)),(71,(.mk (.struct [(0,(3,1)),(1,(3,1)),(2,(3,1))]) 3 [(.int .i64 0),(.int .i64 0),(.int .i64 0)] 24 true true)),(73,(.mk (.struct [(0,(71,3)),(3,(71,3))]) 6 [(.int .i64 0),(.int .i64 0),(.int .i64 0),(.int .i64 0),(.int .i64 0),(.int .i64 0)] 48 true true)),(77,(.mk (.slice 168 6) 1 [(.slice .none 0 0)] 24 false false)),(96,(.mk (.array 3 3 1) 3 [(.int .i64 0),(.int .i64 0),(.int .i64 0)] 24 false false)),(97,(.mk .func 1 [.nilFunc] 8 false false)),(99,(.mk .func 1 [.nilFunc] 8 false false)),(100,(.mk (.int .u16) 1 [(.int .u16 0)] 2 false false)),(101,(.mk .func 1 [.nilFunc] 8 false false)),(103,(.mk (.struct [(0,(3,1)),(1,(58,1))]) 2 [(.int .i64 0),(.slice .none 0 0)] 32 true true)),(104,(.mk (.slice 103 2) 1 [(.slice .none 0 0)] 24 false false)),(105,(.mk .func 1 [.nilFunc] 8 false false)),(108,(.mk .str 1 [(.string (.mk (.mk [])))] 16 false false)),(109,(.mk .func 1 [.nilFunc] 8 false false)),(110,(.mk (.struct [(0,(108,1)),(1,(108,1))]) 2 [(.string (.mk (.mk []))),(.string (.mk (.mk [])))] 32 true true)),(111,(.mk (.struct [(0,(108,1)),(1,(108,1))]) 2 [(.string (.mk (.mk []))),(.string (.mk (.mk [])))] 32 true true)),(112,(.mk .func 1 [.nilFunc] 8 false false)),(115,(.mk .func 1 [.nilFunc] 8 false false)),(116,(.mk .func 1 [.nilFunc] 8 false false)),(120,(.mk .func 1 [.nilFunc] 8 false false)),(121,(.mk (.struct [(0,(3,1)),(1,(3,1)),(2,(3,1))]) 3 [(.int .i64 0),(.int .i64 0),(.int .i64 0)] 24 true true)),(128,(.mk .func 1 [.nilFunc] 8 false false)),(145,(.mk (.array 2 44 1) 2 [(.slice .none 0 0),(.slice .none 0 0)] 48 false false)),(147,(.mk (.array 2 3 1) 2 [(.int .i64 0),(.int .i64 0)] 16 false false)),(149,(.mk .func 1 [.nilFunc] 8 false false)),(162,(.mk (.struct [(0,(3,1)),(1,(3,1))]) 2 [(.int .i64 0),(.int .i64 0)] 16 true true)),(167,(.mk .func 1 [.nilFunc] 8 false false)),(168,(.mk (.struct [(0,(71,3)),(3,(71,3))]) 6 [(.int .i64 0),(.int .i64 0),(.int .i64 0),(.int .i64 0),(.int .i64 0),(.int .i64 0)] 48 true true)),(179,(.mk (.struct [(0,(111,2)),(2,(108,1)),(3,(108,1))]) 4 [(.string (.mk (.mk []))),(.string (.mk (.mk []))),(.string (.mk (.mk []))),(.string (.mk (.mk [])))] 64 true true)),(183,(.mk .str 1 [(.string (.mk (.mk [])))] 16 false false)),(188,(.mk .func 1 [.nilFunc] 8 false false)),(191,(.mk .func 1 [.nilFunc] 8 false false)),(208,(.mk .func 1 [.nilFunc] 8 false false)),(209,(.mk .func 1 [.nilFunc] 8 false false)),(211,(.mk (.array 3 108 1) 3 [(.string (.mk (.mk []))),(.string (.mk (.mk []))),(.string (.mk (.mk [])))] 48 false false)),(212,(.mk (.slice 108 1) 1 [(.slice .none 0 0)] 24 false false)),(214,(.mk (.struct [(0,(211,3)),(3,(108,1)),(4,(212,1))]) 5 [(.string (.mk (.mk []))),(.string (.mk (.mk []))),(.string (.mk (.mk []))),(.string (.mk (.mk []))),(.slice .none 0 0)] 88 true true)),(220,(.mk (.ptr 227) 1 [(.pointer .none)] 8 false false)),(227,(.mk (.struct [(0,(25,1))]) 1 [(.int .i64 0)] 8 true true)),(232,(.mk (.slice 183 1) 1 [(.slice .none 0 0)] 24 false false)),(238,(.mk (.struct [(0,(3,1)),(1,(3,1)),(2,(3,1))]) 3 [(.int .i64 0),(.int .i64 0),(.int .i64 0)] 24 true true)),(243,(.mk (.slice 58 1) 1 [(.slice .none 0 0)] 24 false false)),(245,(.mk (.struct [(0,(3,1)),(1,(3,1))]) 2 [(.int .i64 0),(.int .i64 0)] 16 true true)),(248,(.mk (.ptr 250) 1 [(.pointer .none)] 8 false false)),(250,(.mk (.struct [(0,(25,1))]) 1 [(.int .i64 0)] 8 true true)),(254,(.mk .func 1 [.nilFunc] 8 false false)),(255,(.mk .func 1 [.nilFunc] 8 false false)),(258,(.mk (.struct [(0,(68,2)),(2,(68,2))]) 4 [(.int .i64 0),(.int .i64 0),(.int .i64 0),(.int .i64 0)] 32 true true)),(277,(.mk .func 1 [.nilFunc] 8 false false)),(278,(.mk .func 1 [.nilFunc] 8 false false)),(282,(.mk .func 1 [.nilFunc] 8 false false)),(284,(.mk .func 1 [.nilFunc] 8 false false)),(285,(.mk .func 1 [.nilFunc] 8 false false)),(293,(.mk (.slice 38 1) 1 [(.slice .none 0 0)] 24 false false)),(305,(.mk (.slice 5 1) 1 [(.slice .none 0 0)] 24 false false)),(306,(.mk .func 1 [.nilFunc] 8 false false)),(307,(.mk .func 1 [.nilFunc] 8 false false)),(311,(.mk .func 1 [.nilFunc] 8 false false)),(327,(.mk .func 1 [.nilFunc] 8 false false)),(336,(.mk (.ptr 384) 1 [(.pointer .none)] 8 false false)),(342,(.mk (.slice 212 1) 1 [(.slice .none 0 0)] 24 false false)),(350,(.mk .func 1 [.nilFunc] 8 false false)),(351,(.mk (.ptr 103) 1 [(.pointer .none)] 8 false false)),(370,(.mk (.struct [(0,(3,1)),(1,(3,1)),(2,(212,1))]) 3 [(.int .i64 0),(.int .i64 0),(.slice .none 0 0)] 40 true true)),(382,(.mk (.array 232 3 1) 232 (List.replicate 232 (.int .i64 0)) 1856 false false)),(384,(.mk (.struct [(0,(4,1)),(1,(3,1)),(2,(382,232))]) 234 (List.append [(.bool false)] (List.replicate 233 (.int .i64 0))) 1872 true true)),(400,(.mk (.int .u64) 1 [(.int .u64 0)] 8 false false)),(417,(.mk .func 1 [.nilFunc] 8 false false)),(425,(.mk (.struct [(0,(25,1))]) 1 [(.int .i64 0)] 8 true true)),(429,(.mk (.ptr 425) 1 [(.pointer .none)] 8 false false)),(456,(.mk (.array 20 400 1) 20 [(.int .u64 0),(.int .u64 0),(.int .u64 0),(.int .u64 0),(.int .u64 0),(.int .u64 0),(.int .u64 0),(.int .u64 0),(.int .u64 0),(.int .u64 0),(.int .u64 0),(.int .u64 0),(.int .u64 0),(.int .u64 0),(.int .u64 0),(.int .u64 0),(.int .u64 0),(.int .u64 0),(.int .u64 0),(.int .u64 0)] 160 false false)),(464,(.mk .func 1 [.nilFunc] 8 false false))]
noncomputable def qc:List (Nat×AV):=[(2,(.eptr [.int .u64,.int .u64,.int .u64,.int .u64,.int .u64,.int .u64,.int .u64,.int .u64,.int .u64,.int .u64,.int .u64,.int .u64,.int .u64,.int .u64,.int .u64,.int .u64,.int .u64,.int .u64,.int .u64,.int .u64] [[.i 1,.i 10,.i 100,.i 1000,.i 10000,.i 100000,.i 1000000,.i 10000000,.i 100000000,.i 1000000000,.i 10000000000,.i 100000000000,.i 1000000000000,.i 10000000000000,.i 100000000000000,.i 1000000000000000,.i 10000000000000000,.i 100000000000000000,.i 1000000000000000000,.i 10000000000000000000]] 0 0))]
theorem qa:qgZ.map (fun x=>qxE prog x.1)=qgZ.map (·.2):=by kernel_rfl
theorem qe:prog.follows .mixedOrders=true:=by kernel_rfl
noncomputable def q9(s:List (FuncId×(List AV->List Blk->Tree (AV×List Blk))))(b:List (FuncId×Func))(l:List ((FuncId×Nat)×(St->Tree (Ex×St))))(n:Nat):Env:=⟨qgZ,qc,s,b,l,n,[],[],[]⟩
def q4W:FIn:=⟨[(.int .i64)],[]⟩
def q4M:List FOut:=[⟨.bool,[],none⟩]
noncomputable def qhb:=q9 [] [(149,f149)] [] 0
noncomputable def qQ:=qj qhb 149 f149 true q4W q4M
theorem qaz:qW prog qc 149 (q8 q4W q4M qQ):=sk qhb qe qa aln aln (b1 func149) func149
def q0l:FIn:=⟨[(.agg [(.int .i64),(.int .i64),(.int .i64)])],[]⟩
def q0r:List FOut:=[⟨.bool,[],none⟩]
noncomputable def qld:=q9 [(149,q8 q4W q4M qQ)] [(126,f126)] [] 0
noncomputable def jT:=qj qld 126 f126 true q0l q0r
theorem q0X:qW prog qc 126 (q8 q0l q0r jT):=sk qld qe qa (alc qaz aln) aln (b1 func126) func126
def ud:FIn:=⟨[(.fn 126 [] []),(.imm [(.int .i64),(.int .i64),(.int .i64)])],[]⟩
def uB:List FOut:=[⟨(.int .i64),[],none⟩]
def q0L:Tmpl:={ t:=((.fn 126 [] [])::ql 6 ((.imm [(.int .i64),(.int .i64),(.int .i64)])::(.int .i64)::(.int .i64)::ql 8 [])),h:=[] }
def q0y:List Out:=[⟨(.exit 0),{ t:=(ql 18 []),h:=[] }⟩,⟨.ret,{ t:=(ql 4 ((.int .i64)::ql 13 [])),h:=[] }⟩]
noncomputable def ye:=q9 [(126,q8 q0l q0r jT)] [(150,f150)] [] 0
noncomputable def zq:=zk ye 150 f150 3 q0L q0y
theorem qao:qu prog qc ye.nimp (qK prog ye.iter 150) (ww f150 3) (qh q0L q0y (qf zq)):=gk ye qe qa (alc q0X aln) aln (b1 func150) func150
noncomputable def q7d:=q9 [(126,q8 q0l q0r jT)] [(150,f150)] [((150,3),qh q0L q0y (qf zq))] 0
noncomputable def zl:=qj q7d 150 f150 true ud uB
theorem q45:qW prog qc 150 (q8 ud uB zl):=sk q7d qe qa (alc q0X aln) (alc (lk func150 qao) aln) (b1 func150) func150
def uP:FIn:=⟨[(.imm [(.int .i64),(.int .i64),(.int .i64)]),(.fn 126 [] [])],[]⟩
def kd:List FOut:=[⟨(.int .i64),[],none⟩]
noncomputable def q3k:=q9 [(126,q8 q0l q0r jT),(150,q8 ud uB zl)] [(125,f125)] [] 0
noncomputable def wC:=qj q3k 125 f125 true uP kd
theorem q8o:qW prog qc 125 (q8 uP kd wC):=sk q3k qe qa (alc q0X (alc q45 aln)) aln (b1 func125) func125
def q0h:FIn:=⟨[(.imm [(.int .i64),(.int .i64),(.int .i64)])],[]⟩
def q0C:List FOut:=[⟨(.int .i64),[],none⟩]
noncomputable def q9z:=q9 [(125,q8 uP kd wC),(126,q8 q0l q0r jT)] [(72,f72)] [] 0
noncomputable def wK:=qj q9z 72 f72 true q0h q0C
theorem q5U:qW prog qc 72 (q8 q0h q0C wK):=sk q9z qe qa (alc q8o (alc q0X aln)) aln (b1 func72) func72
def jL:FIn:=⟨[(.agg [(.int .i64),(.int .i64),(.int .i64)]),(.ptr 0 0)],[.cells [(.int .i64)]]⟩
def jN:List FOut:=[⟨(.int .i64),[.cells [(.int .i64)]],none⟩]
noncomputable def q86:=q9 [] [(127,f127)] [] 1
noncomputable def qE:=qj q86 127 f127 true jL jN
theorem q0w:qW prog qc 127 (q8 jL jN qE):=sk q86 qe qa aln aln (b1 func127) func127
def kA:FIn:=⟨[(.imm [(.int .i64),(.int .i64),(.int .i64)]),(.fn 127 [] [(.ptr 0 0)])],[.cells [(.int .i64)]]⟩
def kR:List FOut:=[⟨(.agg [(.int .i64),(.int .i64)]),[.cells [(.int .i64)]],none⟩]
def yS:Tmpl:={ t:=((.imm [(.int .i64),(.int .i64),(.int .i64)])::(.fn 127 [] [(.ptr 0 0)])::.any::.any::(.ptr 1 0)::(.ptr 2 0)::.any::.any::(.imm [(.int .i64),(.int .i64),(.int .i64)])::(.int .i64)::(.int .i64)::ql 32 []),h:=[.cells [(.int .i64)],.cells [(.int .i64),(.int .i64)],.cells [(.int .i64),(.int .i64)]] }
def yY:List Out:=[⟨(.exit 0),{ t:=(ql 4 ((.ptr 1 0)::(.ptr 2 0)::ql 37 [])),h:=[.cells [(.int .i64)],.cells [(.int .i64),(.int .i64)],.cells [(.int .i64),(.int .i64)]] }⟩]
noncomputable def vP:=q9 [(127,q8 jL jN qE)] [(128,f128)] [] 1
noncomputable def zm:=zk vP 128 f128 4 yS yY
theorem q7w:qu prog qc vP.nimp (qK prog vP.iter 128) (ww f128 4) (qh yS yY (qf zm)):=gk vP qe qa (alc q0w aln) aln (b1 func128) func128
noncomputable def q4i:=q9 [(127,q8 jL jN qE)] [(128,f128)] [((128,4),qh yS yY (qf zm))] 1
noncomputable def wT:=qj q4i 128 f128 true kA kR
theorem q9y:qW prog qc 128 (q8 kA kR wT):=sk q4i qe qa (alc q0w aln) (alc (lk func128 q7w) aln) (b1 func128) func128
def uq:FIn:=⟨[(.imm [(.int .i64),(.int .i64),(.int .i64)]),(.int .i64)],[]⟩
def uA:List FOut:=[⟨(.agg [(.int .i64),(.int .i64)]),[],none⟩]
noncomputable def qaG:=q9 [(127,q8 jL jN qE),(128,q8 kA kR wT)] [(73,f73)] [] 0
noncomputable def zg:=qj qaG 73 f73 true uq uA
theorem q1V:qW prog qc 73 (q8 uq uA zg):=sk qaG qe qa (alc q0w (alc q9y aln)) aln (b1 func73) func73
def qaA:FIn:=⟨[(.agg [(.int .i64),(.imm [(.int .i64),(.int .i64),(.int .i64)]),(.imm [(.int .i64),(.int .i64),(.int .i64)])])],[]⟩
def qaD:List FOut:=[⟨(.int .i64),[],none⟩]
def qbQ:Tmpl:={ t:=(.any::(.ptr 0 0)::ql 16 ((.agg [(.imm [(.int .i64),(.int .i64),(.int .i64)]),(.imm [(.int .i64),(.int .i64),(.int .i64)])])::(.int .i64)::ql 24 [])),h:=[.cells [(.int .i64),(.imm [(.int .i64),(.int .i64),(.int .i64)]),(.imm [(.int .i64),(.int .i64),(.int .i64)])]] }
def qc1:List Out:=[⟨(.exit 0),{ t:=(.any::(.ptr 0 0)::ql 42 []),h:=[.cells [(.int .i64),(.imm [(.int .i64),(.int .i64),(.int .i64)]),(.imm [(.int .i64),(.int .i64),(.int .i64)])]] }⟩,⟨.ret,{ t:=(.any::.any::(.int .i64)::ql 41 []),h:=[] }⟩]
noncomputable def q6B:=q9 [(72,q8 q0h q0C wK),(73,q8 uq uA zg)] [(24,f24)] [] 0
noncomputable def ji:=zk q6B 24 f24 6 qbQ qc1
theorem qn7:qu prog qc q6B.nimp (qK prog q6B.iter 24) (ww f24 6) (qh qbQ qc1 (qf ji)):=gk q6B qe qa (alc q5U (alc q1V aln)) aln (b1 func24) func24
noncomputable def qnF:=q9 [(72,q8 q0h q0C wK),(73,q8 uq uA zg)] [(24,f24)] [((24,6),qh qbQ qc1 (qf ji))] 0
noncomputable def ut:=qj qnF 24 f24 true qaA qaD
theorem qgf:qW prog qc 24 (q8 qaA qaD ut):=sk qnF qe qa (alc q5U (alc q1V aln)) (alc (lk func24 qn7) aln) (b1 func24) func24
def q8M:FIn:=⟨[(.agg [(.int .i64),(.imm [(.int .i64),(.int .i64),(.int .i64)]),(.imm [(.int .i64),(.int .i64),(.int .i64)])])],[]⟩
def q8u:List FOut:=[⟨(.agg [(.int .i64),(.int .i64)]),[],none⟩]
noncomputable def ql8:=q9 [(73,q8 uq uA zg)] [(68,f68)] [] 0
noncomputable def q0x:=qj ql8 68 f68 true q8M q8u
theorem qeT:qW prog qc 68 (q8 q8M q8u q0x):=sk ql8 qe qa (alc q1V aln) aln (b1 func68) func68
def qef:FIn:=⟨[(.agg [(.int .i64),(.imm [(.int .i64),(.int .i64),(.int .i64)]),(.imm [(.int .i64),(.int .i64),(.int .i64)])]),.bool],[]⟩
def qdC:List FOut:=[⟨(.tuple [(.int .i64),(.int .i64)]),[],none⟩]
noncomputable def qm2:=q9 [(24,q8 qaA qaD ut),(68,q8 q8M q8u q0x)] [(20,f20)] [] 0
noncomputable def q2l:=qj qm2 20 f20 true qef qdC
theorem qoG:qW prog qc 20 (q8 qef qdC q2l):=sk qm2 qe qa (alc qgf (alc qeT aln)) aln (b1 func20) func20
def qdw:FIn:=⟨[(.agg [(.int .i64),(.imm [(.int .i64),(.int .i64),(.int .i64)]),(.imm [(.int .i64),(.int .i64),(.int .i64)])])],[]⟩
def qel:List FOut:=[⟨(.tuple [(.agg [(.int .i64),(.int .i64)]),(.int .i64)]),[],none⟩]
noncomputable def qkW:=q9 [(24,q8 qaA qaD ut),(68,q8 q8M q8u q0x)] [(22,f22)] [] 0
noncomputable def q4J:=qj qkW 22 f22 true qdw qel
theorem qoI:qW prog qc 22 (q8 qdw qel q4J):=sk qkW qe qa (alc qgf (alc qeT aln)) aln (b1 func22) func22
def qiV:FIn:=⟨[(.int .i64)],[]⟩
def qiL:List FOut:=[⟨.str,[],none⟩]
noncomputable def q31:List PV->TR:=qFe
set_option maxRecDepth 100000 in
theorem qmK:qW prog qc 166 (q8 qiV qiL q31):=qBZ laysM171 (yA func166 (by kernel_rfl) (by kernel_rfl)) (by kernel_rfl) (by unfold qc;exact qMf)
def q8Z:FIn:=⟨[(.int .i64)],[]⟩
def q8X:List FOut:=[⟨.str,[],none⟩]
noncomputable def qtT:=q9 [(166,q8 qiV qiL q31)] [(105,f105)] [] 0
noncomputable def wt:=qj qtT 105 f105 true q8Z q8X
theorem q8y:qW prog qc 105 (q8 q8Z q8X wt):=sk qtT qe qa (alc qmK aln) aln (b1 func105) func105
def q2r:FIn:=⟨[(.int .i64)],[]⟩
def q2a:List FOut:=[⟨.str,[],none⟩]
noncomputable def qlF:=q9 [(105,q8 q8Z q8X wt)] [(53,f53)] [] 0
noncomputable def wH:=qj qlF 53 f53 true q2r q2a
theorem q3C:qW prog qc 53 (q8 q2r q2a wH):=sk qlF qe qa (alc q8y aln) aln (b1 func53) func53
def q0I:FIn:=⟨[(.agg [(.int .i64),(.int .i64)])],[]⟩
def q0n:List FOut:=[⟨.bool,[],none⟩]
noncomputable def ql5:=q9 [(149,q8 q4W q4M qQ)] [(84,f84)] [] 0
noncomputable def ya:=qj ql5 84 f84 true q0I q0n
theorem q0Y:qW prog qc 84 (q8 q0I q0n ya):=sk ql5 qe qa (alc qaz aln) aln (b1 func84) func84
def yK:FIn:=⟨[(.fn 84 [] []),(.imm [(.int .i64),(.int .i64)])],[]⟩
def yI:List FOut:=[⟨(.int .i64),[],none⟩]
def kS:Tmpl:={ t:=((.fn 84 [] [])::ql 6 ((.imm [(.int .i64),(.int .i64)])::(.int .i64)::(.int .i64)::ql 8 [])),h:=[] }
def kU:List Out:=[⟨(.exit 0),{ t:=(ql 18 []),h:=[] }⟩,⟨.ret,{ t:=(ql 4 ((.int .i64)::ql 13 [])),h:=[] }⟩]
noncomputable def jr:=q9 [(84,q8 q0I q0n ya)] [(83,f83)] [] 0
noncomputable def zb:=zk jr 83 f83 3 kS kU
theorem q9N:qu prog qc jr.nimp (qK prog jr.iter 83) (ww f83 3) (qh kS kU (qf zb)):=gk jr qe qa (alc q0Y aln) aln (b1 func83) func83
noncomputable def q5V:=q9 [(84,q8 q0I q0n ya)] [(83,f83)] [((83,3),qh kS kU (qf zb))] 0
noncomputable def z7:=qj q5V 83 f83 true yK yI
theorem q3h:qW prog qc 83 (q8 yK yI z7):=sk q5V qe qa (alc q0Y aln) (alc (lk func83 q9N) aln) (b1 func83) func83
def yU:FIn:=⟨[(.imm [(.int .i64),(.int .i64)]),(.fn 84 [] [])],[]⟩
def yR:List FOut:=[⟨(.int .i64),[],none⟩]
noncomputable def q2D:=q9 [(83,q8 yK yI z7),(84,q8 q0I q0n ya)] [(167,f167)] [] 0
noncomputable def zW:=qj q2D 167 f167 true yU yR
theorem q7v:qW prog qc 167 (q8 yU yR zW):=sk q2D qe qa (alc q3h (alc q0Y aln)) aln (b1 func167) func167
def qbA:FIn:=⟨[(.imm [(.int .i64),(.int .i64)])],[]⟩
def qbG:List FOut:=[⟨(.int .i64),[],none⟩]
noncomputable def qiT:=q9 [(84,q8 q0I q0n ya),(167,q8 yU yR zW)] [(106,f106)] [] 0
noncomputable def q39:=qj qiT 106 f106 true qbA qbG
theorem qmW:qW prog qc 106 (q8 qbA qbG q39):=sk qiT qe qa (alc q0Y (alc q7v aln)) aln (b1 func106) func106
def qbk:FIn:=⟨[(.int .i64)],[]⟩
def qbU:List FOut:=[⟨(.int .i64),[],none⟩]
noncomputable def qiD:=q9 [] [(183,f183)] [] 0
noncomputable def q3i:=qj qiD 183 f183 true qbk qbU
theorem qmY:qW prog qc 183 (q8 qbk qbU q3i):=sk qiD qe qa aln aln (b1 func183) func183
def qbf:FIn:=⟨[(.imm [(.int .i64),(.int .i64)])],[]⟩
def qbq:List FOut:=[⟨(.int .i64),[],none⟩]
noncomputable def qiU:=q9 [(106,q8 qbA qbG q39),(183,q8 qbk qbU q3i)] [(130,f130)] [] 0
noncomputable def q3l:=qj qiU 130 f130 true qbf qbq
theorem qmZ:qW prog qc 130 (q8 qbf qbq q3l):=sk qiU qe qa (alc qmW (alc qmY aln)) aln (b1 func130) func130
def q1j:FIn:=⟨[(.imm [(.int .i64)])],[]⟩
def q1q:List FOut:=[⟨(.vec 0),[.vec 3 [(.int .i64)]],none⟩]
noncomputable def qfB:=q9 [] [(227,f227)] [] 0
abbrev q44:=q1j
abbrev q4p:=q1q
noncomputable abbrev q4l:=qfB
noncomputable def q4g:=qj q4l 227 f227 false q44 q4p
theorem q9Q:qW prog qc 227 (q8 q44 q4p q4g):=qme (E:=q4l) qe ⟨qcA qa,⟨aln,aln⟩,aln,(b1 func227)⟩ func227 (by kernel_rfl) (by kernel_rfl) (fun _=>rfl)
theorem qbz(x0:R):q4g [.r x0]=(.br (ilt 0 (qg x0)) (.br (ile ((qg [])+(qg x0)) 17592186044416) (.leaf (0,[(.r (zE [] x0))])) .fail) .fail):=by kernel_rfl
def qcV:Go.Shelf.Ren:=⟨fun|41=>227|n=>n,fun|4=>4|22=>38|23=>3|n=>n,fun n=>n⟩
noncomputable def wu:=qFE
theorem qbR:qW prog qc 227 (q8 q1j q1q wu):=qCN (ρ:=qcV) ⟨by kernel_rfl,⟨ "slices.Clone[[]int,int]",by decide,func227.trans (congrArg some (by kernel_rfl))⟩,underlying4,isAgg4,sizeOf4,zeroValue4,underlying38,isAgg38,sizeOf38,zeroValue38,underlying3,isAgg3,sizeOf3,zeroValue3,by kernel_rfl⟩ q9Q (qGX qbz)
def zH:FIn:=⟨[.str,.str],[]⟩
def zF:List FOut:=[⟨.bool,[],none⟩]
noncomputable def ke:=q9 [] [(289,f289)] [] 0
noncomputable def qC:=qj ke 289 f289 true zH zF
theorem yt:qW prog qc 289 (q8 zH zF qC):=sk ke qe qa aln aln (b1 func289) func289
def vE:FIn:=⟨[.str,.str],[]⟩
def vn:List FOut:=[⟨.str,[],none⟩]
noncomputable def uD:=q9 [(289,q8 zH zF qC)] [(245,f245)] [] 0
noncomputable def qX:=qj uD 245 f245 true vE vn
theorem q30:qW prog qc 245 (q8 vE vn qX):=sk uD qe qa (alc yt aln) aln (b1 func245) func245
def jQ:FIn:=⟨[.str,.str],[]⟩
def jS:List FOut:=[⟨.str,[],none⟩]
noncomputable def q80:=q9 [(245,q8 vE vn qX)] [(194,f194)] [] 0
noncomputable def qV:=qj q80 194 f194 true jQ jS
theorem q0i:qW prog qc 194 (q8 jQ jS qV):=sk q80 qe qa (alc q30 aln) aln (b1 func194) func194
def qj9:FIn:=⟨[.str,.str],[]⟩
def qiA:List FOut:=[⟨.str,[],none⟩]
noncomputable def q6L:List PV->TR:=qDG
set_option maxRecDepth 100000 in
theorem qmi:qW prog qc 295 (q8 qj9 qiA q6L):=qC3 lays160 (yA func295 (by kernel_rfl) (by kernel_rfl)) (by kernel_rfl)
def uG:FIn:=⟨[.str],[]⟩
def uK:List FOut:=[⟨(.int .i64),[],none⟩]
noncomputable def qlQ:=q9 [(194,q8 jQ jS qV),(295,q8 qj9 qiA q6L)] [(242,f242)] [] 0
noncomputable def qU:=qj qlQ 242 f242 true uG uK
theorem u5:qW prog qc 242 (q8 uG uK qU):=sk qlQ qe qa (alc q0i (alc qmi aln)) aln (b1 func242) func242
def q1U:FIn:=⟨[(.imm [.str])],[]⟩
def q27:List FOut:=[⟨(.int .i64),[],none⟩]
def qey:Tmpl:={ t:=(ql 6 ((.imm [.str])::(.int .i64)::(.int .i64)::ql 9 [])),h:=[] }
def qdF:List Out:=[⟨(.exit 0),{ t:=(ql 18 []),h:=[] }⟩,⟨.ret,{ t:=(.any::.any::(.int .i64)::ql 15 []),h:=[] }⟩]
noncomputable def q8g:=q9 [(242,q8 uG uK qU)] [(191,f191)] [] 0
noncomputable def q59:=zk q8g 191 f191 3 qey qdF
theorem qoA:qu prog qc q8g.nimp (qK prog q8g.iter 191) (ww f191 3) (qh qey qdF (qf q59)):=gk q8g qe qa (alc u5 aln) aln (b1 func191) func191
noncomputable def qpJ:=q9 [(242,q8 uG uK qU)] [(191,f191)] [((191,3),qh qey qdF (qf q59))] 0
noncomputable def w8:=qj qpJ 191 f191 true q1U q27
theorem q18:qW prog qc 191 (q8 q1U q27 w8):=sk qpJ qe qa (alc u5 aln) (alc (lk func191 qoA) aln) (b1 func191) func191
def qc0:FIn:=⟨[.str],[]⟩
def qca:List FOut:=[⟨(.tuple [(.int .i64),.any]),[],none⟩]
noncomputable def jl:List PV->TR:=qD7
set_option maxRecDepth 100000 in
theorem qdb:qW prog qc 292 (q8 qc0 qca jl):=qCG lays172 (yA func292 (by kernel_rfl) (by kernel_rfl))
def q5K:FIn:=⟨[.str,.str],[]⟩
def q4x:List FOut:=[⟨(.tuple [(.int .i64),(.int .i64),.bool]),[],none⟩]
noncomputable def qm9:=q9 [(292,q8 qc0 qca jl)] [(237,f237)] [] 0
noncomputable def jX:=qj qm9 237 f237 true q5K q4x
theorem q7s:qW prog qc 237 (q8 q5K q4x jX):=sk qm9 qe qa (alc qdb aln) aln (b1 func237) func237
def q6T:FIn:=⟨[(.int .i64)],[]⟩
def q6O:List FOut:=[⟨(.tuple [.str,(.int .i64)]),[],none⟩]
noncomputable def qjg:=q9 [(105,q8 q8Z q8X wt)] [(238,f238)] [] 0
noncomputable def uS:=qj qjg 238 f238 true q6T q6O
theorem qdc:qW prog qc 238 (q8 q6T q6O uS):=sk qjg qe qa (alc q8y aln) aln (b1 func238) func238
def vH:FIn:=⟨[(.ptr 0 0)],[.big [.bool,(.int .i64)] .i64 232]⟩
def vM:List FOut:=[⟨(.ptr 0 0),[.big [.bool,(.int .i64)] .i64 232],none⟩]
def q1r:Tmpl:={ t:=((.ptr 0 0)::ql 28 []),h:=[.big [.bool,(.int .i64)] .i64 232] }
def q1m:List Out:=[⟨(.exit 0),{ t:=((.ptr 0 0)::ql 28 []),h:=[.big [.bool,(.int .i64)] .i64 232] }⟩]
noncomputable def yE:=q9 [] [(293,f293)] [] 1
noncomputable def vQ:=zk yE 293 f293 2 q1r q1m
theorem qbZ:qu prog qc yE.nimp (qK prog yE.iter 293) (ww f293 2) (qh q1r q1m (qf vQ)):=gk yE qe qa aln aln (b1 func293) func293
noncomputable def q83:=q9 [] [(293,f293)] [((293,2),qh q1r q1m (qf vQ))] 1
noncomputable def qL:=qj q83 293 f293 false vH vM
theorem jY:qW prog qc 293 (q8 vH vM qL):=qme (E:=q83) qe ⟨qcA qa,⟨aln,aln⟩,(alc (lk func293 qbZ) aln),(b1 func293)⟩ func293 (by kernel_rfl) (by kernel_rfl) (fun _=>rfl)
def q4a:FIn:=⟨[.str],[]⟩
def q46:List FOut:=[⟨(.ptr 0 0),[.big [.bool,(.int .i64)] .i64 232],none⟩]
def qbo:Tmpl:={ t:=(.any::.any::.any::.str::(.ptr 0 0)::ql 43 []),h:=[.big [.bool,(.int .i64)] .i64 232] }
def qbm:List Out:=[⟨(.exit 0),{ t:=(ql 4 ((.ptr 0 0)::ql 43 [])),h:=[.big [.bool,(.int .i64)] .i64 232] }⟩]
noncomputable def qdn:List (FuncId×z8):=[(194,q8 jQ jS qV),(292,q8 qc0 qca jl),(293,q8 vH vM qL)]
theorem qiS:∀x,x∈qdn->qW prog qc x.1 x.2:=(alc q0i (alc qdb (alc jY aln)))
noncomputable def q6V:=q9 qdn [(239,f239)] [] 0
noncomputable def q2W:=zk q6V 239 f239 5 qbo qbm
theorem qn5:qu prog qc q6V.nimp (qK prog q6V.iter 239) (ww f239 5) (qh qbo qbm (qf q2W)):=gk q6V qe qa qiS aln (b1 func239) func239
noncomputable def qnZ:=q9 qdn [(239,f239)] [((239,5),qh qbo qbm (qf q2W))] 0
noncomputable def wg:=qj qnZ 239 f239 false q4a q46
theorem q55:qW prog qc 239 (q8 q4a q46 wg):=qme (E:=qnZ) qe ⟨qcA qa,⟨qiS,aln⟩,(alc (lk func239 qn5) aln),(b1 func239)⟩ func239 (by kernel_rfl) (by kernel_rfl) (fun _=>rfl)
def jz:FIn:=⟨[(.ptr 0 0),(.ptr 1 0),(.int .i64),(.int .i64)],[.big [.bool,(.int .i64)] .i64 232,.big [.bool,(.int .i64)] .i64 232]⟩
def jA:List FOut:=[⟨(.tuple []),[.big [.bool,(.int .i64)] .i64 232,.big [.bool,(.int .i64)] .i64 232],none⟩]
def q2R:Tmpl:={ t:=((.ptr 0 0)::(.ptr 1 0)::(.int .i64)::(.int .i64)::ql 4 ((.int .i64)::(.int .i64)::ql 73 [])),h:=[.big [.bool,(.int .i64)] .i64 232,.big [.bool,(.int .i64)] .i64 232] }
def q2S:List Out:=[⟨(.exit 0),{ t:=((.ptr 0 0)::ql 82 []),h:=[.big [.bool,(.int .i64)] .i64 232,.big [.bool,(.int .i64)] .i64 232] }⟩]
noncomputable def kp:=q9 [(293,q8 vH vM qL)] [(294,f294)] [] 2
noncomputable def vJ:=zk kp 294 f294 3 q2R q2S
theorem qeb:qu prog qc kp.nimp (qK prog kp.iter 294) (ww f294 3) (qh q2R q2S (qf vJ)):=gk kp qe qa (alc jY aln) aln (b1 func294) func294
noncomputable def qaX:=q9 [(293,q8 vH vM qL)] [(294,f294)] [((294,3),qh q2R q2S (qf vJ))] 2
noncomputable def qP:=qj qaX 294 f294 true jz jA
theorem uu:qW prog qc 294 (q8 jz jA qP):=sk qaX qe qa (alc jY aln) (alc (lk func294 qeb) aln) (b1 func294) func294
def q5l:FIn:=⟨[(.ptr 0 0),(.ptr 1 0)],[.big [.bool,(.int .i64)] .i64 232,.big [.bool,(.int .i64)] .i64 232]⟩
def q5t:List FOut:=[⟨(.ptr 2 0),[.big [.bool,(.int .i64)] .i64 232,.big [.bool,(.int .i64)] .i64 232,.big [.bool,(.int .i64)] .i64 232],none⟩]
def q2I:Tmpl:={ t:=((.ptr 0 0)::(.ptr 1 0)::.any::.any::.any::(.ptr 2 0)::ql 15 ((.int .i64)::(.int .i64)::ql 14 [])),h:=[.big [.bool,(.int .i64)] .i64 232,.big [.bool,(.int .i64)] .i64 232,.big [.bool,(.int .i64)] .i64 232] }
def q2J:List Out:=[⟨(.exit 0),{ t:=(ql 5 ((.ptr 2 0)::ql 31 [])),h:=[.big [.bool,(.int .i64)] .i64 232,.big [.bool,(.int .i64)] .i64 232,.big [.bool,(.int .i64)] .i64 232] }⟩]
noncomputable def ko:=q9 [(294,q8 jz jA qP)] [(240,f240)] [] 2
noncomputable def jK:=zk ko 240 f240 4 q2I q2J
theorem qes:qu prog qc ko.nimp (qK prog ko.iter 240) (ww f240 4) (qh q2I q2J (qf jK)):=gk ko qe qa (alc uu aln) aln (b1 func240) func240
noncomputable def qbb:=q9 [(294,q8 jz jA qP)] [(240,f240)] [((240,4),qh q2I q2J (qf jK))] 2
noncomputable def ui:=qj qbb 240 f240 false q5l q5t
theorem qhg:qW prog qc 240 (q8 q5l q5t ui):=qme (E:=qbb) qe ⟨qcA qa,⟨(alc uu aln),aln⟩,(alc (lk func240 qes) aln),(b1 func240)⟩ func240 (by kernel_rfl) (by kernel_rfl) (fun _=>rfl)
def q2p:FIn:=⟨[(.ptr 0 0)],[.big [.bool,(.int .i64)] .i64 232]⟩
def q2d:List FOut:=[⟨.str,[.big [.bool,(.int .i64)] .i64 232],none⟩]
noncomputable def za:List PV->TR:=qEu
theorem q2L:qW prog qc 288 (q8 q2p q2d za):=qCB (by unfold qc;exact qMf)
def kq:FIn:=⟨[(.ptr 0 0)],[.big [.bool,(.int .i64)] .i64 232]⟩
def kr:List FOut:=[⟨(.tuple [.str,(.int .i64)]),[.big [.bool,(.int .i64)] .i64 232],none⟩]
noncomputable def q85:=q9 [(242,q8 uG uK qU),(288,q8 q2p q2d za)] [(241,f241)] [] 1
noncomputable def zZ:=qj q85 241 f241 true kq kr
theorem q5p:qW prog qc 241 (q8 kq kr zZ):=sk q85 qe qa (alc u5 (alc q2L aln)) aln (b1 func241) func241
def q9K:FIn:=⟨[.str,.str],[]⟩
def q9G:List FOut:=[⟨(.tuple [.str,(.int .i64)]),[],none⟩]
noncomputable def qq9:=q9 [(191,q8 q1U q27 w8),(237,q8 q5K q4x jX),(238,q8 q6T q6O uS),(239,q8 q4a q46 wg),(240,q8 q5l q5t ui),(241,q8 kq kr zZ)] [(188,f188)] [] 0
noncomputable def q3M:=qj qq9 188 f188 true q9K q9G
theorem qbr:qW prog qc 188 (q8 q9K q9G q3M):=sk qq9 qe qa (alc q18 (alc q7s (alc qdc (alc q55 (alc qhg (alc q5p aln)))))) aln (b1 func188) func188
def ja:FIn:=⟨[(.ptr 0 0),(.fn 188 [] []),.str,.str],[.cells [(.int .i64)]]⟩
def jg:List FOut:=[⟨.str,[.cells [(.int .i64)]],none⟩]
noncomputable def q2T:=q9 [(188,q8 q9K q9G q3M)] [(187,f187)] [] 1
noncomputable def zw:=qj q2T 187 f187 true ja jg
theorem q1D:qW prog qc 187 (q8 ja jg zw):=sk q2T qe qa (alc qbr aln) aln (b1 func187) func187
def jE:FIn:=⟨[(.ptr 0 0),(.imm [.str])],[.cells [(.int .i64)]]⟩
def jH:List FOut:=[⟨.str,[.cells [(.int .i64)]],none⟩]
def q5r:Tmpl:={ t:=(ql 5 (.str::(.fn 187 [(.ptr 0 0)] [])::ql 4 ((.imm [.str])::(.int .i64)::(.int .i64)::ql 9 []))),h:=[.cells [(.int .i64)]] }
def q4u:List Out:=[⟨(.exit 0),{ t:=(ql 5 (.str::ql 17 [])),h:=[.cells [(.int .i64)]] }⟩]
noncomputable def q1C:=q9 [(188,q8 q9K q9G q3M),(187,q8 ja jg zw)] [(136,f136)] [] 1
noncomputable def ju:=zk q1C 136 f136 4 q5r q4u
theorem qgx:qu prog qc q1C.nimp (qK prog q1C.iter 136) (ww f136 4) (qh q5r q4u (qf ju)):=gk q1C qe qa (alc qbr (alc q1D aln)) aln (b1 func136) func136
noncomputable def qfs:=q9 [(188,q8 q9K q9G q3M),(187,q8 ja jg zw)] [(136,f136)] [((136,4),qh q5r q4u (qf ju))] 1
noncomputable def qp:=qj qfs 136 f136 true jE jH
theorem yp:qW prog qc 136 (q8 jE jH qp):=sk qfs qe qa (alc qbr (alc q1D aln)) (alc (lk func136 qgx) aln) (b1 func136) func136
def q0v:FIn:=⟨[(.ptr 0 0),(.ptr 1 0)],[.big [.bool,(.int .i64)] .i64 232,.big [.bool,(.int .i64)] .i64 232]⟩
def q0p:List FOut:=[⟨(.int .i64),[.big [.bool,(.int .i64)] .i64 232,.big [.bool,(.int .i64)] .i64 232],none⟩]
def q1Z:Tmpl:={ t:=((.ptr 0 0)::(.ptr 1 0)::.any::.any::.any::(.int .i64)::ql 53 []),h:=[.big [.bool,(.int .i64)] .i64 232,.big [.bool,(.int .i64)] .i64 232] }
def q21:List Out:=[⟨(.exit 0),{ t:=(ql 59 []),h:=[.big [.bool,(.int .i64)] .i64 232,.big [.bool,(.int .i64)] .i64 232] }⟩,⟨.ret,{ t:=(ql 4 ((.int .i64)::ql 54 [])),h:=[.big [.bool,(.int .i64)] .i64 232,.big [.bool,(.int .i64)] .i64 232] }⟩]
noncomputable def uE:=q9 [] [(340,f340)] [] 2
noncomputable def jq:=zk uE 340 f340 6 q1Z q21
theorem qcw:qu prog qc uE.nimp (qK prog uE.iter 340) (ww f340 6) (qh q1Z q21 (qf jq)):=gk uE qe qa aln aln (b1 func340) func340
noncomputable def qa9:=q9 [] [(340,f340)] [((340,6),qh q1Z q21 (qf jq))] 2
noncomputable def wI:=qj qa9 340 f340 true q0v q0p
theorem q63:qW prog qc 340 (q8 q0v q0p wI):=sk qa9 qe qa aln (alc (lk func340 qcw) aln) (b1 func340) func340
def q2o:FIn:=⟨[(.ptr 0 0),(.ptr 1 0)],[.big [.bool,(.int .i64)] .i64 232,.big [.bool,(.int .i64)] .i64 232]⟩
def q2y:List FOut:=[⟨(.tuple []),[.big [.bool,(.int .i64)] .i64 232,.big [.bool,(.int .i64)] .i64 232],none⟩]
noncomputable def qcR:=q9 [(294,q8 jz jA qP),(340,q8 q0v q0p wI)] [(347,f347)] [] 2
noncomputable def wP:=qj qcR 347 f347 true q2o q2y
theorem q87:qW prog qc 347 (q8 q2o q2y wP):=sk qcR qe qa (alc uu (alc q63 aln)) aln (b1 func347) func347
def qjP:FIn:=⟨[(.imm [.str])],[]⟩
def qjI:List FOut:=[⟨(.tuple [.str,(.int .i64)]),[],none⟩]
def qdJ:Tmpl:={ t:=(ql 4 ((.ptr 0 0)::ql 4 ((.imm [.str])::(.int .i64)::(.int .i64)::ql 12 []))),h:=[.big [.bool,(.int .i64)] .i64 232] }
def qdU:List Out:=[⟨(.exit 0),{ t:=(ql 4 ((.ptr 0 0)::ql 19 [])),h:=[.big [.bool,(.int .i64)] .i64 232] }⟩]
noncomputable def qgr:List (FuncId×z8):=[(239,q8 q4a q46 wg),(241,q8 kq kr zZ),(347,q8 q2o q2y wP)]
theorem qkV:∀x,x∈qgr->qW prog qc x.1 x.2:=(alc q55 (alc q5p (alc q87 aln)))
noncomputable def q8J:=q9 qgr [(383,f383)] [] 0
noncomputable def q4I:=zk q8J 383 f383 4 qdJ qdU
theorem qoz:qu prog qc q8J.nimp (qK prog q8J.iter 383) (ww f383 4) (qh qdJ qdU (qf q4I)):=gk q8J qe qa qkV aln (b1 func383) func383
noncomputable def qqF:=q9 qgr [(383,f383)] [((383,4),qh qdJ qdU (qf q4I))] 0
noncomputable def q9V:=qj qqF 383 f383 true qjP qjI
theorem qsn:qW prog qc 383 (q8 qjP qjI q9V):=sk qqF qe qa qkV (alc (lk func383 qoz) aln) (b1 func383) func383
def q9O:FIn:=⟨[.str,.str],[]⟩
def q9d:List FOut:=[⟨(.tuple [.str,(.int .i64)]),[],none⟩]
noncomputable def qqN:=q9 [(191,q8 q1U q27 w8),(237,q8 q5K q4x jX),(238,q8 q6T q6O uS),(383,q8 qjP qjI q9V)] [(345,f345)] [] 0
noncomputable def q1O:=qj qqN 345 f345 true q9O q9d
theorem qbX:qW prog qc 345 (q8 q9O q9d q1O):=sk qqN qe qa (alc q18 (alc q7s (alc qdc (alc qsn aln)))) aln (b1 func345) func345
def q7b:FIn:=⟨[.str],[]⟩
def q7m:List FOut:=[⟨(.int .i64),[],none⟩]
noncomputable def qnX:=q9 [] [(192,f192)] [] 0
noncomputable def yg:=qj qnX 192 f192 true q7b q7m
theorem q9H:qW prog qc 192 (q8 q7b q7m yg):=sk qnX qe qa aln aln (b1 func192) func192
def q7X:FIn:=⟨[.str],[]⟩
def q7u:List FOut:=[⟨.str,[],none⟩]
noncomputable def qfh:=q9 [(192,q8 q7b q7m yg)] [(346,f346)] [] 0
noncomputable def q14:=qj qfh 346 f346 true q7X q7u
theorem qke:qW prog qc 346 (q8 q7X q7u q14):=sk qfh qe qa (alc q9H aln) aln (b1 func346) func346
def qeo:FIn:=⟨[.str,.str],[]⟩
def qdP:List FOut:=[⟨(.tuple [.str,(.int .i64)]),[],none⟩]
noncomputable def qr1:=q9 [(191,q8 q1U q27 w8),(345,q8 q9O q9d q1O),(346,q8 q7X q7u q14)] [(290,f290)] [] 0
noncomputable def q6y:=qj qr1 290 f290 true qeo qdP
theorem qik:qW prog qc 290 (q8 qeo qdP q6y):=sk qr1 qe qa (alc q18 (alc qbX (alc qke aln))) aln (b1 func290) func290
def uL:FIn:=⟨[(.ptr 0 0),(.fn 290 [] []),.str,.str],[.cells [(.int .i64)]]⟩
def ka:List FOut:=[⟨.str,[.cells [(.int .i64)]],none⟩]
noncomputable def q32:=q9 [(290,q8 qeo qdP q6y)] [(187,f187)] [] 1
noncomputable def wG:=qj q32 187 f187 true uL ka
theorem q8C:qW prog qc 187 (q8 uL ka wG):=sk q32 qe qa (alc qik aln) aln (b1 func187) func187
def q3A:FIn:=⟨[(.ptr 0 0),.str,.str],[.cells [(.int .i64)]]⟩
def q3s:List FOut:=[⟨.str,[.cells [(.int .i64)]],none⟩]
noncomputable def qf2:=q9 [(290,q8 qeo qdP q6y),(187,q8 uL ka wG)] [(234,f234)] [] 1
noncomputable def vO:=qj qf2 234 f234 true q3A q3s
theorem q9Y:qW prog qc 234 (q8 q3A q3s vO):=sk qf2 qe qa (alc qik (alc q8C aln)) aln (b1 func234) func234
def q8L:FIn:=⟨[(.ptr 0 0),.str,.str,.str,.str],[.cells [(.int .i64)]]⟩
def q8Q:List FOut:=[⟨(.tuple [.str,.str]),[.cells [(.int .i64)]],none⟩]
noncomputable def qlp:=q9 [(136,q8 jE jH qp),(234,q8 q3A q3s vO)] [(262,f262)] [] 1
noncomputable def q2A:=qj qlp 262 f262 true q8L q8Q
theorem qfa:qW prog qc 262 (q8 q8L q8Q q2A):=sk qlp qe qa (alc yp (alc q9Y aln)) aln (b1 func262) func262
def q1w:FIn:=⟨[.str,.str],[]⟩
def q1x:List FOut:=[⟨(.int .i64),[],none⟩]
noncomputable def v7:List PV->TR:=qwn
set_option maxRecDepth 100000 in
theorem q67:qW prog qc 296 (q8 q1w q1x v7):=qzm lays219 (yA func296 (by kernel_rfl) (by kernel_rfl))
def yW:FIn:=⟨[.str,.str],[]⟩
def yZ:List FOut:=[⟨(.tuple [.str,.str,.bool]),[],none⟩]
noncomputable def q2E:=q9 [(296,q8 q1w q1x v7)] [(243,f243)] [] 0
noncomputable def zT:=qj q2E 243 f243 true yW yZ
theorem q7H:qW prog qc 243 (q8 yW yZ zT):=sk q2E qe qa (alc q67 aln) aln (b1 func243) func243
def qeh:FIn:=⟨[.str,.str],[]⟩
def qdR:List FOut:=[⟨(.tuple [.str,.str,.bool]),[],none⟩]
noncomputable def qkA:=q9 [(243,q8 yW yZ zT)] [(190,f190)] [] 0
noncomputable def q4L:=qj qkA 190 f190 true qeh qdR
theorem qoe:qW prog qc 190 (q8 qeh qdR q4L):=sk qkA qe qa (alc q7H aln) aln (b1 func190) func190
def q0D:FIn:=⟨[.str],[]⟩
def q0s:List FOut:=[⟨(.tuple [.str,.str,.bool]),[],none⟩]
noncomputable def qqu:=q9 [(190,q8 qeh qdR q4L)] [(138,f138)] [] 0
noncomputable def qS:=qj qqu 138 f138 true q0D q0s
theorem uM:qW prog qc 138 (q8 q0D q0s qS):=sk qqu qe qa (alc qoe aln) aln (b1 func138) func138
def qcu:FIn:=⟨[.str,.str],[]⟩
def qd7:List FOut:=[⟨(.int .i64),[],none⟩]
noncomputable def q2e:List PV->TR:=qp4
set_option maxRecDepth 100000 in
theorem qid:qW prog qc 244 (q8 qcu qd7 q2e):=quZ lays106 (yA func244 (by kernel_rfl) (by kernel_rfl))
def qen:FIn:=⟨[.str,.str],[]⟩
def qe1:List FOut:=[⟨(.int .i64),[],none⟩]
noncomputable def ql2:=q9 [(244,q8 qcu qd7 q2e)] [(193,f193)] [] 0
noncomputable def q5u:=qj ql2 193 f193 true qen qe1
theorem qoB:qW prog qc 193 (q8 qen qe1 q5u):=sk ql2 qe qa (alc qid aln) aln (b1 func193) func193
def q50:FIn:=⟨[.str,.str],[]⟩
def q5d:List FOut:=[⟨(.tuple [(.int .i64),(.int .i64)]),[],none⟩]
noncomputable def qhj:=q9 [(191,q8 q1U q27 w8),(192,q8 q7b q7m yg),(193,q8 qen qe1 q5u),(194,q8 jQ jS qV)] [(139,f139)] [] 0
noncomputable def yq:=qj qhj 139 f139 true q50 q5d
theorem qaV:qW prog qc 139 (q8 q50 q5d yq):=sk qhj qe qa (alc q18 (alc q9H (alc qoB (alc q0i aln)))) aln (b1 func139) func139
def q7S:FIn:=⟨[(.ptr 0 0),(.ptr 1 0)],[.big [.bool,(.int .i64)] .i64 232,.big [.bool,(.int .i64)] .i64 232]⟩
def q7K:List FOut:=[⟨(.int .i64),[.big [.bool,(.int .i64)] .i64 232,.big [.bool,(.int .i64)] .i64 232],none⟩]
noncomputable def qfc:=q9 [] [(341,f341),(381,f381)] [] 2
noncomputable def q0Z:=qj qfc 341 f341 true q7S q7K
theorem qjH:qW prog qc 341 (q8 q7S q7K q0Z):=sk qfc qe qa aln aln (alc (bk func341) (alc (bk func381) aln)) func341
def q5g:FIn:=⟨[(.ptr 0 0),(.ptr 1 0)],[.big [.bool,(.int .i64)] .i64 232,.big [.bool,(.int .i64)] .i64 232]⟩
def q4X:List FOut:=[⟨(.tuple [(.ptr 2 0),(.ptr 3 0)]),[.big [.bool,(.int .i64)] .i64 232,.big [.bool,(.int .i64)] .i64 232,.big [.bool,(.int .i64)] .i64 232,.big [.bool,(.int .i64)] .i64 232],none⟩]
def q4H:Tmpl:={ t:=((.ptr 0 0)::(.ptr 1 0)::ql 4 ((.ptr 2 0)::(.ptr 3 0)::(.int .i64)::(.int .i64)::ql 80 [])),h:=[.big [.bool,(.int .i64)] .i64 232,.big [.bool,(.int .i64)] .i64 232,.big [.bool,(.int .i64)] .i64 232,.big [.bool,(.int .i64)] .i64 232] }
def q5M:List Out:=[⟨(.exit 2),{ t:=((.ptr 0 0)::(.ptr 1 0)::ql 4 ((.ptr 2 0)::(.ptr 3 0)::(.int .i64)::(.int .i64)::ql 80 [])),h:=[.big [.bool,(.int .i64)] .i64 232,.big [.bool,(.int .i64)] .i64 232,.big [.bool,(.int .i64)] .i64 232,.big [.bool,(.int .i64)] .i64 232] }⟩]
noncomputable def q3u:List (FuncId×z8):=[(293,q8 vH vM qL),(294,q8 jz jA qP),(340,q8 q0v q0p wI),(341,q8 q7S q7K q0Z)]
theorem q6i:∀x,x∈q3u->qW prog qc x.1 x.2:=(alc jY (alc uu (alc q63 (alc qjH aln))))
noncomputable def q1A:=q9 q3u [(287,f287)] [] 2
noncomputable def jB:=zk q1A 287 f287 14 q4H q5M
theorem qgS:qu prog qc q1A.nimp (qK prog q1A.iter 287) (ww f287 14) (qh q4H q5M (qf jB)):=gk q1A qe qa q6i aln (b1 func287) func287
def q6u:Tmpl:={ t:=((.ptr 0 0)::(.ptr 1 0)::ql 4 ((.ptr 2 0)::(.ptr 3 0)::(.int .i64)::ql 81 [])),h:=[.big [.bool,(.int .i64)] .i64 232,.big [.bool,(.int .i64)] .i64 232,.big [.bool,(.int .i64)] .i64 232,.big [.bool,(.int .i64)] .i64 232] }
def q6c:List Out:=[⟨(.exit 0),{ t:=(ql 6 ((.ptr 2 0)::(.ptr 3 0)::ql 82 [])),h:=[.big [.bool,(.int .i64)] .i64 232,.big [.bool,(.int .i64)] .i64 232,.big [.bool,(.int .i64)] .i64 232,.big [.bool,(.int .i64)] .i64 232] }⟩]
noncomputable def q2u:=q9 q3u [(287,f287)] [((287,14),qh q4H q5M (qf jB))] 2
noncomputable def kX:=zk q2u 287 f287 4 q6u q6c
theorem qif:qu prog qc q2u.nimp (qK prog q2u.iter 287) (ww f287 4) (qh q6u q6c (qf kX)):=gk q2u qe qa q6i (alc (lk func287 qgS) aln) (b1 func287) func287
noncomputable def qhy:=q9 q3u [(287,f287)] [((287,4),qh q6u q6c (qf kX))] 2
noncomputable def yD:=qj qhy 287 f287 false q5g q4X
theorem qas:qW prog qc 287 (q8 q5g q4X yD):=qme (E:=qhy) qe ⟨qcA qa,⟨q6i,aln⟩,(alc (lk func287 qif) aln),(b1 func287)⟩ func287 (by kernel_rfl) (by kernel_rfl) (fun _=>rfl)
def q9S:FIn:=⟨[.str,.str],[]⟩
def q9c:List FOut:=[⟨(.tuple [.str,(.int .i64)]),[],none⟩]
def qcg:Tmpl:={ t:=(ql 9 ((.int .i64)::(.int .i64)::ql 61 [])),h:=[] }
def qby:List Out:=[⟨(.exit 2),{ t:=(ql 9 ((.int .i64)::ql 62 [])),h:=[] }⟩]
noncomputable def qaS:List (FuncId×z8):=[(105,q8 q8Z q8X wt),(191,q8 q1U q27 w8),(239,q8 q4a q46 wg),(287,q8 q5g q4X yD),(288,q8 q2p q2d za)]
theorem qew:∀x,x∈qaS->qW prog qc x.1 x.2:=(alc q8y (alc q18 (alc q55 (alc qas (alc q2L aln)))))
noncomputable def q6P:=q9 qaS [(232,f232)] [] 0
noncomputable def q1h:=zk q6P 232 f232 14 qcg qby
theorem qmk:qu prog qc q6P.nimp (qK prog q6P.iter 232) (ww f232 14) (qh qcg qby (qf q1h)):=gk q6P qe qa qew aln (b1 func232) func232
def qep:Tmpl:={ t:=(ql 7 ((.ptr 1 0)::(.ptr 2 0)::ql 63 [])),h:=[.dead,.big [.bool,(.int .i64)] .i64 232,.big [.bool,(.int .i64)] .i64 232],sw:=[(7,1),(8,2)],swn:=0 }
def qe9:List Out:=[⟨(.exit 0),{ t:=(ql 7 ((.ptr 1 0)::ql 64 [])),h:=[.dead,.big [.bool,(.int .i64)] .i64 232] }⟩,⟨.ret,{ t:=(ql 4 (.str::(.int .i64)::ql 66 [])),h:=[] }⟩]
noncomputable def q8A:=q9 qaS [(232,f232)] [((232,14),qh qcg qby (qf q1h))] 0
noncomputable def q5B:=zk q8A 232 f232 7 qep qe9
theorem qoT:qu prog qc q8A.nimp (qK prog q8A.iter 232) (ww f232 7) (qh qep qe9 (qf q5B)):=gk q8A qe qa qew (alc (lk func232 qmk) aln) (b1 func232) func232
noncomputable def qpH:=q9 qaS [(232,f232)] [((232,7),qh qep qe9 (qf q5B))] 0
noncomputable def q1I:=qj qpH 232 f232 true q9S q9c
theorem qbs:qW prog qc 232 (q8 q9S q9c q1I):=sk qpH qe qa qew (alc (lk func232 qoT) aln) (b1 func232) func232
def q0o:FIn:=⟨[.str],[]⟩
def q0k:List FOut:=[⟨(.int .i64),[],none⟩]
noncomputable def qlb:=q9 [(138,q8 q0D q0s qS),(139,q8 q50 q5d yq),(232,q8 q9S q9c q1I),(242,q8 uG uK qU)] [(189,f189)] [] 0
noncomputable def zp:=qj qlb 189 f189 true q0o q0k
theorem q0P:qW prog qc 189 (q8 q0o q0k zp):=sk qlb qe qa (alc uM (alc qaV (alc qbs (alc u5 aln)))) aln (b1 func189) func189
def vk:FIn:=⟨[(.imm [.str])],[]⟩
def vh:List FOut:=[⟨(.int .i64),[],none⟩]
def q7x:Tmpl:={ t:=(ql 6 ((.imm [.str])::(.int .i64)::(.int .i64)::ql 9 [])),h:=[] }
def q7O:List Out:=[⟨(.exit 0),{ t:=(ql 18 []),h:=[] }⟩,⟨.ret,{ t:=(.any::.any::(.int .i64)::ql 15 []),h:=[] }⟩]
noncomputable def q3G:=q9 [(189,q8 q0o q0k zp)] [(137,f137)] [] 0
noncomputable def q0W:=zk q3G 137 f137 3 q7x q7O
theorem qkh:qu prog qc q3G.nimp (qK prog q3G.iter 137) (ww f137 3) (qh q7x q7O (qf q0W)):=gk q3G qe qa (alc q0P aln) aln (b1 func137) func137
noncomputable def qiY:=q9 [(189,q8 q0o q0k zp)] [(137,f137)] [((137,3),qh q7x q7O (qf q0W))] 0
noncomputable def qA:=qj qiY 137 f137 true vk vh
theorem wL:qW prog qc 137 (q8 vk vh qA):=sk qiY qe qa (alc q0P aln) (alc (lk func137 qkh) aln) (b1 func137) func137
def q3R:FIn:=⟨[.str,.str],[]⟩
def q42:List FOut:=[⟨.bool,[],none⟩]
noncomputable def q9E:=q9 [(289,q8 zH zF qC)] [(233,f233)] [] 0
noncomputable def yC:=qj q9E 233 f233 true q3R q42
theorem qfF:qW prog qc 233 (q8 q3R q42 yC):=sk q9E qe qa (alc yt aln) aln (b1 func233) func233
def qbv:FIn:=⟨[.str,.str],[]⟩
def qbH:List FOut:=[⟨.str,[],none⟩]
noncomputable def qip:=q9 [] [(235,f235)] [] 0
noncomputable def q1a:=qj qip 235 f235 true qbv qbH
theorem qmM:qW prog qc 235 (q8 qbv qbH q1a):=sk qip qe qa aln aln (b1 func235) func235
def qcb:FIn:=⟨[.str,.str],[]⟩
def qbC:List FOut:=[⟨(.tuple [.str,.str,(.int .i64)]),[],none⟩]
noncomputable def qir:=q9 [(105,q8 q8Z q8X wt),(191,q8 q1U q27 w8),(237,q8 q5K q4x jX),(239,q8 q4a q46 wg),(287,q8 q5g q4X yD),(288,q8 q2p q2d za),(347,q8 q2o q2y wP)] [(291,f291)] [] 0
noncomputable def q2X:=qj qir 291 f291 true qcb qbC
theorem qnl:qW prog qc 291 (q8 qcb qbC q2X):=sk qir qe qa (alc q8y (alc q18 (alc q7s (alc q55 (alc qas (alc q2L (alc q87 aln))))))) aln (b1 func291) func291
def qe6:FIn:=⟨[.str,.str],[]⟩
def qev:List FOut:=[⟨(.tuple [.str,(.int .i64)]),[],none⟩]
noncomputable def qrt:=q9 [(242,q8 uG uK qU),(291,q8 qcb qbC q2X)] [(236,f236)] [] 0
noncomputable def q6n:=qj qrt 236 f236 true qe6 qev
theorem qjh:qW prog qc 236 (q8 qe6 qev q6n):=sk qrt qe qa (alc u5 (alc qnl aln)) aln (b1 func236) func236
def j9:FIn:=⟨[(.ptr 0 0),(.fn 232 [] []),.str,.str],[.cells [(.int .i64)]]⟩
def uT:List FOut:=[⟨.str,[.cells [(.int .i64)]],none⟩]
noncomputable def q33:=q9 [(232,q8 q9S q9c q1I)] [(187,f187)] [] 1
noncomputable def wB:=qj q33 187 f187 true j9 uT
theorem q8m:qW prog qc 187 (q8 j9 uT wB):=sk q33 qe qa (alc qbs aln) aln (b1 func187) func187
def j8:FIn:=⟨[(.ptr 0 0),(.fn 236 [] []),.str,.str],[.cells [(.int .i64)]]⟩
def uX:List FOut:=[⟨.str,[.cells [(.int .i64)]],none⟩]
noncomputable def q3n:=q9 [(236,q8 qe6 qev q6n)] [(187,f187)] [] 1
noncomputable def qO:=qj q3n 187 f187 true j8 uX
theorem q8v:qW prog qc 187 (q8 j8 uX qO):=sk q3n qe qa (alc qjh aln) aln (b1 func187) func187
def vX:FIn:=⟨[(.ptr 0 0),.str,.str],[.cells [(.int .i64)]]⟩
def j0:List FOut:=[⟨.str,[.cells [(.int .i64)]],none⟩]
noncomputable def q9r:=q9 [(232,q8 q9S q9c q1I),(233,q8 q3R q42 yC),(234,q8 q3A q3s vO),(235,q8 qbv qbH q1a),(236,q8 qe6 qev q6n),(187,qLD [(j9,q8 j9 uT wB),(j8,q8 j8 uX qO)])] [(186,f186)] [] 1
noncomputable def qT:=qj q9r 186 f186 true vX j0
theorem yG:qW prog qc 186 (q8 vX j0 qT):=sk q9r qe qa (alc qbs (alc qfF (alc q9Y (alc qmM (alc qjh (alc (qG7 (yA func187 (by kernel_rfl) (by kernel_rfl)) (qB3 q8m (qB3 q8v qIx))) aln)))))) aln (b1 func186) func186
def kH:FIn:=⟨[.str,.str,(.fn 262 [] [])],[]⟩
def kx:List FOut:=[⟨(.tuple [.str,(.int .i64)]),[],none⟩]
noncomputable def q4h:=q9 [(137,q8 vk vh qA),(138,q8 q0D q0s qS),(186,q8 vX j0 qT),(262,q8 q8L q8Q q2A)] [(134,f134)] [] 0
noncomputable def wV:=qj q4h 134 f134 true kH kx
theorem q9Z:qW prog qc 134 (q8 kH kx wV):=sk q4h qe qa (alc wL (alc uM (alc yG (alc qfa aln)))) aln (b1 func134) func134
def qdl:FIn:=⟨[.str,.str],[]⟩
def qdx:List FOut:=[⟨(.tuple [.str,(.int .i64)]),[],none⟩]
noncomputable def qr0:=q9 [(262,q8 q8L q8Q q2A),(134,q8 kH kx wV)] [(210,f210)] [] 0
noncomputable def we:=qj qr0 210 f210 true qdl qdx
theorem qbK:qW prog qc 210 (q8 qdl qdx we):=sk qr0 qe qa (alc qfa (alc q9Z aln)) aln (b1 func210) func210
def wR:FIn:=⟨[(.agg [(.int .i64),(.int .i64),(.int .i64)])],[]⟩
def wQ:List FOut:=[⟨(.agg [(.int .i64),(.int .i64),(.int .i64)]),[],none⟩]
noncomputable def q7g:=q9 [] [(281,f281)] [] 0
noncomputable def qB:=qj q7g 281 f281 true wR wQ
theorem jC:qW prog qc 281 (q8 wR wQ qB):=sk q7g qe qa aln aln (b1 func281) func281
def qdy:FIn:=⟨[(.agg [(.int .i64),(.int .i64),(.int .i64)]),(.agg [(.int .i64),(.int .i64),(.int .i64)]),(.agg [(.int .i64),(.int .i64),(.int .i64)])],[]⟩
def qe3:List FOut:=[⟨(.int .i64),[],none⟩]
def q9T:Tmpl:={ t:=(ql 7 ((.ptr 3 0)::(.ptr 4 0)::(.ptr 5 0)::(.int .i64)::ql 7 ((.int .i64)::ql 21 []))),h:=[.dead,.dead,.dead,.cells [(.int .i64),(.int .i64),(.int .i64)],.cells [(.int .i64),(.int .i64),(.int .i64)],.cells [(.int .i64),(.int .i64),(.int .i64)]] }
def q9U:List Out:=[⟨(.exit 0),{ t:=(ql 10 ((.int .i64)::ql 29 [])),h:=[] }⟩]
noncomputable def q5j:=q9 [(281,q8 wR wQ qB)] [(276,f276)] [] 0
noncomputable def kL:=zk q5j 276 f276 5 q9T q9U
theorem qkz:qu prog qc q5j.nimp (qK prog q5j.iter 276) (ww f276 5) (qh q9T q9U (qf kL)):=gk q5j qe qa (alc jC aln) aln (b1 func276) func276
noncomputable def qkm:=q9 [(281,q8 wR wQ qB)] [(276,f276)] [((276,5),qh q9T q9U (qf kL))] 0
noncomputable def q0c:=qj qkm 276 f276 true qdy qe3
theorem qoR:qW prog qc 276 (q8 qdy qe3 q0c):=sk qkm qe qa (alc jC aln) (alc (lk func276 qkz) aln) (b1 func276) func276
def q8b:FIn:=⟨[(.int .i64)],[]⟩
def q8l:List FOut:=[⟨.bool,[],none⟩]
noncomputable def qkn:=q9 [] [(325,f325)] [] 0
noncomputable def vw:=qj qkn 325 f325 true q8b q8l
theorem qeL:qW prog qc 325 (q8 q8b q8l vw):=sk qkn qe qa aln aln (b1 func325) func325
def q2v:FIn:=⟨[(.int .i64),(.int .i64),(.ptr 0 0),(.ptr 1 0)],[.cells [(.imm [(.int .i64)])],.cells [(.int .i64)]]⟩
def q2f:List FOut:=[⟨.str,[.cells [(.imm [(.int .i64)])],.cells [(.int .i64)]],none⟩]
noncomputable def qlw:=q9 [(53,q8 q2r q2a wH)] [(327,f327)] [] 2
noncomputable def uF:=qj qlw 327 f327 true q2v q2f
theorem q3r:qW prog qc 327 (q8 q2v q2f uF):=sk qlw qe qa (alc q3C aln) aln (b1 func327) func327
def qeq:FIn:=⟨[(.int .i64),(.int .i64),(.fn 327 [] [(.ptr 0 0),(.ptr 1 0)])],[.cells [(.imm [(.int .i64)])],.cells [(.int .i64)]]⟩
def qdQ:List FOut:=[⟨(.agg [(.int .i64),(.int .i64),(.imm [.str])]),[.cells [(.imm [(.int .i64)])],.cells [(.int .i64)]],none⟩]
def q7Q:Tmpl:={ t:=(.any::(.int .i64)::(.fn 327 [] [(.ptr 0 0),(.ptr 1 0)])::.any::.any::.any::(.ptr 2 0)::(.ptr 3 0)::(.int .i64)::ql 4 ((.int .i64)::(.int .i64)::.any::.any::(.int .i64)::(.int .i64)::ql 14 [])),h:=[.cells [(.imm [(.int .i64)])],.cells [(.int .i64)],.cells [(.int .i64),(.int .i64),.nils],.cells [(.int .i64),(.int .i64),(.vec 4)],.vec 108 [.str]] }
def q7J:List Out:=[⟨(.exit 2),{ t:=(.any::(.int .i64)::(.fn 327 [] [(.ptr 0 0),(.ptr 1 0)])::.any::.any::.any::(.ptr 2 0)::(.ptr 3 0)::ql 5 ((.int .i64)::(.int .i64)::ql 18 [])),h:=[.cells [(.imm [(.int .i64)])],.cells [(.int .i64)],.cells [(.int .i64),(.int .i64),.nils],.cells [(.int .i64),(.int .i64),(.vec 4)],.vec 108 [.str]] }⟩]
noncomputable def q3H:=q9 [(327,q8 q2v q2f uF)] [(326,f326)] [] 2
noncomputable def u9:=zk q3H 326 f326 10 q7Q q7J
theorem qjR:qu prog qc q3H.nimp (qK prog q3H.iter 326) (ww f326 10) (qh q7Q q7J (qf u9)):=gk q3H qe qa (alc q3r aln) aln (b1 func326) func326
def q9l:Tmpl:={ t:=(.any::(.int .i64)::(.fn 327 [] [(.ptr 0 0),(.ptr 1 0)])::.any::.any::.any::(.ptr 2 0)::(.ptr 3 0)::ql 5 ((.int .i64)::(.int .i64)::ql 18 [])),h:=[.cells [(.imm [(.int .i64)])],.cells [(.int .i64)],.cells [(.int .i64),(.int .i64),.nils],.cells [(.int .i64),(.int .i64),(.vec 4)],.vec 108 [.str]],prc:=[(7,2,108,[.str])] }
def q9u:List Out:=[⟨(.exit 0),{ t:=(ql 6 ((.ptr 2 0)::(.ptr 3 0)::ql 25 [])),h:=[.cells [(.imm [(.int .i64)])],.cells [(.int .i64)],.cells [(.int .i64),(.int .i64),.nils],.cells [(.int .i64),(.int .i64),(.vec 4)],.vec 108 [.str]] }⟩]
noncomputable def q4D:=q9 [(327,q8 q2v q2f uF)] [(326,f326)] [((326,10),qh q7Q q7J (qf u9))] 2
noncomputable def kM:=zk q4D 326 f326 4 q9l q9u
theorem qlj:qu prog qc q4D.nimp (qK prog q4D.iter 326) (ww f326 4) (qh q9l q9u (qf kM)):=gk q4D qe qa (alc q3r aln) (alc (lk func326 qjR) aln) (b1 func326) func326
noncomputable def qkK:=q9 [(327,q8 q2v q2f uF)] [(326,f326)] [((326,4),qh q9l q9u (qf kM))] 2
noncomputable def q4O:=qj qkK 326 f326 true qeq qdQ
theorem qoK:qW prog qc 326 (q8 qeq qdQ q4O):=sk qkK qe qa (alc q3r aln) (alc (lk func326 qlj) aln) (b1 func326) func326
def qjy:FIn:=⟨[(.int .i64),(.int .i64),(.imm [(.int .i64)])],[]⟩
def qk7:List FOut:=[⟨(.tuple [(.agg [(.int .i64),(.int .i64),(.imm [.str])]),(.int .i64)]),[],none⟩]
noncomputable def qr4:=q9 [(325,q8 q8b q8l vw),(326,q8 qeq qdQ q4O),(327,q8 q2v q2f uF)] [(277,f277)] [] 0
noncomputable def q9q:=qj qr4 277 f277 true qjy qk7
theorem qsw:qW prog qc 277 (q8 qjy qk7 q9q):=sk qr4 qe qa (alc qeL (alc qoK (alc q3r aln))) aln (b1 func277) func277
def q3x:FIn:=⟨[(.imm [.str])],[]⟩
def q3t:List FOut:=[⟨(.int .i64),[],none⟩]
def q4Z:Tmpl:={ t:=(ql 6 ((.imm [.str])::(.int .i64)::(.int .i64)::ql 9 [])),h:=[] }
def q4U:List Out:=[⟨(.exit 0),{ t:=(ql 18 []),h:=[] }⟩,⟨.ret,{ t:=(.any::.any::(.int .i64)::ql 15 []),h:=[] }⟩]
noncomputable def q1E:=q9 [(189,q8 q0o q0k zp)] [(333,f333)] [] 0
noncomputable def jy:=zk q1E 333 f333 3 q4Z q4U
theorem qge:qu prog qc q1E.nimp (qK prog q1E.iter 333) (ww f333 3) (qh q4Z q4U (qf jy)):=gk q1E qe qa (alc q0P aln) aln (b1 func333) func333
noncomputable def qft:=q9 [(189,q8 q0o q0k zp)] [(333,f333)] [((333,3),qh q4Z q4U (qf jy))] 0
noncomputable def vN:=qj qft 333 f333 true q3x q3t
theorem q9p:qW prog qc 333 (q8 q3x q3t vN):=sk qft qe qa (alc q0P aln) (alc (lk func333 qge) aln) (b1 func333) func333
def qbE:FIn:=⟨[(.agg [(.int .i64),(.int .i64),(.imm [.str])])],[]⟩
def qbi:List FOut:=[⟨(.int .i64),[],none⟩]
noncomputable def qiJ:=q9 [(325,q8 q8b q8l vw),(333,q8 q3x q3t vN)] [(328,f328)] [] 0
noncomputable def jh:=qj qiJ 328 f328 true qbE qbi
theorem qcr:qW prog qc 328 (q8 qbE qbi jh):=sk qiJ qe qa (alc qeL (alc q9p aln)) aln (b1 func328) func328
def q8k:FIn:=⟨[(.ptr 0 0),.str,.str,.str,.str],[.cells [(.int .i64)]]⟩
def q8s:List FOut:=[⟨(.tuple [.str,.str]),[.cells [(.int .i64)]],none⟩]
noncomputable def qlu:=q9 [(136,q8 jE jH qp)] [(135,f135)] [] 1
noncomputable def q2B:=qj qlu 135 f135 true q8k q8s
theorem qeV:qW prog qc 135 (q8 q8k q8s q2B):=sk qlu qe qa (alc yp aln) aln (b1 func135) func135
def kJ:FIn:=⟨[.str,.str,(.fn 135 [] [])],[]⟩
def kC:List FOut:=[⟨(.tuple [.str,(.int .i64)]),[],none⟩]
noncomputable def q49:=q9 [(135,q8 q8k q8s q2B),(137,q8 vk vh qA),(138,q8 q0D q0s qS),(186,q8 vX j0 qT)] [(134,f134)] [] 0
noncomputable def wU:=qj q49 134 f134 true kJ kC
theorem q9n:qW prog qc 134 (q8 kJ kC wU):=sk q49 qe qa (alc qeV (alc wL (alc uM (alc yG aln)))) aln (b1 func134) func134
def q6p:FIn:=⟨[.str,.str],[]⟩
def q6m:List FOut:=[⟨(.tuple [.str,(.int .i64)]),[],none⟩]
noncomputable def qq7:=q9 [(135,q8 q8k q8s q2B),(134,q8 kJ kC wU)] [(77,f77)] [] 0
noncomputable def vq:=qj qq7 77 f77 true q6p q6m
theorem q3g:qW prog qc 77 (q8 q6p q6m vq):=sk qq7 qe qa (alc qeV (alc q9n aln)) aln (b1 func77) func77
def q8p:FIn:=⟨[(.ptr 0 0),.str,.str,.str,.str],[.cells [(.int .i64)]]⟩
def q8H:List FOut:=[⟨(.tuple [.str,.str]),[.cells [(.int .i64)]],none⟩]
noncomputable def qkp:=q9 [(136,q8 jE jH qp)] [(372,f372)] [] 1
noncomputable def q2j:=qj qkp 372 f372 true q8p q8H
theorem qfu:qW prog qc 372 (q8 q8p q8H q2j):=sk qkp qe qa (alc yp aln) aln (b1 func372) func372
def kG:FIn:=⟨[.str,.str,(.fn 372 [] [])],[]⟩
def kP:List FOut:=[⟨(.tuple [.str,(.int .i64)]),[],none⟩]
noncomputable def q4m:=q9 [(137,q8 vk vh qA),(138,q8 q0D q0s qS),(186,q8 vX j0 qT),(372,q8 q8p q8H q2j)] [(134,f134)] [] 0
noncomputable def wM:=qj q4m 134 f134 true kG kP
theorem q9L:qW prog qc 134 (q8 kG kP wM):=sk q4m qe qa (alc wL (alc uM (alc yG (alc qfu aln)))) aln (b1 func134) func134
def qpu:FIn:=⟨[.str,.str],[]⟩
def qrg:List FOut:=[⟨(.tuple [.str,(.int .i64)]),[],none⟩]
noncomputable def qq1:=q9 [(137,q8 vk vh qA),(372,q8 q8p q8H q2j),(134,q8 kG kP wM)] [(315,f315)] [] 0
noncomputable def q3X:=qj qq1 315 f315 true qpu qrg
theorem qt3:qW prog qc 315 (q8 qpu qrg q3X):=sk qq1 qe qa (alc wL (alc qfu (alc q9L aln))) aln (b1 func315) func315
def qeK:FIn:=⟨[(.agg [(.int .i64),(.int .i64),(.imm [.str])])],[]⟩
def qfn:List FOut:=[⟨(.tuple [(.agg [(.int .i64),(.int .i64),(.imm [.str])]),(.int .i64)]),[],none⟩]
noncomputable def jG:List PV->TR:=qJp jh vq q3X we
theorem qjJ:qW prog qc 278 (q8 qeK qfn jG):=qFq qcr q3g qt3 qbK
def uW:FIn:=⟨[(.ptr 0 0),(.fn 345 [] []),.str,.str],[.cells [(.int .i64)]]⟩
def uY:List FOut:=[⟨.str,[.cells [(.int .i64)]],none⟩]
noncomputable def q37:=q9 [(345,q8 q9O q9d q1O)] [(187,f187)] [] 1
noncomputable def wF:=qj q37 187 f187 true uW uY
theorem q8B:qW prog qc 187 (q8 uW uY wF):=sk q37 qe qa (alc qbX aln) aln (b1 func187) func187
def q7C:FIn:=⟨[(.ptr 0 0),.str,.str],[.cells [(.int .i64)]]⟩
def q7W:List FOut:=[⟨.str,[.cells [(.int .i64)]],none⟩]
noncomputable def qeS:=q9 [(345,q8 q9O q9d q1O),(187,q8 uW uY wF)] [(365,f365)] [] 1
noncomputable def q13:=qj qeS 365 f365 true q7C q7W
theorem qjj:qW prog qc 365 (q8 q7C q7W q13):=sk qeS qe qa (alc qbX (alc q8B aln)) aln (b1 func365) func365
def q8P:FIn:=⟨[(.ptr 0 0),.str,.str,.str,.str],[.cells [(.int .i64)]]⟩
def q8n:List FOut:=[⟨(.tuple [.str,.str]),[.cells [(.int .i64)]],none⟩]
noncomputable def qkL:=q9 [(136,q8 jE jH qp),(365,q8 q7C q7W q13)] [(364,f364)] [] 1
noncomputable def q2b:=qj qkL 364 f364 true q8P q8n
theorem qf1:qW prog qc 364 (q8 q8P q8n q2b):=sk qkL qe qa (alc yp (alc qjj aln)) aln (b1 func364) func364
def kQ:FIn:=⟨[.str,.str,(.fn 364 [] [])],[]⟩
def q07:List FOut:=[⟨(.tuple [.str,(.int .i64)]),[],none⟩]
noncomputable def q4c:=q9 [(137,q8 vk vh qA),(138,q8 q0D q0s qS),(186,q8 vX j0 qT),(364,q8 q8P q8n q2b)] [(134,f134)] [] 0
noncomputable def wY:=qj q4c 134 f134 true kQ q07
theorem q9I:qW prog qc 134 (q8 kQ q07 wY):=sk q4c qe qa (alc wL (alc uM (alc yG (alc qf1 aln)))) aln (b1 func134) func134
def q40:FIn:=⟨[.str,.str],[]⟩
def q3W:List FOut:=[⟨(.tuple [.str,(.int .i64)]),[],none⟩]
noncomputable def qqU:=q9 [(364,q8 q8P q8n q2b),(134,q8 kQ q07 wY)] [(305,f305)] [] 0
noncomputable def yB:=qj qqU 305 f305 true q40 q3W
theorem q35:qW prog qc 305 (q8 q40 q3W yB):=sk qqU qe qa (alc qf1 (alc q9I aln)) aln (b1 func305) func305
def q0M:FIn:=⟨[(.ptr 0 0),.str,(.int .i64)],[.cells [(.int .i64)]]⟩
def q0f:List FOut:=[⟨.str,[.cells [(.int .i64)]],none⟩]
noncomputable def q9v:=q9 [] [(380,f380)] [] 1
noncomputable def wJ:=qj q9v 380 f380 true q0M q0f
theorem q5Q:qW prog qc 380 (q8 q0M q0f wJ):=sk q9v qe qa aln aln (b1 func380) func380
def q5x:FIn:=⟨[(.ptr 0 0),.str,.str],[.cells [(.int .i64)]]⟩
def q4V:List FOut:=[⟨.str,[.cells [(.int .i64)]],none⟩]
noncomputable def qaT:=q9 [(305,q8 q40 q3W yB),(380,q8 q0M q0f wJ)] [(334,f334)] [] 1
noncomputable def uk:=qj qaT 334 f334 true q5x q4V
theorem qh1:qW prog qc 334 (q8 q5x q4V uk):=sk qaT qe qa (alc q35 (alc q5Q aln)) aln (b1 func334) func334
def q5w:FIn:=⟨[(.ptr 0 0),.str,.str],[.cells [(.int .i64)]]⟩
def q5o:List FOut:=[⟨.str,[.cells [(.int .i64)]],none⟩]
noncomputable def qap:=q9 [(77,q8 q6p q6m vq),(380,q8 q0M q0f wJ)] [(335,f335)] [] 1
noncomputable def ul:=qj qap 335 f335 true q5w q5o
theorem qfS:qW prog qc 335 (q8 q5w q5o ul):=sk qap qe qa (alc q3g (alc q5Q aln)) aln (b1 func335) func335
def qbx:FIn:=⟨[(.agg [(.int .i64),(.int .i64),(.imm [.str])]),(.int .i64),(.int .i64)],[]⟩
def qc9:List FOut:=[⟨.str,[],none⟩]
noncomputable def qiF:=q9 [] [(336,f336)] [] 0
noncomputable def q3o:=qj qiF 336 f336 true qbx qc9
theorem qnu:qW prog qc 336 (q8 qbx qc9 q3o):=sk qiF qe qa aln aln (b1 func336) func336
def qck:FIn:=⟨[(.agg [(.int .i64),(.int .i64),(.imm [.str])]),(.imm [.str])],[]⟩
def qbu:List FOut:=[⟨(.tuple [(.imm [.str]),(.int .i64)]),[],none⟩]
def q6f:Tmpl:={ t:=(.any::(.imm [.str])::(.ptr 0 0)::ql 5 ((.ptr 1 0)::(.vec 2)::(.int .i64)::.str::ql 20 ((.int .i64)::(.int .i64)::.any::.any::(.imm [.str])::(.int .i64)::(.int .i64)::ql 30 []))),h:=[.cells [(.int .i64),(.int .i64),(.imm [.str])],.cells [(.int .i64)],.vec 108 [.str]] }
def q6s:List Out:=[⟨(.exit 2),{ t:=(.any::(.imm [.str])::(.ptr 0 0)::ql 5 ((.ptr 1 0)::(.vec 2)::.any::.str::ql 20 ((.int .i64)::(.int .i64)::ql 35 []))),h:=[.cells [(.int .i64),(.int .i64),(.imm [.str])],.cells [(.int .i64)],.vec 108 [.str]] }⟩]
noncomputable def q5v:List (FuncId×z8):=[(328,q8 qbE qbi jh),(333,q8 q3x q3t vN),(334,q8 q5x q4V uk),(335,q8 q5w q5o ul),(336,q8 qbx qc9 q3o)]
theorem q7A:∀x,x∈q5v->qW prog qc x.1 x.2:=(alc qcr (alc q9p (alc qh1 (alc qfS (alc qnu aln)))))
noncomputable def q2c:=q9 q5v [(279,f279)] [] 0
noncomputable def yj:=zk q2c 279 f279 24 q6f q6s
theorem qie:qu prog qc q2c.nimp (qK prog q2c.iter 279) (ww f279 24) (qh q6f q6s (qf yj)):=gk q2c qe qa q7A aln (b1 func279) func279
def q6e:Tmpl:={ t:=(.any::(.imm [.str])::(.ptr 0 0)::ql 5 ((.ptr 1 0)::(.vec 2)::ql 22 ((.int .i64)::(.int .i64)::ql 35 []))),h:=[.cells [(.int .i64),(.int .i64),(.imm [.str])],.cells [(.int .i64)],.vec 108 [.str]],pro:=[(9,108,[.str])] }
def q6x:List Out:=[⟨(.exit 0),{ t:=(ql 8 ((.ptr 1 0)::(.vec 2)::ql 59 [])),h:=[.dead,.cells [(.int .i64)],.vec 108 [.str]] }⟩]
noncomputable def q2C:=q9 q5v [(279,f279)] [((279,24),qh q6f q6s (qf yj))] 0
noncomputable def yi:=zk q2C 279 f279 16 q6e q6x
theorem qib:qu prog qc q2C.nimp (qK prog q2C.iter 279) (ww f279 16) (qh q6e q6x (qf yi)):=gk q2C qe qa q7A (alc (lk func279 qie) aln) (b1 func279) func279
noncomputable def qj8:=q9 q5v [(279,f279)] [((279,16),qh q6e q6x (qf yi))] 0
noncomputable def q2Z:=qj qj8 279 f279 true qck qbu
theorem qmL:qW prog qc 279 (q8 qck qbu q2Z):=sk qj8 qe qa q7A (alc (lk func279 qib) aln) (b1 func279) func279
def qjr:FIn:=⟨[(.imm [.str])],[]⟩
def qjD:List FOut:=[⟨(.tuple [.str,(.int .i64)]),[],none⟩]
def qc3:Tmpl:={ t:=(ql 5 (.str::ql 12 ((.imm [.str])::(.int .i64)::(.int .i64)::ql 15 []))),h:=[] }
def qbY:List Out:=[⟨(.exit 0),{ t:=(ql 5 (.str::ql 30 [])),h:=[] }⟩,⟨.ret,{ t:=(.any::.any::.str::(.int .i64)::ql 32 []),h:=[] }⟩]
noncomputable def q6S:=q9 [(137,q8 vk vh qA),(305,q8 q40 q3W yB)] [(280,f280)] [] 0
noncomputable def q19:=zk q6S 280 f280 11 qc3 qbY
theorem qnt:qu prog qc q6S.nimp (qK prog q6S.iter 280) (ww f280 11) (qh qc3 qbY (qf q19)):=gk q6S qe qa (alc wL (alc q35 aln)) aln (b1 func280) func280
noncomputable def qrd:=q9 [(137,q8 vk vh qA),(305,q8 q40 q3W yB)] [(280,f280)] [((280,11),qh qc3 qbY (qf q19))] 0
noncomputable def q9o:=qj qrd 280 f280 true qjr qjD
theorem qst:qW prog qc 280 (q8 qjr qjD q9o):=sk qrd qe qa (alc wL (alc q35 aln)) (alc (lk func280 qnt) aln) (b1 func280) func280
def zN:FIn:=⟨[(.imm [.str]),(.imm [.str])],[]⟩
def zR:List FOut:=[⟨(.tuple [.str,(.int .i64)]),[],none⟩]
def vC:Tmpl:={ t:=(.any::(.imm [.str])::ql 4 (.str::ql 4 ((.imm [.str])::(.int .i64)::(.int .i64)::ql 27 []))),h:=[] }
def vt:List Out:=[⟨(.exit 0),{ t:=(ql 6 (.str::ql 34 [])),h:=[] }⟩,⟨.ret,{ t:=(ql 4 (.str::(.int .i64)::ql 35 [])),h:=[] }⟩]
noncomputable def zA:=q9 [(77,q8 q6p q6m vq),(305,q8 q40 q3W yB)] [(282,f282)] [] 0
noncomputable def qI:=zk zA 282 f282 4 vC vt
theorem q3b:qu prog qc zA.nimp (qK prog zA.iter 282) (ww f282 4) (qh vC vt (qf qI)):=gk zA qe qa (alc q3g (alc q35 aln)) aln (b1 func282) func282
noncomputable def q04:=q9 [(77,q8 q6p q6m vq),(305,q8 q40 q3W yB)] [(282,f282)] [((282,4),qh vC vt (qf qI))] 0
noncomputable def qx:=qj q04 282 f282 true zN zR
theorem yL:qW prog qc 282 (q8 zN zR qx):=sk q04 qe qa (alc q3g (alc q35 aln)) (alc (lk func282 q3b) aln) (b1 func282) func282
def q2V:FIn:=⟨[(.agg [.str,.str,.str]),(.agg [(.int .i64),(.int .i64),(.int .i64)])],[]⟩
def q2Y:List FOut:=[⟨(.tuple [.str,(.int .i64)]),[],none⟩]
def q7Z:Tmpl:={ t:=(.any::.any::(.ptr 0 0)::.any::.any::.any::(.vec 2)::ql 5 ((.agg [(.int .i64),(.int .i64),(.int .i64)])::(.int .i64)::ql 25 [])),h:=[.cells [.str,.str,.str],.dead,.vec 108 [.str]],pro:=[(6,108,[.str])] }
def q7D:List Out:=[⟨(.exit 0),{ t:=(ql 6 ((.vec 2)::ql 32 [])),h:=[.dead,.dead,.vec 108 [.str]] }⟩,⟨.ret,{ t:=(ql 4 (.str::(.int .i64)::ql 33 [])),h:=[] }⟩]
noncomputable def q9a:List (FuncId×z8):=[(53,q8 q2r q2a wH),(210,q8 qdl qdx we),(281,q8 wR wQ qB),(282,q8 zN zR qx)]
theorem qf4:∀x,x∈q9a->qW prog qc x.1 x.2:=(alc q3C (alc qbK (alc jC (alc yL aln))))
noncomputable def q3E:=q9 q9a [(283,f283)] [] 0
noncomputable def ua:=zk q3E 283 f283 4 q7Z q7D
theorem qjN:qu prog qc q3E.nimp (qK prog q3E.iter 283) (ww f283 4) (qh q7Z q7D (qf ua)):=gk q3E qe qa qf4 aln (b1 func283) func283
noncomputable def qiN:=q9 q9a [(283,f283)] [((283,4),qh q7Z q7D (qf ua))] 0
noncomputable def vg:=qj qiN 283 f283 true q2V q2Y
theorem q6o:qW prog qc 283 (q8 q2V q2Y vg):=sk qiN qe qa qf4 (alc (lk func283 qjN) aln) (b1 func283) func283
def q7U:FIn:=⟨[(.imm [(.int .i64),(.int .i64),(.int .i64)])],[]⟩
def q7B:List FOut:=[⟨(.tuple [(.agg [.str,.str,.str,.str,(.imm [.str])]),.bool,(.int .i64)]),[],none⟩]
def q3T:Tmpl:={ t:=((.imm [(.int .i64),(.int .i64),(.int .i64)])::.any::(.ptr 0 0)::.any::.any::(.int .i64)::(.vec 1)::(.vec 2)::(.int .i64)::ql 15 ((.int .i64)::(.int .i64)::.any::.any::(.int .i64)::(.int .i64)::ql 141 [])),h:=[.cells [.str,.str,.str,.str,.nils],.vec 3 [(.int .i64)],.vec 108 [.str]] }
def q3Y:List Out:=[⟨(.exit 2),{ t:=((.imm [(.int .i64),(.int .i64),(.int .i64)])::.any::(.ptr 0 0)::.any::.any::(.int .i64)::(.vec 1)::(.vec 2)::(.int .i64)::ql 15 ((.int .i64)::(.int .i64)::ql 145 [])),h:=[.cells [.str,.str,.str,.str,.nils],.vec 3 [(.int .i64)],.vec 108 [.str]] }⟩]
noncomputable def yk:List (FuncId×z8):=[(53,q8 q2r q2a wH),(210,q8 qdl qdx we),(276,q8 qdy qe3 q0c),(277,q8 qjy qk7 q9q),(278,q8 qeK qfn jG),(279,q8 qck qbu q2Z),(280,q8 qjr qjD q9o),(281,q8 wR wQ qB),(282,q8 zN zR qx),(283,q8 q2V q2Y vg)]
theorem ur:∀x,x∈yk->qW prog qc x.1 x.2:=(alc q3C (alc qbK (alc qoR (alc qsw (alc qjJ (alc qmL (alc qst (alc jC (alc yL (alc q6o aln))))))))))
noncomputable def q0H:=q9 yk [(228,f228)] [] 0
noncomputable def vY:=zk q0H 228 f228 13 q3T q3Y
theorem qfC:qu prog qc q0H.nimp (qK prog q0H.iter 228) (ww f228 13) (qh q3T q3Y (qf vY)):=gk q0H qe qa ur aln (b1 func228) func228
def q4s:Tmpl:={ t:=((.imm [(.int .i64),(.int .i64),(.int .i64)])::.any::(.ptr 0 0)::.any::.any::(.int .i64)::(.vec 1)::(.vec 2)::ql 16 ((.int .i64)::(.int .i64)::ql 145 [])),h:=[.cells [.str,.str,.str,.str,.nils],.vec 3 [(.int .i64)],.vec 108 [.str]],pro:=[(6,3,[(.int .i64)]),(7,108,[.str])] }
def q4Q:List Out:=[⟨(.exit 0),{ t:=((.imm [(.int .i64),(.int .i64),(.int .i64)])::.any::(.ptr 0 0)::.any::.any::(.int .i64)::(.vec 1)::(.vec 2)::ql 163 []),h:=[.cells [.str,.str,.str,.str,.nils],.vec 3 [(.int .i64)],.vec 108 [.str]] }⟩]
noncomputable def q1F:=q9 yk [(228,f228)] [((228,13),qh q3T q3Y (qf vY))] 0
noncomputable def jx:=zk q1F 228 f228 6 q4s q4Q
theorem qgX:qu prog qc q1F.nimp (qK prog q1F.iter 228) (ww f228 6) (qh q4s q4Q (qf jx)):=gk q1F qe qa ur (alc (lk func228 qfC) aln) (b1 func228) func228
def q3K:Tmpl:={ t:=((.imm [(.int .i64),(.int .i64),(.int .i64)])::.any::(.ptr 0 0)::ql 13 ((.ptr 6 0)::(.int .i64)::(.vec 7)::ql 107 ((.int .i64)::.any::.any::(.imm [(.int .i64),(.int .i64),(.int .i64)])::(.int .i64)::(.int .i64)::ql 39 []))),h:=[.cells [.str,.str,.str,.str,.nils],.dead,.dead,.dead,.dead,.frz 108 [.str],.cells [.str,.str,.str,.str,(.vec 5)],.vec 108 [.str]],pro:=[(18,108,[.str])] }
def q3S:List Out:=[⟨(.exit 6),{ t:=((.imm [(.int .i64),(.int .i64),(.int .i64)])::.any::(.ptr 0 0)::ql 13 ((.ptr 6 0)::(.int .i64)::(.vec 7)::ql 107 ((.int .i64)::ql 44 []))),h:=[.cells [.str,.str,.str,.str,.nils],.dead,.dead,.dead,.dead,.frz 108 [.str],.cells [.str,.str,.str,.str,(.vec 5)],.vec 108 [.str]] }⟩]
noncomputable def q0z:=q9 yk [(228,f228)] [] 0
noncomputable def vZ:=zk q0z 228 f228 52 q3K q3S
theorem qfM:qu prog qc q0z.nimp (qK prog q0z.iter 228) (ww f228 52) (qh q3K q3S (qf vZ)):=gk q0z qe qa ur aln (b1 func228) func228
def q3N:Tmpl:={ t:=((.imm [(.int .i64),(.int .i64),(.int .i64)])::.any::(.ptr 0 0)::ql 13 ((.ptr 6 0)::ql 109 ((.int .i64)::ql 44 []))),h:=[.cells [.str,.str,.str,.str,.nils],.dead,.dead,.dead,.dead,.frz 108 [.str],.cells [.str,.str,.str,.str,(.vec 5)]],fz:=[5] }
def q43:List Out:=[⟨(.exit 4),{ t:=((.imm [(.int .i64),(.int .i64),(.int .i64)])::.any::(.ptr 0 0)::ql 13 ((.ptr 6 0)::ql 154 [])),h:=[.cells [.str,.str,.str,.str,.nils],.dead,.dead,.dead,.dead,.frz 108 [.str],.cells [.str,.str,.str,.str,(.vec 5)]] }⟩,⟨.ret,{ t:=(.any::.any::(.ptr 0 0)::.bool::(.int .i64)::ql 166 []),h:=[.cells [.str,.str,.str,.str,.nils]] }⟩]
noncomputable def q0K:=q9 yk [(228,f228)] [((228,52),qh q3K q3S (qf vZ))] 0
noncomputable def j4:=zk q0K 228 f228 44 q3N q43
theorem qfJ:qu prog qc q0K.nimp (qK prog q0K.iter 228) (ww f228 44) (qh q3N q43 (qf j4)):=gk q0K qe qa ur (alc (lk func228 qfM) aln) (b1 func228) func228
noncomputable def qeX:=q9 yk [(228,f228)] [((228,6),qh q4s q4Q (qf jx)),((228,44),qh q3N q43 (qf j4))] 0
noncomputable def u6:=qj qeX 228 f228 true q7U q7B
theorem qjG:qW prog qc 228 (q8 q7U q7B u6):=sk qeX qe qa ur (alc (lk func228 qgX) (alc (lk func228 qfJ) aln)) (b1 func228) func228
def q7I:FIn:=⟨[(.imm [(.int .i64),(.int .i64),(.int .i64)]),(.imm [(.int .i64)])],[]⟩
def q7M:List FOut:=[⟨(.imm [(.int .i64),(.int .i64),(.int .i64)]),[],none⟩]
def q53:Tmpl:={ t:=((.imm [(.int .i64),(.int .i64),(.int .i64)])::ql 4 ((.vec 0)::.any::.any::(.imm [(.int .i64)])::(.int .i64)::(.int .i64)::ql 12 [])),h:=[.vec 71 [(.int .i64),(.int .i64),(.int .i64)]],pro:=[(5,71,[(.int .i64),(.int .i64),(.int .i64)])] }
def q4Y:List Out:=[⟨(.exit 0),{ t:=(ql 5 ((.vec 0)::ql 17 [])),h:=[.vec 71 [(.int .i64),(.int .i64),(.int .i64)]] }⟩]
noncomputable def q1G:=q9 [] [(229,f229)] [] 0
noncomputable def js:=zk q1G 229 f229 4 q53 q4Y
theorem qhz:qu prog qc q1G.nimp (qK prog q1G.iter 229) (ww f229 4) (qh q53 q4Y (qf js)):=gk q1G qe qa aln aln (b1 func229) func229
noncomputable def qfb:=q9 [] [(229,f229)] [((229,4),qh q53 q4Y (qf js))] 0
noncomputable def q10:=qj qfb 229 f229 true q7I q7M
theorem qjF:qW prog qc 229 (q8 q7I q7M q10):=sk qfb qe qa aln (alc (lk func229 qhz) aln) (b1 func229) func229
def qdm:FIn:=⟨[.str],[]⟩
def qdZ:List FOut:=[⟨(.tuple [.str,.str,(.int .i64)]),[],none⟩]
noncomputable def qm5:=q9 [(138,q8 q0D q0s qS),(189,q8 q0o q0k zp)] [(338,f338)] [] 0
noncomputable def q5F:=qj qm5 338 f338 true qdm qdZ
theorem qoM:qW prog qc 338 (q8 qdm qdZ q5F):=sk qm5 qe qa (alc uM (alc q0P aln)) aln (b1 func338) func338
def qgk:FIn:=⟨[.str],[]⟩
def qh6:List FOut:=[⟨(.tuple [(.int .i64),(.int .i64)]),[],none⟩]
noncomputable def qnN:=q9 [(192,q8 q7b q7m yg),(242,q8 uG uK qU)] [(339,f339)] [] 0
noncomputable def q7q:=qj qnN 339 f339 true qgk qh6
theorem qpx:qW prog qc 339 (q8 qgk qh6 q7q):=sk qnN qe qa (alc q9H (alc u5 aln)) aln (b1 func339) func339
def qgT:FIn:=⟨[.str],[]⟩
def qhi:List FOut:=[⟨(.tuple [(.int .i64),(.int .i64)]),[],none⟩]
noncomputable def qo9:=q9 [(338,q8 qdm qdZ q5F),(339,q8 qgk qh6 q7q)] [(286,f286)] [] 0
noncomputable def q47:=qj qo9 286 f286 true qgT qhi
theorem qr8:qW prog qc 286 (q8 qgT qhi q47):=sk qo9 qe qa (alc qoM (alc qpx aln)) aln (b1 func286) func286
def zt:FIn:=⟨[.str],[]⟩
def zv:List FOut:=[⟨.bool,[],none⟩]
noncomputable def q3a:=q9 [(286,q8 qgT qhi q47)] [(285,f285)] [] 0
noncomputable def qN:=qj q3a 285 f285 true zt zv
theorem v8:qW prog qc 285 (q8 zt zv qN):=sk q3a qe qa (alc qr8 aln) aln (b1 func285) func285
def vb:FIn:=⟨[(.imm [.str]),(.fn 285 [] [])],[]⟩
def vd:List FOut:=[⟨(.int .i64),[],none⟩]
def wA:Tmpl:={ t:=((.imm [.str])::(.fn 285 [] [])::ql 5 ((.int .i64)::(.int .i64)::ql 10 [])),h:=[] }
def wy:List Out:=[⟨(.exit 0),{ t:=(ql 19 []),h:=[] }⟩,⟨.ret,{ t:=(ql 4 ((.int .i64)::ql 14 [])),h:=[] }⟩]
noncomputable def ze:=q9 [(285,q8 zt zv qN)] [(337,f337)] [] 0
noncomputable def qv:=zk ze 337 f337 3 wA wy
theorem q1M:qu prog qc ze.nimp (qK prog ze.iter 337) (ww f337 3) (qh wA wy (qf qv)):=gk ze qe qa (alc v8 aln) aln (b1 func337) func337
noncomputable def yO:=q9 [(285,q8 zt zv qN)] [(337,f337)] [((337,3),qh wA wy (qf qv))] 0
noncomputable def qG:=qj yO 337 f337 true vb vd
theorem q2K:qW prog qc 337 (q8 vb vd qG):=sk yO qe qa (alc v8 aln) (alc (lk func337 q1M) aln) (b1 func337) func337
def w9:FIn:=⟨[(.imm [.str]),(.fn 285 [] [])],[]⟩
def zX:List FOut:=[⟨.bool,[],none⟩]
noncomputable def jP:=q9 [(285,q8 zt zv qN),(337,q8 vb vd qG)] [(284,f284)] [] 0
noncomputable def qM:=qj jP 284 f284 true w9 zX
theorem q1H:qW prog qc 284 (q8 w9 zX qM):=sk jP qe qa (alc v8 (alc q2K aln)) aln (b1 func284) func284
def q0J:FIn:=⟨[(.agg [.str,.str,.str,.str,(.imm [.str])])],[]⟩
def q0A:List FOut:=[⟨.bool,[],none⟩]
noncomputable def q5b:=q9 [(284,q8 w9 zX qM),(285,q8 zt zv qN)] [(230,f230)] [] 0
noncomputable def vu:=qj q5b 230 f230 true q0J q0A
theorem qam:qW prog qc 230 (q8 q0J q0A vu):=sk q5b qe qa (alc q1H (alc v8 aln)) aln (b1 func230) func230
def q1N:FIn:=⟨[.str,.str],[]⟩
def q24:List FOut:=[⟨(.tuple [(.int .i64),(.int .i64)]),[],none⟩]
noncomputable def qhc:=q9 [(136,q8 jE jH qp),(137,q8 vk vh qA),(138,q8 q0D q0s qS),(139,q8 q50 q5d yq)] [(78,f78)] [] 0
noncomputable def wD:=qj qhc 78 f78 true q1N q24
theorem q5G:qW prog qc 78 (q8 q1N q24 wD):=sk qhc qe qa (alc yp (alc wL (alc uM (alc qaV aln)))) aln (b1 func78) func78
def k8:FIn:=⟨[(.agg [.str,.str,.str,.str,(.imm [.str])]),(.imm [(.int .i64),(.int .i64),(.int .i64)])],[]⟩
def uV:List FOut:=[⟨(.tuple [.bool,(.int .i64)]),[],none⟩]
def yu:Tmpl:={ t:=(.any::.any::(.ptr 0 0)::ql 9 ((.imm [(.int .i64),(.int .i64),(.int .i64)])::(.int .i64)::(.int .i64)::ql 28 [])),h:=[.cells [.str,.str,.str,.str,(.imm [.str])]] }
def yo:List Out:=[⟨(.exit 0),{ t:=(ql 43 []),h:=[] }⟩,⟨.ret,{ t:=(ql 4 (.bool::(.int .i64)::ql 37 [])),h:=[] }⟩]
noncomputable def vD:=q9 [(78,q8 q1N q24 wD),(283,q8 q2V q2Y vg)] [(231,f231)] [] 0
noncomputable def qR:=zk vD 231 f231 3 yu yo
theorem q7c:qu prog qc vD.nimp (qK prog vD.iter 231) (ww f231 3) (qh yu yo (qf qR)):=gk vD qe qa (alc q5G (alc q6o aln)) aln (b1 func231) func231
noncomputable def q3q:=q9 [(78,q8 q1N q24 wD),(283,q8 q2V q2Y vg)] [(231,f231)] [((231,3),qh yu yo (qf qR))] 0
noncomputable def wE:=qj q3q 231 f231 true k8 uV
theorem q8O:qW prog qc 231 (q8 k8 uV wE):=sk q3q qe qa (alc q5G (alc q6o aln)) (alc (lk func231 q7c) aln) (b1 func231) func231
def q3P:FIn:=⟨[(.imm [(.int .i64),(.int .i64),(.int .i64)]),(.imm [(.int .i64)])],[]⟩
def q3Q:List FOut:=[⟨(.tuple [(.agg [.str,.str,.str,.str,(.imm [.str])]),.bool,(.int .i64)]),[],none⟩]
noncomputable def q9s:=q9 [(228,q8 q7U q7B u6),(229,q8 q7I q7M q10),(230,q8 q0J q0A vu),(231,q8 k8 uV wE)] [(185,f185)] [] 0
noncomputable def zI:=qj q9s 185 f185 true q3P q3Q
theorem qfD:qW prog qc 185 (q8 q3P q3Q zI):=sk q9s qe qa (alc qjG (alc qjF (alc qam (alc q8O aln)))) aln (b1 func185) func185
def qa6:FIn:=⟨[(.imm [(.int .i64),(.int .i64),(.int .i64)]),(.int .i64)],[]⟩
def qa0:List FOut:=[⟨(.tuple [(.agg [.str,.str,.str,.str,(.imm [.str])]),(.imm [(.int .i64)]),(.int .i64)]),[],none⟩]
def q1v:Tmpl:={ t:=(.yld::.any::(.ptr 4 0)::.any::.any::(.vec 7)::.any::(.imm [(.int .i64)])::.any::(.int .i64)::.any::.any::(.int .i64)::(.int .i64)::.any::(.vec 6)::(.int .i64)::(.int .i64)::ql 35 []),h:=[.cells [(.imm [(.int .i64),(.int .i64),(.int .i64)])],.cells [.str,.str,.str,.str,.nils],.cells [.nils],.cells [(.int .i64)],.cells [(.int .i64)],.cells [(.int .i64)],.vec 38 [(.sl [(.int .i64)])],.vec 38 [(.sl [(.int .i64)])]],fs:=[[.any,.any,(.ptr 0 0),.any,(.ptr 1 0),(.ptr 2 0),(.ptr 3 0),.any,.any,.any,.any,.any,.any,.any,(.fn 226 [] [(.ptr 5 0),(.ptr 4 0)]),.any,.any,.any,.any,.any,.any,.any,.any,.any,.any,.any,.any,.any,.any,.any,.any],[]] }
def q1t:List Out:=[⟨(.exit 4),{ t:=(.yld::.any::(.ptr 4 0)::.any::.any::(.vec 7)::ql 6 ((.int .i64)::(.int .i64)::.any::(.vec 6)::(.int .i64)::(.int .i64)::ql 35 [])),h:=[.cells [(.imm [(.int .i64),(.int .i64),(.int .i64)])],.cells [.str,.str,.str,.str,.nils],.cells [.nils],.cells [(.int .i64)],.cells [(.int .i64)],.cells [(.int .i64)],.vec 38 [(.sl [(.int .i64)])],.vec 38 [(.sl [(.int .i64)])]],fs:=[[.any,.any,(.ptr 0 0),.any,(.ptr 1 0),(.ptr 2 0),(.ptr 3 0),.any,.any,.any,.any,.any,.any,.any,(.fn 226 [] [(.ptr 5 0),(.ptr 4 0)]),.any,.any,.any,.any,.any,.any,.any,.any,.any,.any,.any,.any,.any,.any,.any,.any],[]] }⟩,⟨.ret,{ t:=(ql 53 []),h:=[.cells [(.imm [(.int .i64),(.int .i64),(.int .i64)])],.cells [.str,.str,.str,.str,(.imm [.str])],.cells [(.vec 8)],.cells [(.int .i64)],.cells [(.int .i64)],.cells [(.int .i64)],.dead,.dead,.frz 3 [(.int .i64)]],fs:=[[.any,.any,(.ptr 0 0),.any,(.ptr 1 0),(.ptr 2 0),(.ptr 3 0),.any,.any,.any,.any,.any,.any,.any,(.fn 226 [] [(.ptr 5 0),(.ptr 4 0)]),.any,.any,.any,.any,.any,.any,.any,.any,.any,.any,.any,.any,.any,.any,.any,.any],[]],pend:=(.some .ret) }⟩]
noncomputable def q0O:List (FuncId×z8):=[(185,q8 q3P q3Q zI),(227,q8 q1j q1q wu)]
theorem q2q:∀x,x∈q0O->qW prog qc x.1 x.2:=(alc qfD (alc qbR aln))
noncomputable def yF:Env:={ tt:=qgZ,glob:=qc,spec:=q0O,body:=[(131,f131),(184,f184),(226,f226)],loops:=[],nimp:=0,iter:=[(226,131,3)],raws:=[227] }
noncomputable def qD:=qAP yF (some (131,f131,3)) 226 f226 18 q1v q1t
theorem qcc:qu prog qc yF.nimp (qK prog yF.iter 226) (ww f226 18) (qh q1v q1t (qf qD)):=qb3 (E:=yF) qe ⟨qcA qa,⟨q2q,aln⟩,aln,(alc (bk func131) (alc (bk func184) (alc (bk func226) aln)))⟩ func226 (by kernel_rfl) (y:=some (131,f131,3)) ⟨func131,by kernel_rfl⟩ (by kernel_rfl) (by kernel_rfl) (fun _=>rfl)
def q1W:Tmpl:={ t:=(.yld::.any::(.ptr 4 0)::.any::.any::(.vec 7)::ql 6 ((.int .i64)::(.int .i64)::.any::(.vec 6)::(.int .i64)::(.int .i64)::ql 35 [])),h:=[.cells [(.imm [(.int .i64),(.int .i64),(.int .i64)])],.cells [.str,.str,.str,.str,.nils],.cells [.nils],.cells [(.int .i64)],.cells [(.int .i64)],.cells [(.int .i64)],.vec 38 [(.sl [(.int .i64)])],.vec 38 [(.sl [(.int .i64)])]],pro:=[(5,38,[(.sl [(.int .i64)])])],fs:=[[.any,.any,(.ptr 0 0),.any,(.ptr 1 0),(.ptr 2 0),(.ptr 3 0),.any,.any,.any,.any,.any,.any,.any,(.fn 226 [] [(.ptr 5 0),(.ptr 4 0)]),.any,.any,.any,.any,.any,.any,.any,.any,.any,.any,.any,.any,.any,.any,.any,.any],[]] }
def q23:List Out:=[⟨(.exit 2),{ t:=(.yld::.any::(.ptr 4 0)::.any::.any::(.vec 7)::ql 6 ((.int .i64)::(.int .i64)::ql 39 [])),h:=[.cells [(.imm [(.int .i64),(.int .i64),(.int .i64)])],.cells [.str,.str,.str,.str,.nils],.cells [.nils],.cells [(.int .i64)],.cells [(.int .i64)],.cells [(.int .i64)],.dead,.vec 38 [(.sl [(.int .i64)])]],fs:=[[.any,.any,(.ptr 0 0),.any,(.ptr 1 0),(.ptr 2 0),(.ptr 3 0),.any,.any,.any,.any,.any,.any,.any,(.fn 226 [] [(.ptr 5 0),(.ptr 4 0)]),.any,.any,.any,.any,.any,.any,.any,.any,.any,.any,.any,.any,.any,.any,.any,.any],[]] }⟩,⟨.ret,{ t:=(ql 53 []),h:=[.cells [(.imm [(.int .i64),(.int .i64),(.int .i64)])],.cells [.str,.str,.str,.str,(.imm [.str])],.cells [(.vec 8)],.cells [(.int .i64)],.cells [(.int .i64)],.cells [(.int .i64)],.dead,.dead,.frz 3 [(.int .i64)]],fs:=[[.any,.any,(.ptr 0 0),.any,(.ptr 1 0),(.ptr 2 0),(.ptr 3 0),.any,.any,.any,.any,.any,.any,.any,(.fn 226 [] [(.ptr 5 0),(.ptr 4 0)]),.any,.any,.any,.any,.any,.any,.any,.any,.any,.any,.any,.any,.any,.any,.any,.any],[]],pend:=(.some .ret) }⟩]
noncomputable def um:Env:={ tt:=qgZ,glob:=qc,spec:=q0O,body:=[(131,f131),(184,f184),(226,f226)],loops:=[((226,18),qh q1v q1t (qf qD))],nimp:=0,iter:=[(226,131,3)],raws:=[227] }
noncomputable def wS:=qAP um (some (131,f131,3)) 226 f226 9 q1W q23
theorem qcX:qu prog qc um.nimp (qK prog um.iter 226) (ww f226 9) (qh q1W q23 (qf wS)):=qb3 (E:=um) qe ⟨qcA qa,⟨q2q,aln⟩,(alc (lk func226 qcc) aln),(alc (bk func131) (alc (bk func184) (alc (bk func226) aln)))⟩ func226 (by kernel_rfl) (y:=some (131,f131,3)) ⟨func131,by kernel_rfl⟩ (by kernel_rfl) (by kernel_rfl) (fun _=>rfl)
def q1X:Tmpl:={ t:=(.yld::.any::(.ptr 4 0)::.any::(.vec 6)::ql 7 ((.int .i64)::(.int .i64)::ql 39 [])),h:=[.cells [(.imm [(.int .i64),(.int .i64),(.int .i64)])],.cells [.str,.str,.str,.str,.nils],.cells [.nils],.cells [(.int .i64)],.cells [(.int .i64)],.cells [(.int .i64)],.vec 38 [(.sl [(.int .i64)])]],sw:=[(2,4),(4,6)],swn:=0,fs:=[[.any,.any,(.ptr 0 0),.any,(.ptr 1 0),(.ptr 2 0),(.ptr 3 0),.any,.any,.any,.any,.any,.any,.any,(.fn 226 [] [(.ptr 5 0),(.ptr 4 0)]),.any,.any,.any,.any,.any,.any,.any,.any,.any,.any,.any,.any,.any,.any,.any,.any],[]] }
def q26:List Out:=[⟨(.exit 0),{ t:=(ql 53 []),h:=[.cells [(.imm [(.int .i64),(.int .i64),(.int .i64)])],.cells [.str,.str,.str,.str,.nils],.cells [.nils],.cells [(.int .i64)],.cells [(.int .i64)],.cells [(.int .i64)]],fs:=[[.any,.any,(.ptr 0 0),.any,(.ptr 1 0),(.ptr 2 0),(.ptr 3 0),.any,.any,.any,.any,.any,.any,.any,(.fn 226 [] [(.ptr 5 0),(.ptr 4 0)]),.any,.any,.any,.any,.any,.any,.any,.any,.any,.any,.any,.any,.any,.any,.any,.any],[]] }⟩,⟨.ret,{ t:=(ql 53 []),h:=[.cells [(.imm [(.int .i64),(.int .i64),(.int .i64)])],.cells [.str,.str,.str,.str,(.imm [.str])],.cells [(.vec 8)],.cells [(.int .i64)],.cells [(.int .i64)],.cells [(.int .i64)],.dead,.dead,.frz 3 [(.int .i64)]],fs:=[[.any,.any,(.ptr 0 0),.any,(.ptr 1 0),(.ptr 2 0),(.ptr 3 0),.any,.any,.any,.any,.any,.any,.any,(.fn 226 [] [(.ptr 5 0),(.ptr 4 0)]),.any,.any,.any,.any,.any,.any,.any,.any,.any,.any,.any,.any,.any,.any,.any,.any],[]],pend:=(.some .ret) }⟩]
noncomputable def ue:Env:={ tt:=qgZ,glob:=qc,spec:=q0O,body:=[(131,f131),(184,f184),(226,f226)],loops:=[((226,9),qh q1W q23 (qf wS))],nimp:=0,iter:=[(226,131,3)],raws:=[227] }
noncomputable def wX:=qAP ue (some (131,f131,3)) 226 f226 2 q1X q26
theorem qcy:qu prog qc ue.nimp (qK prog ue.iter 226) (ww f226 2) (qh q1X q26 (qf wX)):=qb3 (E:=ue) qe ⟨qcA qa,⟨q2q,aln⟩,(alc (lk func226 qcX) aln),(alc (bk func131) (alc (bk func184) (alc (bk func226) aln)))⟩ func226 (by kernel_rfl) (y:=some (131,f131,3)) ⟨func131,by kernel_rfl⟩ (by kernel_rfl) (by kernel_rfl) (fun _=>rfl)
noncomputable def qhq:Env:={ tt:=qgZ,glob:=qc,spec:=q0O,body:=[(131,f131),(184,f184),(226,f226)],loops:=[((226,2),qh q1X q26 (qf wX))],nimp:=0,iter:=[(226,131,3)],raws:=[227] }
noncomputable def kY:=qj qhq 131 f131 true qa6 qa0
theorem qla:qW prog qc 131 (q8 qa6 qa0 kY):=sk qhq qe qa q2q (alc (lk func226 qcy) aln) (alc (bk func131) (alc (bk func184) (alc (bk func226) aln))) func131
def q7Y:FIn:=⟨[(.imm [(.int .i64),(.int .i64)])],[]⟩
def q7V:List FOut:=[⟨(.imm [(.int .i64),(.int .i64),(.int .i64)]),[],none⟩]
def q4t:Tmpl:={ t:=(.any::.any::.any::(.vec 0)::.any::.any::(.imm [(.int .i64),(.int .i64)])::(.int .i64)::(.int .i64)::ql 13 []),h:=[.vec 71 [(.int .i64),(.int .i64),(.int .i64)]],pro:=[(3,71,[(.int .i64),(.int .i64),(.int .i64)])] }
def q57:List Out:=[⟨(.exit 0),{ t:=(.any::.any::.any::(.vec 0)::ql 18 []),h:=[.vec 71 [(.int .i64),(.int .i64),(.int .i64)]] }⟩]
noncomputable def q1y:=q9 [] [(132,f132)] [] 0
noncomputable def jt:=zk q1y 132 f132 4 q4t q57
theorem qg1:qu prog qc q1y.nimp (qK prog q1y.iter 132) (ww f132 4) (qh q4t q57 (qf jt)):=gk q1y qe qa aln aln (b1 func132) func132
noncomputable def qf6:=q9 [] [(132,f132)] [((132,4),qh q4t q57 (qf jt))] 0
noncomputable def q0U:=qj qf6 132 f132 true q7Y q7V
theorem qjo:qW prog qc 132 (q8 q7Y q7V q0U):=sk qf6 qe qa aln (alc (lk func132 qg1) aln) (b1 func132) func132
def q1s:FIn:=⟨[(.agg [.str,.str,.str,.str,(.imm [.str])])],[]⟩
def q1p:List FOut:=[⟨(.agg [.str,.str]),[],none⟩]
noncomputable def q5S:=q9 [] [(133,f133)] [] 0
noncomputable def yH:=qj q5S 133 f133 true q1s q1p
theorem qc4:qW prog qc 133 (q8 q1s q1p yH):=sk q5S qe qa aln aln (b1 func133) func133
def q7G:FIn:=⟨[(.imm [(.int .i64),(.int .i64)])],[]⟩
def q7R:List FOut:=[⟨(.tuple [(.agg [.str,.str]),.str,(.imm [(.int .i64)]),(.int .i64)]),[],none⟩]
noncomputable def qeM:=q9 [(130,q8 qbf qbq q3l),(131,q8 qa6 qa0 kY),(132,q8 q7Y q7V q0U),(133,q8 q1s q1p yH)] [(76,f76)] [] 0
noncomputable def u7:=qj qeM 76 f76 true q7G q7R
theorem qjS:qW prog qc 76 (q8 q7G q7R u7):=sk qeM qe qa (alc qmZ (alc qla (alc qjo (alc qc4 aln)))) aln (b1 func76) func76
def qhM:FIn:=⟨[(.imm [(.int .i64),(.int .i64)]),(.int .i64)],[]⟩
def qhI:List FOut:=[⟨(.tuple [.bool,(.int .i64)]),[],none⟩]
noncomputable def qtL:=q9 [(53,q8 q2r q2a wH),(76,q8 q7G q7R u7),(77,q8 q6p q6m vq),(78,q8 q1N q24 wD)] [(27,f27)] [] 0
noncomputable def kI:=qj qtL 27 f27 true qhM qhI
theorem qkJ:qW prog qc 27 (q8 qhM qhI kI):=sk qtL qe qa (alc q3C (alc qjS (alc q3g (alc q5G aln)))) aln (b1 func27) func27
def qbj:FIn:=⟨[(.agg [(.int .i64),(.int .i64),(.int .i64)]),(.agg [(.int .i64),(.int .i64),(.int .i64)])],[]⟩
def qbS:List FOut:=[⟨(.agg [(.int .i64),(.int .i64),(.int .i64)]),[],none⟩]
noncomputable def qiM:=q9 [] [(151,f151)] [] 0
noncomputable def q6F:=qj qiM 151 f151 true qbj qbS
theorem qmf:qW prog qc 151 (q8 qbj qbS q6F):=sk qiM qe qa aln aln (b1 func151) func151
def q6q:FIn:=⟨[(.agg [(.int .i64),(.int .i64),(.int .i64)]),(.agg [(.int .i64),(.int .i64),(.int .i64)])],[]⟩
def q6j:List FOut:=[⟨(.int .i64),[],none⟩]
noncomputable def qcE:=q9 [] [(152,f152)] [] 0
noncomputable def q2s:=qj qcE 152 f152 true q6q q6j
theorem qic:qW prog qc 152 (q8 q6q q6j q2s):=sk qcE qe qa aln aln (b1 func152) func152
def ku:FIn:=⟨[(.agg [(.int .i64),(.int .i64),(.int .i64)]),(.agg [(.int .i64),(.int .i64),(.int .i64)])],[]⟩
def kh:List FOut:=[⟨(.tuple [(.int .i64),(.int .i64)]),[],none⟩]
noncomputable def q88:=q9 [(126,q8 q0l q0r jT),(150,q8 ud uB zl),(151,q8 qbj qbS q6F),(152,q8 q6q q6j q2s)] [(90,f90)] [] 0
noncomputable def vF:=qj q88 90 f90 true ku kh
theorem q5h:qW prog qc 90 (q8 ku kh vF):=sk q88 qe qa (alc q0X (alc q45 (alc qmf (alc qic aln)))) aln (b1 func90) func90
def q8E:FIn:=⟨[(.imm [(.int .i64),(.int .i64),(.int .i64),(.int .i64),(.int .i64),(.int .i64)])],[]⟩
def q8w:List FOut:=[⟨(.tuple [(.imm [(.int .i64)]),(.int .i64)]),[],none⟩]
def q98:Tmpl:={ t:=(ql 4 ((.vec 0)::ql 7 ((.imm [(.int .i64),(.int .i64),(.int .i64),(.int .i64),(.int .i64),(.int .i64)])::(.int .i64)::(.int .i64)::ql 20 []))),h:=[.vec 3 [(.int .i64)]],pro:=[(4,3,[(.int .i64)])] }
def q9e:List Out:=[⟨(.exit 0),{ t:=(ql 4 ((.vec 0)::ql 30 [])),h:=[.vec 3 [(.int .i64)]] }⟩,⟨.ret,{ t:=(.any::.any::.nils::(.int .i64)::ql 31 []),h:=[] }⟩]
noncomputable def q4z:=q9 [(90,q8 ku kh vF)] [(34,f34)] [] 0
noncomputable def q02:=zk q4z 34 f34 7 q98 q9e
theorem qlE:qu prog qc q4z.nimp (qK prog q4z.iter 34) (ww f34 7) (qh q98 q9e (qf q02)):=gk q4z qe qa (alc q5h aln) aln (b1 func34) func34
noncomputable def qm4:=q9 [(90,q8 ku kh vF)] [(34,f34)] [((34,7),qh q98 q9e (qf q02))] 0
noncomputable def q0t:=qj qm4 34 f34 true q8E q8w
theorem qfd:qW prog qc 34 (q8 q8E q8w q0t):=sk qm4 qe qa (alc q5h aln) (alc (lk func34 qlE) aln) (b1 func34) func34
def q5D:FIn:=⟨[(.int .i64)],[]⟩
def q4P:List FOut:=[⟨.bool,[],none⟩]
noncomputable def qaM:=q9 [] [(173,f173)] [] 0
noncomputable def wn:=qj qaM 173 f173 true q5D q4P
theorem qgh:qW prog qc 173 (q8 q5D q4P wn):=sk qaM qe qa aln aln (b1 func173) func173
def q6a:FIn:=⟨[(.agg [(.int .i64),(.int .i64)])],[]⟩
def q6g:List FOut:=[⟨(.int .i64),[],none⟩]
noncomputable def qct:=q9 [(173,q8 q5D q4P wn)] [(113,f113)] [] 0
noncomputable def kD:=qj qct 113 f113 true q6a q6g
theorem qi9:qW prog qc 113 (q8 q6a q6g kD):=sk qct qe qa (alc qgh aln) aln (b1 func113) func113
def qdS:FIn:=⟨[(.agg [(.int .i64),(.int .i64)])],[]⟩
def qdK:List FOut:=[⟨(.int .i64),[],none⟩]
noncomputable def qlm:=q9 [(113,q8 q6a q6g kD)] [(87,f87)] [] 0
noncomputable def q5I:=qj qlm 87 f87 true qdS qdK
theorem qoq:qW prog qc 87 (q8 qdS qdK q5I):=sk qlm qe qa (alc qi9 aln) aln (b1 func87) func87
def q3c:FIn:=⟨[(.int .i64),(.ptr 0 0)],[.cells [(.int .i64),(.int .i64)]]⟩
def q36:List FOut:=[⟨.bool,[.cells [(.int .i64),(.int .i64)]],none⟩]
noncomputable def qil:=q9 [] [(89,f89)] [] 1
noncomputable def q1e:=qj qil 89 f89 true q3c q36
theorem q69:qW prog qc 89 (q8 q3c q36 q1e):=sk qil qe qa aln aln (b1 func89) func89
def yT:FIn:=⟨[(.imm [(.int .i64)]),(.fn 89 [] [(.ptr 0 0)])],[.cells [(.int .i64),(.int .i64)]]⟩
def yX:List FOut:=[⟨(.int .i64),[.cells [(.int .i64),(.int .i64)]],none⟩]
def yf:Tmpl:={ t:=((.imm [(.int .i64)])::(.fn 89 [] [(.ptr 0 0)])::ql 5 ((.int .i64)::(.int .i64)::ql 10 [])),h:=[.cells [(.int .i64),(.int .i64)]] }
def jV:List Out:=[⟨(.exit 0),{ t:=(ql 19 []),h:=[.cells [(.int .i64),(.int .i64)]] }⟩,⟨.ret,{ t:=(ql 4 ((.int .i64)::ql 14 [])),h:=[.cells [(.int .i64),(.int .i64)]] }⟩]
noncomputable def wZ:=q9 [(89,q8 q3c q36 q1e)] [(88,f88)] [] 1
noncomputable def z6:=zk wZ 88 f88 3 yf jV
theorem q6d:qu prog qc wZ.nimp (qK prog wZ.iter 88) (ww f88 3) (qh yf jV (qf z6)):=gk wZ qe qa (alc q69 aln) aln (b1 func88) func88
noncomputable def q2F:=q9 [(89,q8 q3c q36 q1e)] [(88,f88)] [((88,3),qh yf jV (qf z6))] 1
noncomputable def zU:=qj q2F 88 f88 true yT yX
theorem q7z:qW prog qc 88 (q8 yT yX zU):=sk q2F qe qa (alc q69 aln) (alc (lk func88 q6d) aln) (b1 func88) func88
def qaH:FIn:=⟨[(.imm [(.int .i64),(.int .i64),(.int .i64),(.int .i64),(.int .i64),(.int .i64)]),(.agg [(.int .i64),(.int .i64)])],[]⟩
def qaW:List FOut:=[⟨(.tuple [.bool,(.int .i64),(.int .i64)]),[],none⟩]
noncomputable def qo0:=q9 [(34,q8 q8E q8w q0t),(87,q8 qdS qdK q5I),(88,q8 yT yX zU),(89,q8 q3c q36 q1e)] [(31,f31)] [] 0
noncomputable def q08:=qj qo0 31 f31 true qaH qaW
theorem qfU:qW prog qc 31 (q8 qaH qaW q08):=sk qo0 qe qa (alc qfd (alc qoq (alc q7z (alc q69 aln)))) aln (b1 func31) func31
def q1l:FIn:=⟨[(.imm [(.int .i64)]),(.imm [(.int .i64)])],[]⟩
def q1n:List FOut:=[⟨.bool,[],none⟩]
def kz:Tmpl:={ t:=((.imm [(.int .i64)])::(.imm [(.int .i64)])::ql 10 ((.int .i64)::(.int .i64)::ql 12 [])),h:=[] }
def ky:List Out:=[⟨(.exit 0),{ t:=(ql 26 []),h:=[] }⟩,⟨.ret,{ t:=(ql 4 (.bool::ql 21 [])),h:=[] }⟩]
noncomputable def jw:=q9 [] [(39,f39)] [] 0
noncomputable def zD:=zk jw 39 f39 6 kz ky
theorem q9M:qu prog qc jw.nimp (qK prog jw.iter 39) (ww f39 6) (qh kz ky (qf zD)):=gk jw qe qa aln aln (b1 func39) func39
noncomputable def q61:=q9 [] [(39,f39)] [((39,6),qh kz ky (qf zD))] 0
noncomputable def vV:=qj q61 39 f39 true q1l q1n
theorem qc2:qW prog qc 39 (q8 q1l q1n vV):=sk q61 qe qa aln (alc (lk func39 q9M) aln) (b1 func39) func39
def qg9:FIn:=⟨[],[]⟩
def qgc:List FOut:=[⟨(.agg [(.int .i64),(.imm [(.int .i64),(.int .i64),(.int .i64)]),(.imm [(.int .i64),(.int .i64),(.int .i64)])]),[],none⟩]
noncomputable def qo2:=q9 [] [(67,f67)] [] 0
noncomputable def qay:=qj qo2 67 f67 true qg9 qgc
theorem qqw:qW prog qc 67 (q8 qg9 qgc qay):=sk qo2 qe qa aln aln (b1 func67) func67
def qeu:FIn:=⟨[],[]⟩
def qdo:List FOut:=[⟨.bool,[],none⟩]
noncomputable def qm0:=q9 [(20,q8 qef qdC q2l),(22,q8 qdw qel q4J),(27,q8 qhM qhI kI),(31,q8 qaH qaW q08),(34,q8 q8E q8w q0t),(39,q8 q1l q1n vV),(67,q8 qg9 qgc qay)] [(19,f19)] [] 0
noncomputable def q2t:=qj qm0 19 f19 true qeu qdo
theorem qop:qW prog qc 19 (q8 qeu qdo q2t):=sk qm0 qe qa (alc qoG (alc qoI (alc qkJ (alc qfU (alc qfd (alc qc2 (alc qqw aln))))))) aln (b1 func19) func19
def qn6:FIn:=⟨[(.int .i64)],[]⟩
def qmo:List FOut:=[⟨.bool,[],none⟩]
noncomputable def qtM:=q9 [] [(96,f96)] [] 0
noncomputable def q4n:=qj qtM 96 f96 true qn6 qmo
theorem qvX:qW prog qc 96 (q8 qn6 qmo q4n):=sk qtM qe qa aln aln (b1 func96) func96
def qk6:FIn:=⟨[(.imm [(.int .i64),(.int .i64)])],[]⟩
def qjO:List FOut:=[⟨.bool,[],none⟩]
noncomputable def qqV:=q9 [] [(26,f26)] [] 0
noncomputable def q66:=qj qqV 26 f26 true qk6 qjO
theorem qsG:qW prog qc 26 (q8 qk6 qjO q66):=sk qqV qe qa aln aln (b1 func26) func26
def q8q:FIn:=⟨[(.agg [(.int .i64),(.int .i64)])],[]⟩
def q8e:List FOut:=[⟨.bool,[],none⟩]
noncomputable def ql4:=q9 [(96,q8 qn6 qmo q4n)] [(48,f48)] [] 0
noncomputable def q2i:=qj ql4 48 f48 true q8q q8e
theorem qf8:qW prog qc 48 (q8 q8q q8e q2i):=sk ql4 qe qa (alc qvX aln) aln (b1 func48) func48
def q5f:FIn:=⟨[(.imm [(.int .i64),(.int .i64)])],[]⟩
def q4G:List FOut:=[⟨(.int .i64),[],none⟩]
def qa4:Tmpl:={ t:=((.imm [(.int .i64),(.int .i64)])::.any::.any::(.int .i64)::ql 15 []),h:=[] }
def q9m:List Out:=[⟨(.exit 0),{ t:=(ql 19 []),h:=[] }⟩,⟨.ret,{ t:=(.any::.any::(.int .i64)::ql 16 []),h:=[] }⟩]
noncomputable def q5E:=q9 [(48,q8 q8q q8e q2i)] [(29,f29)] [] 0
noncomputable def yv:=zk q5E 29 f29 6 qa4 q9m
theorem qm1:qu prog qc q5E.nimp (qK prog q5E.iter 29) (ww f29 6) (qh qa4 q9m (qf yv)):=gk q5E qe qa (alc qf8 aln) aln (b1 func29) func29
noncomputable def qlA:=q9 [(48,q8 q8q q8e q2i)] [(29,f29)] [((29,6),qh qa4 q9m (qf yv))] 0
noncomputable def jf:=qj qlA 29 f29 true q5f q4G
theorem qol:qW prog qc 29 (q8 q5f q4G jf):=sk qlA qe qa (alc qf8 aln) (alc (lk func29 qm1) aln) (b1 func29) func29
def qnI:FIn:=⟨[(.imm [(.int .i64),(.int .i64)])],[]⟩
def qnY:List FOut:=[⟨(.int .i64),[],none⟩]
noncomputable def qwM:=q9 [(29,q8 q5f q4G jf)] [(140,f140)] [] 0
noncomputable def qb8:=qj qwM 140 f140 true qnI qnY
def q6J:FIn:=⟨[(.int .i64),(.int .i64)],[]⟩
def q6I:List FOut:=[⟨(.imm [(.sl [(.int .i64)])]),[],none⟩]
noncomputable def qtc:=q9 [] [] [] 0
noncomputable def uZ:=qj qtc 195 f195 true q6J q6I
def q6U:FIn:=⟨[(.int .i64),(.int .i64)],[]⟩
def q6N:List FOut:=[⟨(.imm [(.sl [(.int .i64)])]),[],none⟩]
def qcv:Tmpl:={ t:=((.int .i64)::ql 4 ((.vec 0)::.any::(.imm [(.int .i64)])::.any::(.int .i64)::ql 6 ((.imm [(.sl [(.int .i64)])])::(.int .i64)::(.int .i64)::ql 30 []))),h:=[.vec 38 [(.sl [(.int .i64)])]] }
def qcS:List Out:=[⟨(.exit 2),{ t:=((.int .i64)::ql 4 ((.vec 0)::ql 10 ((.imm [(.sl [(.int .i64)])])::(.int .i64)::(.int .i64)::ql 30 []))),h:=[.vec 38 [(.sl [(.int .i64)])]] }⟩]
noncomputable def qmq:=q9 [(195,q8 q6J q6I uZ)] [] [] 0
noncomputable def kO:=zk qmq 195 f195 16 qcv qcS
def qeA:Tmpl:={ t:=((.int .i64)::ql 4 ((.vec 0)::ql 10 ((.imm [(.sl [(.int .i64)])])::(.int .i64)::(.int .i64)::ql 30 []))),h:=[.vec 38 [(.sl [(.int .i64)])]],pro:=[(5,38,[(.sl [(.int .i64)])])] }
def qfq:List Out:=[⟨(.exit 0),{ t:=(ql 5 ((.vec 0)::ql 43 [])),h:=[.vec 38 [(.sl [(.int .i64)])]] }⟩]
noncomputable def qoh:=q9 [(195,q8 q6J q6I uZ)] [] [((195,16),qh qcv qcS (qf kO))] 0
noncomputable def q3B:=zk qoh 195 f195 7 qeA qfq
noncomputable def qrU:=q9 [(195,q8 q6J q6I uZ)] [] [((195,7),qh qeA qfq (qf q3B))] 0
noncomputable def q1d:=qj qrU 195 f195 true q6U q6N
def q6D:FIn:=⟨[(.int .i64),(.int .i64)],[]⟩
def q6Q:List FOut:=[⟨(.imm [(.sl [(.int .i64)])]),[],none⟩]
def qcn:Tmpl:={ t:=((.int .i64)::ql 4 ((.vec 0)::.any::(.imm [(.int .i64)])::.any::(.int .i64)::ql 6 ((.imm [(.sl [(.int .i64)])])::(.int .i64)::(.int .i64)::ql 30 []))),h:=[.vec 38 [(.sl [(.int .i64)])]] }
def qd3:List Out:=[⟨(.exit 2),{ t:=((.int .i64)::ql 4 ((.vec 0)::ql 10 ((.imm [(.sl [(.int .i64)])])::(.int .i64)::(.int .i64)::ql 30 []))),h:=[.vec 38 [(.sl [(.int .i64)])]] }⟩]
noncomputable def qne:=q9 [(195,q8 q6U q6N q1d)] [] [] 0
noncomputable def q05:=zk qne 195 f195 16 qcn qd3
def qfv:Tmpl:={ t:=((.int .i64)::ql 4 ((.vec 0)::ql 10 ((.imm [(.sl [(.int .i64)])])::(.int .i64)::(.int .i64)::ql 30 []))),h:=[.vec 38 [(.sl [(.int .i64)])]],pro:=[(5,38,[(.sl [(.int .i64)])])] }
def qf7:List Out:=[⟨(.exit 0),{ t:=(ql 5 ((.vec 0)::ql 43 [])),h:=[.vec 38 [(.sl [(.int .i64)])]] }⟩]
noncomputable def qon:=q9 [(195,q8 q6U q6N q1d)] [] [((195,16),qh qcn qd3 (qf q05))] 0
noncomputable def q3D:=zk qon 195 f195 7 qfv qf7
noncomputable def qte:=q9 [(195,q8 q6U q6N q1d)] [] [((195,7),qh qfv qf7 (qf q3D))] 0
noncomputable def q17:=qj qte 195 f195 true q6D q6Q
def q6M:FIn:=⟨[(.int .i64),(.int .i64)],[]⟩
def q6X:List FOut:=[⟨(.imm [(.sl [(.int .i64)])]),[],none⟩]
def qcP:Tmpl:={ t:=((.int .i64)::ql 4 ((.vec 0)::.any::(.imm [(.int .i64)])::.any::(.int .i64)::ql 6 ((.imm [(.sl [(.int .i64)])])::(.int .i64)::(.int .i64)::ql 30 []))),h:=[.vec 38 [(.sl [(.int .i64)])]] }
def qcs:List Out:=[⟨(.exit 2),{ t:=((.int .i64)::ql 4 ((.vec 0)::ql 10 ((.imm [(.sl [(.int .i64)])])::(.int .i64)::(.int .i64)::ql 30 []))),h:=[.vec 38 [(.sl [(.int .i64)])]] }⟩]
noncomputable def qnq:=q9 [(195,q8 q6D q6Q q17)] [] [] 0
noncomputable def q01:=zk qnq 195 f195 16 qcP qcs
def qfk:Tmpl:={ t:=((.int .i64)::ql 4 ((.vec 0)::ql 10 ((.imm [(.sl [(.int .i64)])])::(.int .i64)::(.int .i64)::ql 30 []))),h:=[.vec 38 [(.sl [(.int .i64)])]],pro:=[(5,38,[(.sl [(.int .i64)])])] }
def qfw:List Out:=[⟨(.exit 0),{ t:=(ql 5 ((.vec 0)::ql 43 [])),h:=[.vec 38 [(.sl [(.int .i64)])]] }⟩]
noncomputable def qoo:=q9 [(195,q8 q6D q6Q q17)] [] [((195,16),qh qcP qcs (qf q01))] 0
noncomputable def q3y:=zk qoo 195 f195 7 qfk qfw
noncomputable def qrO:=q9 [(195,q8 q6D q6Q q17)] [] [((195,7),qh qfk qfw (qf q3y))] 0
noncomputable def q1f:=qj qrO 195 f195 true q6M q6X
def qll:FIn:=⟨[(.int .i64),(.int .i64)],[]⟩
def qlP:List FOut:=[⟨(.imm [(.sl [(.int .i64)])]),[],none⟩]
def qeU:Tmpl:={ t:=((.int .i64)::ql 4 ((.vec 0)::.any::(.imm [(.int .i64)])::.any::(.int .i64)::ql 6 ((.imm [(.sl [(.int .i64)])])::(.int .i64)::(.int .i64)::ql 30 []))),h:=[.vec 38 [(.sl [(.int .i64)])]] }
def qeP:List Out:=[⟨(.exit 2),{ t:=((.int .i64)::ql 4 ((.vec 0)::ql 10 ((.imm [(.sl [(.int .i64)])])::(.int .i64)::(.int .i64)::ql 30 []))),h:=[.vec 38 [(.sl [(.int .i64)])]] }⟩]
noncomputable def qob:=q9 [(195,q8 q6M q6X q1f)] [] [] 0
noncomputable def q0S:=zk qob 195 f195 16 qeU qeP
def qhh:Tmpl:={ t:=((.int .i64)::ql 4 ((.vec 0)::ql 10 ((.imm [(.sl [(.int .i64)])])::(.int .i64)::(.int .i64)::ql 30 []))),h:=[.vec 38 [(.sl [(.int .i64)])]],pro:=[(5,38,[(.sl [(.int .i64)])])] }
def qgj:List Out:=[⟨(.exit 0),{ t:=(ql 5 ((.vec 0)::ql 43 [])),h:=[.vec 38 [(.sl [(.int .i64)])]] }⟩]
noncomputable def qqW:=q9 [(195,q8 q6M q6X q1f)] [] [((195,16),qh qeU qeP (qf q0S))] 0
noncomputable def q4R:=zk qqW 195 f195 7 qhh qgj
noncomputable def quO:=q9 [(195,q8 q6M q6X q1f)] [] [((195,7),qh qhh qgj (qf q4R))] 0
noncomputable def q8U:=qj quO 195 f195 true qll qlP
def jZ:FIn:=⟨[.str],[]⟩
def yd:List FOut:=[⟨.bool,[],none⟩]
noncomputable def qvv:=q9 [] [(203,f203)] [] 0
noncomputable def qy:=qj qvv 203 f203 true jZ yd
def q1c:FIn:=⟨[.str,.bool],[]⟩
def q1i:List FOut:=[⟨.str,[],none⟩]
noncomputable def qsX:=q9 [] [(254,f254)] [] 0
noncomputable def qZ:=qj qsX 254 f254 true q1c q1i
def uo:FIn:=⟨[.str],[]⟩
def uf:List FOut:=[⟨.str,[],none⟩]
noncomputable def qxu:=q9 [] [(256,f256)] [] 0
noncomputable def qw:=qj qxu 256 f256 true uo uf
def uU:FIn:=⟨[.str],[]⟩
def uR:List FOut:=[⟨.str,[],none⟩]
noncomputable def qs0:=q9 [(203,q8 jZ yd qy),(254,q8 q1c q1i qZ),(256,q8 uo uf qw)] [(205,f205)] [] 0
noncomputable def wz:=qj qs0 205 f205 true uU uR
def qkg:FIn:=⟨[(.int .i64)],[]⟩
def qkb:List FOut:=[⟨.str,[],none⟩]
def qkH:Tmpl:={ t:=((.int .i64)::.any::.any::.str::ql 33 []),h:=[] }
def qkR:List Out:=[⟨(.exit 0),{ t:=((.int .i64)::.any::.any::.str::ql 33 []),h:=[] }⟩]
noncomputable def qug:=q9 [(205,q8 uU uR wz)] [] [] 0
noncomputable def qdt:=zk qug 148 f148 9 qkH qkR
noncomputable def qz9:=q9 [(205,q8 uU uR wz)] [] [((148,9),qh qkH qkR (qf qdt))] 0
noncomputable def q6w:=qj qz9 148 f148 true qkg qkb
def q8Y:FIn:=⟨[(.int .i64)],[]⟩
def q91:List FOut:=[⟨.str,[],none⟩]
def qnJ:Tmpl:={ t:=((.int .i64)::.any::.any::.str::ql 33 []),h:=[] }
def qo1:List Out:=[⟨(.exit 0),{ t:=((.int .i64)::.any::.any::.str::ql 33 []),h:=[] }⟩]
noncomputable def qxm:=q9 [(148,q8 qkg qkb q6w),(205,q8 uU uR wz)] [] [] 0
noncomputable def qfP:=zk qxm 148 f148 9 qnJ qo1
noncomputable def qBs:=q9 [(148,q8 qkg qkb q6w),(205,q8 uU uR wz)] [] [((148,9),qh qnJ qo1 (qf qfP))] 0
noncomputable def zO:=qj qBs 148 f148 true q8Y q91
def q5e:FIn:=⟨[(.int .i64)],[]⟩
def q5L:List FOut:=[⟨.str,[],none⟩]
noncomputable def qvA:=q9 [(148,q8 q8Y q91 zO)] [(82,f82)] [] 0
noncomputable def zB:=qj qvA 82 f82 true q5e q5L
def qaq:FIn:=⟨[(.agg [(.int .i64),(.int .i64),(.int .i64)]),(.agg [(.int .i64),(.int .i64),(.int .i64)])],[]⟩
def qaZ:List FOut:=[⟨(.int .i64),[],none⟩]
noncomputable def qlH:=q9 [] [(154,f154)] [] 0
noncomputable def vr:=qj qlH 154 f154 true qaq qaZ
def qnD:FIn:=⟨[(.agg [(.int .i64),(.int .i64),(.int .i64)]),(.agg [(.int .i64),(.int .i64),(.int .i64)])],[]⟩
def qo5:List FOut:=[⟨(.agg [(.int .i64),(.int .i64),(.int .i64)]),[],none⟩]
noncomputable def qwx:=q9 [] [(155,f155)] [] 0
noncomputable def q7e:=qj qwx 155 f155 true qnD qo5
def qkF:FIn:=⟨[.str],[]⟩
def qlM:List FOut:=[⟨(.int .i64),[],none⟩]
def qh2:Tmpl:={ t:=(.str::.any::.any::(.int .i64)::ql 11 []),h:=[] }
def qgn:List Out:=[⟨(.exit 0),{ t:=(ql 15 []),h:=[] }⟩,⟨.ret,{ t:=(.any::.any::(.int .i64)::ql 12 []),h:=[] }⟩]
noncomputable def qrm:=q9 [] [(252,f252)] [] 0
noncomputable def q56:=zk qrm 252 f252 3 qh2 qgn
noncomputable def qw3:=q9 [] [(252,f252)] [((252,3),qh qh2 qgn (qf q56))] 0
noncomputable def q8K:=qj qw3 252 f252 true qkF qlM
def qet:FIn:=⟨[.str],[]⟩
def qdY:List FOut:=[⟨(.tuple [.str,.str]),[],none⟩]
noncomputable def quB:=q9 [(252,q8 qkF qlM q8K)] [(200,f200)] [] 0
noncomputable def ub:=qj quB 200 f200 true qet qdY
def qim:FIn:=⟨[.str],[]⟩
def qj5:List FOut:=[⟨(.int .i64),[],none⟩]
def qfe:Tmpl:={ t:=(.str::.any::.any::(.int .i64)::.str::(.int .i64)::ql 21 []),h:=[] }
def qfr:List Out:=[⟨(.exit 0),{ t:=(.str::.any::.any::(.int .i64)::ql 23 []),h:=[] }⟩]
noncomputable def qoL:=q9 [(203,q8 jZ yd qy),(256,q8 uo uf qw)] [(301,f301)] [] 0
noncomputable def q0Q:=zk qoL 301 f301 4 qfe qfr
noncomputable def qsv:=q9 [(203,q8 jZ yd qy),(256,q8 uo uf qw)] [(301,f301)] [((301,4),qh qfe qfr (qf q0Q))] 0
noncomputable def uQ:=qj qsv 301 f301 true qim qj5
def q5n:FIn:=⟨[.str,.str],[]⟩
def q4N:List FOut:=[⟨(.tuple [(.int .i64),(.int .i64),.bool]),[],none⟩]
noncomputable def quE:=q9 [(256,q8 uo uf qw),(301,q8 qim qj5 uQ)] [(253,f253)] [] 0
noncomputable def jb:=qj quE 253 f253 true q5n q4N
def qat:FIn:=⟨[.str],[]⟩
def qbd:List FOut:=[⟨.str,[],none⟩]
def qiK:Tmpl:={ t:=(.str::ql 13 []),h:=[] }
def qiw:List Out:=[⟨(.exit 0),{ t:=(.str::ql 13 []),h:=[] }⟩]
noncomputable def qt6:=q9 [] [(302,f302)] [] 0
noncomputable def q6K:=zk qt6 302 f302 2 qiK qiw
noncomputable def qwl:=q9 [] [(302,f302)] [((302,2),qh qiK qiw (qf q6K))] 0
noncomputable def uI:=qj qwl 302 f302 true qat qbd
def qhv:FIn:=⟨[.str,.str],[]⟩
def qfO:List FOut:=[⟨.str,[],none⟩]
def qcB:Tmpl:={ t:=(.str::.str::.any::.any::.any::(.vec 0)::(.int .i64)::(.int .i64)::ql 69 []),h:=[.vec 3 [(.int .i64)]] }
def qdg:List Out:=[⟨(.exit 2),{ t:=(.str::.str::.any::.any::.any::(.vec 0)::(.int .i64)::ql 70 []),h:=[.vec 3 [(.int .i64)]] }⟩]
noncomputable def q3v:List (FuncId×z8):=[(302,q8 qat qbd uI)]
noncomputable def qmU:=q9 q3v [(255,f255)] [] 0
noncomputable def kN:=zk qmU 255 f255 9 qcB qdg
def qco:Tmpl:={ t:=(.str::.str::.any::.any::.any::(.vec 0)::(.int .i64)::ql 70 []),h:=[.vec 3 [(.int .i64)]] }
def qcL:List Out:=[⟨(.exit 0),{ t:=(ql 5 ((.vec 0)::ql 71 [])),h:=[.vec 3 [(.int .i64)]] }⟩]
noncomputable def qmu:=q9 q3v [(255,f255)] [((255,9),qh qcB qdg (qf kN))] 0
noncomputable def kB:=zk qmu 255 f255 4 qco qcL
def qaw:Tmpl:={ t:=(ql 5 ((.vec 0)::.any::.any::(.vec 1)::(.int .i64)::(.int .i64)::ql 66 [])),h:=[.vec 3 [(.int .i64)],.vec 5 [(.int .u8)]] }
def qaQ:List Out:=[⟨(.exit 4),{ t:=(ql 8 ((.vec 1)::ql 68 [])),h:=[.dead,.vec 5 [(.int .u8)]] }⟩]
noncomputable def qlK:=q9 q3v [(255,f255)] [] 0
noncomputable def uw:=zk qlK 255 f255 17 qaw qaQ
noncomputable def qrK:=q9 q3v [(255,f255)] [((255,4),qh qco qcL (qf kB)),((255,17),qh qaw qaQ (qf uw))] 0
noncomputable def q52:=qj qrK 255 f255 true qhv qfO
def qdu:FIn:=⟨[.str,.str],[]⟩
def qex:List FOut:=[⟨.str,[],none⟩]
noncomputable def qv6:=q9 [(148,q8 q8Y q91 zO),(203,q8 jZ yd qy),(253,q8 q5n q4N jb),(254,q8 q1c q1i qZ),(255,q8 qhv qfO q52),(256,q8 uo uf qw)] [(201,f201)] [] 0
noncomputable def vl:=qj qv6 201 f201 true qdu qex
def kF:FIn:=⟨[.str,.str],[]⟩
def q00:List FOut:=[⟨(.imm [.str]),[],none⟩]
noncomputable def qqk:=q9 [(200,q8 qet qdY ub),(201,q8 qdu qex vl)] [(145,f145)] [] 0
noncomputable def zr:=qj qqk 145 f145 true kF q00
def qo6:FIn:=⟨[.str,(.int .i64)],[]⟩
def qnO:List FOut:=[⟨.str,[],none⟩]
def qj1:Tmpl:={ t:=(.str::(.int .i64)::.any::.any::.any::(.vec 0)::(.int .i64)::ql 20 []),h:=[.vec 5 [(.int .u8)]] }
def qiz:List Out:=[⟨(.exit 0),{ t:=(.str::(.int .i64)::.any::.any::.any::(.vec 0)::ql 21 []),h:=[.vec 5 [(.int .u8)]] }⟩]
noncomputable def qs3:=q9 [] [(362,f362)] [] 0
noncomputable def q3m:=zk qs3 362 f362 4 qj1 qiz
noncomputable def qxe:=q9 [] [(362,f362)] [((362,4),qh qj1 qiz (qf q3m))] 0
noncomputable def q7o:=qj qxe 362 f362 true qo6 qnO
def qis:FIn:=⟨[(.int .u8),(.int .u8),(.int .i64),.bool],[]⟩
def qj2:List FOut:=[⟨(.tuple [(.int .u8),(.int .i64)]),[],none⟩]
noncomputable def qtk:=q9 [] [(363,f363)] [] 0
noncomputable def q6A:=qj qtk 363 f363 true qis qj2
def qe0:FIn:=⟨[.str,.str,.bool],[]⟩
def qdE:List FOut:=[⟨.str,[],none⟩]
def qgK:Tmpl:={ t:=(.str::.str::.bool::ql 5 ((.vec 0)::(.int .i64)::(.int .i64)::ql 38 [])),h:=[.vec 5 [(.int .u8)]] }
def qgD:List Out:=[⟨(.exit 0),{ t:=(ql 8 ((.vec 0)::ql 40 [])),h:=[.vec 5 [(.int .u8)]] }⟩]
noncomputable def qiO:List (FuncId×z8):=[(302,q8 qat qbd uI),(362,q8 qo6 qnO q7o),(363,q8 qis qj2 q6A)]
noncomputable def qqQ:=q9 qiO [(303,f303)] [] 0
noncomputable def q20:=zk qqQ 303 f303 7 qgK qgD
noncomputable def qvl:=q9 qiO [(303,f303)] [((303,7),qh qgK qgD (qf q20))] 0
noncomputable def uh:=qj qvl 303 f303 true qe0 qdE
def qga:FIn:=⟨[.str,.str],[]⟩
def qg6:List FOut:=[⟨.bool,[],none⟩]
noncomputable def qwo:=q9 [] [(304,f304)] [] 0
noncomputable def q4e:=qj qwo 304 f304 true qga qg6
def qhu:FIn:=⟨[.str,.str],[]⟩
def qgM:List FOut:=[⟨.str,[],none⟩]
noncomputable def qxi:=q9 [(148,q8 q8Y q91 zO),(203,q8 jZ yd qy),(253,q8 q5n q4N jb),(254,q8 q1c q1i qZ),(256,q8 uo uf qw),(303,q8 qe0 qdE uh),(304,q8 qga qg6 q4e)] [(257,f257)] [] 0
noncomputable def q4k:=qj qxi 257 f257 true qhu qgM
def q8S:FIn:=⟨[.str,.str],[]⟩
def q8x:List FOut:=[⟨.str,[],none⟩]
noncomputable def qus:=q9 [(205,q8 uU uR wz),(257,q8 qhu qgM q4k)] [(202,f202)] [] 0
noncomputable def jk:=qj qus 202 f202 true q8S q8x
def qhC:FIn:=⟨[.str,.str],[]⟩
def qg5:List FOut:=[⟨(.tuple [.str,.str]),[],none⟩]
def qaN:Tmpl:={ t:=(.str::.str::ql 4 (.str::.str::(.int .i64)::(.int .u8)::ql 31 [])),h:=[] }
def qbc:List Out:=[⟨(.exit 2),{ t:=(.str::.str::ql 4 (.str::.str::(.int .i64)::(.int .u8)::ql 31 [])),h:=[] }⟩]
noncomputable def q7y:List (FuncId×z8):=[(302,q8 qat qbd uI),(303,q8 qe0 qdE uh),(304,q8 qga qg6 q4e)]
noncomputable def qlt:=q9 q7y [(258,f258)] [] 0
noncomputable def uc:=zk qlt 258 f258 11 qaN qbc
def qcQ:Tmpl:={ t:=(.str::.str::ql 4 (.str::.str::(.int .i64)::ql 32 [])),h:=[] }
def qdf:List Out:=[⟨(.exit 0),{ t:=(ql 6 (.str::.str::ql 33 [])),h:=[] }⟩]
noncomputable def qnf:=q9 q7y [(258,f258)] [((258,11),qh qaN qbc (qf uc))] 0
noncomputable def q2k:=zk qnf 258 f258 4 qcQ qdf
noncomputable def qpn:=q9 q7y [(258,f258)] [((258,4),qh qcQ qdf (qf q2k))] 0
noncomputable def q5i:=qj qpn 258 f258 true qhC qg5
def qbO:FIn:=⟨[.str,.str],[]⟩
def qcj:List FOut:=[⟨(.tuple [.str,.str]),[],none⟩]
noncomputable def qsV:=q9 [(148,q8 q8Y q91 zO),(201,q8 qdu qex vl),(202,q8 q8S q8x jk),(203,q8 jZ yd qy),(253,q8 q5n q4N jb),(254,q8 q1c q1i qZ),(256,q8 uo uf qw),(258,q8 qhC qg5 q5i)] [(206,f206)] [] 0
noncomputable def jd:=qj qsV 206 f206 true qbO qcj
def qj4:FIn:=⟨[.str,.str],[]⟩
def qjc:List FOut:=[⟨.str,[],none⟩]
def qcl:Tmpl:={ t:=(ql 5 ((.int .i64)::(.int .i64)::ql 36 [])),h:=[] }
def qdd:List Out:=[⟨(.exit 2),{ t:=(ql 5 ((.int .i64)::ql 37 [])),h:=[] }⟩]
noncomputable def q9B:List (FuncId×z8):=[(148,q8 q8Y q91 zO),(206,q8 qbO qcj jd),(253,q8 q5n q4N jb),(254,q8 q1c q1i qZ),(256,q8 uo uf qw)]
noncomputable def qnn:=q9 q9B [(204,f204)] [] 0
noncomputable def kV:=zk qnn 204 f204 10 qcl qdd
def qeC:Tmpl:={ t:=(.str::.str::ql 41 []),h:=[] }
def qeH:List Out:=[⟨(.exit 0),{ t:=(.str::ql 42 []),h:=[] }⟩,⟨.ret,{ t:=(ql 4 (.str::ql 38 [])),h:=[] }⟩]
noncomputable def qot:=q9 q9B [(204,f204)] [((204,10),qh qcl qdd (qf kV))] 0
noncomputable def q3F:=zk qot 204 f204 3 qeC qeH
noncomputable def qrR:=q9 q9B [(204,f204)] [((204,3),qh qeC qeH (qf q3F))] 0
noncomputable def q6G:=qj qrR 204 f204 true qj4 qjc
def q2U:FIn:=⟨[.str,.str],[]⟩
def q3j:List FOut:=[⟨.str,[],none⟩]
noncomputable def qsL:=q9 [(203,q8 jZ yd qy),(204,q8 qj4 qjc q6G),(205,q8 uU uR wz),(206,q8 qbO qcj jd)] [(147,f147)] [] 0
noncomputable def vj:=qj qsL 147 f147 true q2U q3j
def q4A:FIn:=⟨[.str,.str],[]⟩
def q4B:List FOut:=[⟨.str,[],none⟩]
noncomputable def quh:=q9 [(145,q8 kF q00 zr),(147,q8 q2U q3j vj)] [(81,f81)] [] 0
noncomputable def zo:=qj quh 81 f81 true q4A q4B
def qe5:FIn:=⟨[.str,.str],[]⟩
def qdA:List FOut:=[⟨.str,[],none⟩]
noncomputable def qvm:=q9 [(145,q8 kF q00 zr),(147,q8 q2U q3j vj),(202,q8 q8S q8x jk)] [(249,f249)] [] 0
noncomputable def je:=qj qvm 249 f249 true qe5 qdA
def qh3:FIn:=⟨[(.imm [(.sl [.str])]),(.int .i64)],[]⟩
def qgd:List FOut:=[⟨(.tuple [(.imm [(.sl [.str])]),.bool]),[],none⟩]
def qcx:Tmpl:={ t:=((.imm [(.sl [.str])])::(.int .i64)::ql 4 ((.vec 0)::(.int .i64)::ql 33 [])),h:=[.vec 212 [(.sl [.str])]] }
def qcC:List Out:=[⟨(.exit 0),{ t:=(ql 41 []),h:=[] }⟩,⟨.ret,{ t:=(ql 4 ((.vec 0)::.bool::ql 35 [])),h:=[.vec 212 [(.sl [.str])]] }⟩]
noncomputable def qng:=q9 [] [(299,f299)] [] 0
noncomputable def yh:=zk qng 299 f299 4 qcx qcC
noncomputable def qrI:=q9 [] [(299,f299)] [((299,4),qh qcx qcC (qf yh))] 0
noncomputable def q5y:=qj qrI 299 f299 true qh3 qgd
def qua:FIn:=⟨[.str,.str],[]⟩
def qtE:List FOut:=[⟨.str,[],none⟩]
noncomputable def qCM:=q9 [(145,q8 kF q00 zr),(147,q8 q2U q3j vj)] [(300,f300)] [] 0
noncomputable def qhW:=qj qCM 300 f300 true qua qtE
def q76:FIn:=⟨[.str,.str],[]⟩
def q7r:List FOut:=[⟨.str,[],none⟩]
noncomputable def qwq:=q9 [(145,q8 kF q00 zr),(147,q8 q2U q3j vj),(257,q8 qhu qgM q4k)] [(251,f251)] [] 0
noncomputable def wj:=qj qwq 251 f251 true q76 q7r
def qkZ:FIn:=⟨[(.imm [.str])],[]⟩
def qkj:List FOut:=[⟨.str,[],none⟩]
def qgC:Tmpl:={ t:=((.imm [.str])::.any::.any::.str::(.int .i64)::ql 13 []),h:=[] }
def qgW:List Out:=[⟨(.exit 0),{ t:=(.any::.any::.any::.str::ql 14 []),h:=[] }⟩]
noncomputable def qrA:=q9 [(251,q8 q76 q7r wj)] [(250,f250)] [] 0
noncomputable def q29:=zk qrA 250 f250 4 qgC qgW
noncomputable def qwd:=q9 [(251,q8 q76 q7r wj)] [(250,f250)] [((250,4),qh qgC qgW (qf q29))] 0
noncomputable def q4v:=qj qwd 250 f250 true qkZ qkj
end Go.Eng

namespace Go.Eng
open Go.Proofs
open Tryz
def q5J:FIn:=⟨[(.imm [(.int .i64),(.int .i64),(.int .i64)])],[]⟩
def q5k:List FOut:=[⟨(.tuple [(.imm [.str]),.bool]),[],none⟩]
def qaP:Tmpl:={ t:=((.imm [(.int .i64),(.int .i64),(.int .i64)])::.any::.any::.any::(.vec 0)::(.int .i64)::(.ptr 1 0)::(.vec 2)::(.int .i64)::ql 60 []),h:=[.vec 212 [(.sl [.str])],.cells [(.int .i64),(.int .i64),(.int .i64)],.vec 108 [.str]],pro:=[(7,108,[.str])] }
def qau:List Out:=[⟨(.exit 2),{ t:=((.imm [(.int .i64),(.int .i64),(.int .i64)])::.any::.any::.any::(.vec 0)::(.int .i64)::(.ptr 1 0)::(.vec 2)::ql 61 []),h:=[.vec 212 [(.sl [.str])],.cells [(.int .i64),(.int .i64),(.int .i64)],.vec 108 [.str]] }⟩]
noncomputable def jJ:List (FuncId×z8):=[(82,q8 q5e q5L zB),(154,q8 qaq qaZ vr),(155,q8 qnD qo5 q7e),(249,q8 qe5 qdA je),(250,q8 qkZ qkj q4v),(81,q8 q4A q4B zo),(299,q8 qh3 qgd q5y),(300,q8 qua qtE qhW)]
noncomputable def qm7:=q9 jJ [(197,f197),(248,f248)] [] 0
noncomputable def uC:=zk qm7 197 f197 12 qaP qau
def qcZ:Tmpl:={ t:=((.imm [(.int .i64),(.int .i64),(.int .i64)])::.any::.any::.any::(.vec 0)::(.int .i64)::ql 63 []),h:=[.vec 212 [(.sl [.str])]],pro:=[(4,212,[(.sl [.str])])] }
def qcq:List Out:=[⟨(.exit 0),{ t:=(ql 4 ((.vec 0)::ql 64 [])),h:=[.vec 212 [(.sl [.str])]] }⟩]
noncomputable def qn9:=q9 jJ [(197,f197),(248,f248)] [((197,12),qh qaP qau (qf uC))] 0
noncomputable def kW:=zk qn9 197 f197 4 qcZ qcq
def q5R:Tmpl:={ t:=(ql 4 ((.int .i64)::(.imm [(.sl [.str])])::.any::(.vec 1)::(.int .i64)::(.vec 2)::(.int .i64)::ql 94 [])),h:=[.dead,.vec 212 [(.sl [.str])],.vec 108 [.str]],pro:=[(9,108,[.str])],fs:=[(ql 69 []),[]] }
def q62:List Out:=[⟨(.exit 4),{ t:=(ql 4 ((.int .i64)::(.imm [(.sl [.str])])::.any::(.vec 1)::(.int .i64)::(.vec 2)::ql 95 [])),h:=[.dead,.vec 212 [(.sl [.str])],.vec 108 [.str]],fs:=[(ql 69 []),[]] }⟩]
noncomputable def qfK:=q9 jJ [(197,f197),(248,f248)] [] 0
noncomputable def wo:=zk qfK 248 f248 21 q5R q62
def q5Z:Tmpl:={ t:=(ql 4 ((.int .i64)::(.imm [(.sl [.str])])::.any::(.vec 1)::(.int .i64)::ql 96 [])),h:=[.dead,.vec 212 [(.sl [.str])]],pro:=[(7,212,[(.sl [.str])])],fs:=[(ql 69 []),[]] }
def q5T:List Out:=[⟨(.exit 2),{ t:=(ql 4 ((.int .i64)::.any::.any::(.vec 1)::ql 97 [])),h:=[.dead,.vec 212 [(.sl [.str])]],fs:=[(ql 69 []),[]] }⟩]
noncomputable def qfz:=q9 jJ [(197,f197),(248,f248)] [((248,21),qh q5R q62 (qf wo))] 0
noncomputable def vS:=zk qfz 248 f248 14 q5Z q5T
def q7p:Tmpl:={ t:=((.vec 0)::.any::.any::.any::(.int .i64)::ql 100 []),h:=[.vec 212 [(.sl [.str])]],sw:=[(0,0)],swn:=0,fs:=[(ql 69 []),[]] }
def q78:List Out:=[⟨(.exit 0),{ t:=((.vec 0)::ql 104 []),h:=[.vec 212 [(.sl [.str])]],fs:=[(ql 69 []),[]] }⟩,⟨.ret,{ t:=(.any::.any::.nils::.bool::ql 101 []),h:=[],fs:=[(ql 69 []),[]] }⟩]
noncomputable def qgs:=q9 jJ [(197,f197),(248,f248)] [((248,14),qh q5Z q5T (qf vS))] 0
noncomputable def wW:=zk qgs 248 f248 3 q7p q78
def q5Y:Tmpl:={ t:=((.vec 0)::ql 11 ((.vec 1)::(.int .i64)::ql 91 [])),h:=[.vec 212 [(.sl [.str])],.vec 108 [.str]],pro:=[(12,108,[.str])],fs:=[(ql 69 []),[]] }
def q60:List Out:=[⟨(.exit 6),{ t:=(ql 12 ((.vec 1)::ql 92 [])),h:=[.dead,.vec 108 [.str]],fs:=[(ql 69 []),[]] }⟩]
noncomputable def qfA:=q9 jJ [(197,f197),(248,f248)] [] 0
noncomputable def vU:=zk qfA 248 f248 31 q5Y q60
noncomputable def qq4:=q9 jJ [(197,f197),(248,f248)] [((197,4),qh qcZ qcq (qf kW)),((248,3),qh q7p q78 (qf wW)),((248,31),qh q5Y q60 (qf vU))] 0
noncomputable def jn:=qj qq4 197 f197 true q5J q5k
def qiP:FIn:=⟨[(.imm [(.int .i64),(.int .i64),(.int .i64)]),(.imm [.str])],[]⟩
def qiH:List FOut:=[⟨(.agg [.str,.str,.str]),[],none⟩]
def qf9:Tmpl:={ t:=((.imm [(.int .i64),(.int .i64),(.int .i64)])::(.imm [.str])::.any::.any::(.ptr 0 0)::(.ptr 1 0)::(.int .i64)::ql 24 ((.agg [(.int .i64),(.int .i64),(.int .i64)])::(.int .i64)::ql 18 [])),h:=[.cells [.str,.str,.str],.cells [.str,.str,.str]] }
def qeF:List Out:=[⟨(.exit 2),{ t:=((.imm [(.int .i64),(.int .i64),(.int .i64)])::(.imm [.str])::.any::.any::(.ptr 0 0)::(.ptr 1 0)::(.int .i64)::ql 44 []),h:=[.cells [.str,.str,.str],.cells [.str,.str,.str]] }⟩]
noncomputable def q9b:List (FuncId×z8):=[(81,q8 q4A q4B zo),(82,q8 q5e q5L zB),(251,q8 q76 q7r wj)]
noncomputable def qoj:=q9 q9b [(198,f198)] [] 0
noncomputable def q0R:=zk qoj 198 f198 9 qf9 qeF
def qfi:Tmpl:={ t:=((.imm [(.int .i64),(.int .i64),(.int .i64)])::(.imm [.str])::.any::.any::(.ptr 0 0)::(.ptr 1 0)::(.int .i64)::ql 44 []),h:=[.cells [.str,.str,.str],.cells [.str,.str,.str]] }
def qeJ:List Out:=[⟨(.exit 0),{ t:=(ql 4 ((.ptr 0 0)::(.ptr 1 0)::ql 45 [])),h:=[.cells [.str,.str,.str],.cells [.str,.str,.str]] }⟩]
noncomputable def qos:=q9 q9b [(198,f198)] [((198,9),qh qf9 qeF (qf q0R))] 0
noncomputable def q0N:=zk qos 198 f198 4 qfi qeJ
noncomputable def qs2:=q9 q9b [(198,f198)] [((198,4),qh qfi qeJ (qf q0N))] 0
noncomputable def q6C:=qj qs2 198 f198 true qiP qiH
def qaB:FIn:=⟨[(.agg [.str,.str,.str]),(.agg [(.int .i64),(.int .i64),(.int .i64)])],[]⟩
def qb9:List FOut:=[⟨.str,[],none⟩]
def qiE:Tmpl:={ t:=(.any::.any::(.ptr 0 0)::.any::.any::.str::ql 9 ((.agg [(.int .i64),(.int .i64),(.int .i64)])::(.int .i64)::ql 16 [])),h:=[.cells [.str,.str,.str]] }
def qiB:List Out:=[⟨(.exit 0),{ t:=(ql 5 (.str::ql 27 [])),h:=[] }⟩]
noncomputable def ql9:List (FuncId×z8):=[(81,q8 q4A q4B zo),(82,q8 q5e q5L zB),(249,q8 qe5 qdA je),(251,q8 q76 q7r wj)]
noncomputable def qtb:=q9 ql9 [(199,f199)] [] 0
noncomputable def q3e:=zk qtb 199 f199 4 qiE qiB
noncomputable def qxZ:=q9 ql9 [(199,f199)] [((199,4),qh qiE qiB (qf q3e))] 0
noncomputable def uJ:=qj qxZ 199 f199 true qaB qb9
def qgi:FIn:=⟨[(.imm [(.int .i64),(.int .i64),(.int .i64)])],[]⟩
def qh0:List FOut:=[⟨(.tuple [(.agg [.str,.str,.str]),.str,.bool]),[],none⟩]
noncomputable def qxh:=q9 [(197,q8 q5J q5k jn),(198,q8 qiP qiH q6C),(199,q8 qaB qb9 uJ)] [(143,f143)] [] 0
noncomputable def q0b:=qj qxh 143 f143 true qgi qh0
def qbB:FIn:=⟨[(.imm [(.int .i64),(.int .i64),(.int .i64)]),(.imm [(.int .i64)])],[]⟩
def qbp:List FOut:=[⟨(.imm [(.int .i64),(.int .i64),(.int .i64)]),[],none⟩]
def qez:Tmpl:={ t:=((.imm [(.int .i64),(.int .i64),(.int .i64)])::(.imm [(.int .i64)])::.any::.any::.any::(.vec 0)::(.int .i64)::ql 17 []),h:=[.vec 71 [(.int .i64),(.int .i64),(.int .i64)]],pro:=[(5,71,[(.int .i64),(.int .i64),(.int .i64)])] }
def qeR:List Out:=[⟨(.exit 0),{ t:=(ql 5 ((.vec 0)::ql 18 [])),h:=[.vec 71 [(.int .i64),(.int .i64),(.int .i64)]] }⟩]
noncomputable def qou:=q9 [] [(144,f144)] [] 0
noncomputable def q0T:=zk qou 144 f144 4 qez qeR
noncomputable def qsM:=q9 [] [(144,f144)] [((144,4),qh qez qeR (qf q0T))] 0
noncomputable def q1g:=qj qsM 144 f144 true qbB qbp
def qe4:FIn:=⟨[.str,.str],[]⟩
def qei:List FOut:=[⟨(.int .i64),[],none⟩]
noncomputable def qwg:=q9 [(202,q8 q8S q8x jk),(203,q8 jZ yd qy)] [(146,f146)] [] 0
noncomputable def q2n:=qj qwg 146 f146 true qe4 qei
def qc5:FIn:=⟨[.str],[]⟩
def qbP:List FOut:=[⟨(.int .i64),[],none⟩]
noncomputable def qt4:=q9 [(146,q8 qe4 qei q2n),(200,q8 qet qdY ub)] [(298,f298)] [] 0
noncomputable def q15:=qj qt4 298 f298 true qc5 qbP
def qj6:FIn:=⟨[(.imm [(.int .i64),(.int .i64),(.int .i64)])],[]⟩
def qio:List FOut:=[⟨.bool,[],none⟩]
def qeG:Tmpl:={ t:=(.any::.any::.any::(.imm [.str])::.bool::(.int .i64)::ql 21 []),h:=[] }
def qeD:List Out:=[⟨(.exit 0),{ t:=(ql 4 (.bool::ql 22 [])),h:=[] }⟩]
noncomputable def qof:=q9 [(197,q8 q5J q5k jn),(298,q8 qc5 qbP q15)] [(246,f246)] [] 0
noncomputable def q0V:=zk qof 246 f246 4 qeG qeD
noncomputable def qrP:=q9 [(197,q8 q5J q5k jn),(298,q8 qc5 qbP q15)] [(246,f246)] [((246,4),qh qeG qeD (qf q0V))] 0
noncomputable def q6W:=qj qrP 246 f246 true qj6 qio
def q8T:FIn:=⟨[.str,.str],[]⟩
def q8t:List FOut:=[⟨(.int .i64),[],none⟩]
noncomputable def qvZ:=q9 [(145,q8 kF q00 zr),(146,q8 qe4 qei q2n)] [(80,f80)] [] 0
noncomputable def un:=qj qvZ 80 f80 true q8T q8t
def qfj:FIn:=⟨[(.imm [(.int .i64),(.int .i64),(.int .i64)]),(.agg [.str,.str,.str]),.str],[]⟩
def qff:List FOut:=[⟨.bool,[],none⟩]
def qba:Tmpl:={ t:=((.imm [(.int .i64),(.int .i64),(.int .i64)])::.any::.str::.any::(.ptr 0 0)::.any::.any::(.int .i64)::ql 15 []),h:=[.cells [.str,.str,.str]] }
def qaC:List Out:=[⟨(.exit 0),{ t:=(ql 23 []),h:=[] }⟩,⟨.ret,{ t:=(ql 6 (.bool::ql 16 [])),h:=[] }⟩]
noncomputable def qlT:=q9 [(80,q8 q8T q8t un),(199,q8 qaB qb9 uJ)] [(247,f247)] [] 0
noncomputable def jv:=zk qlT 247 f247 3 qba qaC
noncomputable def qoP:=q9 [(80,q8 q8T q8t un),(199,q8 qaB qb9 uJ)] [(247,f247)] [((247,3),qh qba qaC (qf jv))] 0
noncomputable def q3w:=qj qoP 247 f247 true qfj qff
def qeO:FIn:=⟨[(.imm [(.int .i64),(.int .i64),(.int .i64)]),(.imm [(.int .i64)])],[]⟩
def qfg:List FOut:=[⟨.bool,[],none⟩]
noncomputable def qoS:=q9 [(143,q8 qgi qh0 q0b),(144,q8 qbB qbp q1g),(246,q8 qj6 qio q6W),(247,q8 qfj qff q3w)] [(196,f196)] [] 0
noncomputable def q3z:=qj qoS 196 f196 true qeO qfg
def qko:FIn:=⟨[(.imm [(.int .i64),(.int .i64),(.int .i64)]),(.int .i64)],[]⟩
def qm6:List FOut:=[⟨(.imm [(.int .i64)]),[],none⟩]
def qh7:Tmpl:={ t:=((.imm [(.int .i64),(.int .i64),(.int .i64)])::(.int .i64)::.any::.any::.any::(.int .i64)::ql 10 ((.imm [(.sl [(.int .i64)])])::(.int .i64)::(.int .i64)::ql 8 [])),h:=[] }
def qfT:List Out:=[⟨(.exit 2),{ t:=((.imm [(.int .i64),(.int .i64),(.int .i64)])::(.int .i64)::.any::.any::.any::(.int .i64)::ql 21 []),h:=[] }⟩,⟨.ret,{ t:=(ql 4 ((.imm [(.int .i64)])::ql 22 [])),h:=[] }⟩]
noncomputable def qch:List (FuncId×z8):=[(195,q8 qll qlP q8U),(196,q8 qeO qfg q3z)]
noncomputable def qqL:=q9 qch [(141,f141)] [] 0
noncomputable def q22:=zk qqL 141 f141 8 qh7 qfT
def qhe:Tmpl:={ t:=((.imm [(.int .i64),(.int .i64),(.int .i64)])::(.int .i64)::.any::.any::.any::(.int .i64)::ql 21 []),h:=[] }
def qgq:List Out:=[⟨(.exit 0),{ t:=(ql 27 []),h:=[] }⟩,⟨.ret,{ t:=(ql 4 ((.imm [(.int .i64)])::ql 22 [])),h:=[] }⟩]
noncomputable def qrc:=q9 qch [(141,f141)] [((141,8),qh qh7 qfT (qf q22))] 0
noncomputable def q1L:=zk qrc 141 f141 3 qhe qgq
noncomputable def qut:=q9 qch [(141,f141)] [((141,3),qh qhe qgq (qf q1L))] 0
noncomputable def q4K:=qj qut 141 f141 true qko qm6
def qj0:FIn:=⟨[(.imm [(.int .i64),(.int .i64)])],[]⟩
def qjd:List FOut:=[⟨(.imm [(.int .i64),(.int .i64),(.int .i64)]),[],none⟩]
def qfm:Tmpl:={ t:=((.imm [(.int .i64),(.int .i64)])::.any::.any::(.vec 0)::(.int .i64)::ql 21 []),h:=[.vec 71 [(.int .i64),(.int .i64),(.int .i64)]],pro:=[(3,71,[(.int .i64),(.int .i64),(.int .i64)])] }
def qeW:List Out:=[⟨(.exit 0),{ t:=(.any::.any::.any::(.vec 0)::ql 22 []),h:=[.vec 71 [(.int .i64),(.int .i64),(.int .i64)]] }⟩]
noncomputable def qoH:=q9 [] [(142,f142)] [] 0
noncomputable def q11:=zk qoH 142 f142 4 qfm qeW
noncomputable def qrX:=q9 [] [(142,f142)] [((142,4),qh qfm qeW (qf q11))] 0
noncomputable def q6E:=qj qrX 142 f142 true qj0 qjd
def qit:FIn:=⟨[(.imm [(.int .i64),(.int .i64)])],[]⟩
def qiQ:List FOut:=[⟨(.tuple [(.agg [.str,.str]),.str,(.imm [(.int .i64)]),(.int .i64)]),[],none⟩]
noncomputable def qt0:=q9 [(140,q8 qnI qnY qb8),(141,q8 qko qm6 q4K),(142,q8 qj0 qjd q6E),(143,q8 qgi qh0 q0b),(144,q8 qbB qbp q1g)] [(79,f79)] [] 0
noncomputable def q70:=qj qt0 79 f79 true qit qiQ
def qyY:FIn:=⟨[(.imm [(.int .i64),(.int .i64)]),(.int .i64)],[]⟩
def qyA:List FOut:=[⟨(.tuple [.bool,(.int .i64)]),[],none⟩]
noncomputable def qA5:=q9 [(29,q8 q5f q4G jf),(79,q8 qit qiQ q70),(80,q8 q8T q8t un),(81,q8 q4A q4B zo),(82,q8 q5e q5L zB)] [(28,f28)] [] 0
noncomputable def qrL:=qj qA5 28 f28 true qyY qyA
def qjA:FIn:=⟨[(.agg [(.int .i64),(.int .i64)]),(.agg [(.int .i64),(.int .i64)])],[]⟩
def qkf:List FOut:=[⟨(.agg [(.int .i64),(.int .i64)]),[],none⟩]
noncomputable def qpz:=q9 [] [(85,f85)] [] 0
noncomputable def qdp:=qj qpz 85 f85 true qjA qkf
theorem qsl:qW prog qc 85 (q8 qjA qkf qdp):=sk qpz qe qa aln aln (b1 func85) func85
def q4E:FIn:=⟨[(.agg [(.int .i64),(.int .i64)]),(.agg [(.int .i64),(.int .i64)])],[]⟩
def q4y:List FOut:=[⟨(.int .i64),[],none⟩]
noncomputable def qav:=q9 [] [(86,f86)] [] 0
noncomputable def q1B:=qj qav 86 f86 true q4E q4y
theorem qgJ:qW prog qc 86 (q8 q4E q4y q1B):=sk qav qe qa aln aln (b1 func86) func86
def qa8:FIn:=⟨[(.agg [(.int .i64),(.int .i64)]),(.agg [(.int .i64),(.int .i64)])],[]⟩
def q9R:List FOut:=[⟨(.tuple [(.int .i64),(.int .i64)]),[],none⟩]
noncomputable def qhA:=q9 [(83,q8 yK yI z7),(84,q8 q0I q0n ya),(85,q8 qjA qkf qdp),(86,q8 q4E q4y q1B)] [(30,f30)] [] 0
noncomputable def q1S:=qj qhA 30 f30 true qa8 q9R
theorem qkN:qW prog qc 30 (q8 qa8 q9R q1S):=sk qhA qe qa (alc q3h (alc q0Y (alc qsl (alc qgJ aln)))) aln (b1 func30) func30
def q6v:FIn:=⟨[(.imm [(.int .i64),(.int .i64)]),(.int .i64)],[]⟩
def q6k:List FOut:=[⟨.bool,[],none⟩]
def q2H:Tmpl:={ t:=((.imm [(.int .i64),(.int .i64)])::(.int .i64)::.any::.any::.any::.bool::.any::(.int .i64)::(.vec 0)::.any::(.ptr 1 0)::ql 36 ((.imm [(.int .i64),(.int .i64)])::(.int .i64)::(.int .i64)::ql 7 ((.imm [(.int .i64),(.int .i64)])::(.int .i64)::(.int .i64)::ql 61 []))),h:=[.vec 73 [(.int .i64),(.int .i64),(.int .i64),(.int .i64),(.int .i64),(.int .i64)],.cells [(.int .i64),(.int .i64)]] }
def q2O:List Out:=[⟨(.exit 2),{ t:=((.imm [(.int .i64),(.int .i64)])::(.int .i64)::.any::.any::.any::.bool::.any::(.int .i64)::(.vec 0)::ql 38 ((.imm [(.int .i64),(.int .i64)])::(.int .i64)::(.int .i64)::ql 71 [])),h:=[.vec 73 [(.int .i64),(.int .i64),(.int .i64),(.int .i64),(.int .i64),(.int .i64)]] }⟩,⟨.ret,{ t:=(ql 4 (.bool::ql 116 [])),h:=[] }⟩]
noncomputable def q1z:List (FuncId×z8):=[(19,q8 qeu qdo q2t),(26,q8 qk6 qjO q66),(27,q8 qhM qhI kI),(29,q8 q5f q4G jf),(30,q8 qa8 q9R q1S),(31,q8 qaH qaW q08)]
theorem q3L:∀x,x∈q1z->qW prog qc x.1 x.2:=(alc qop (alc qsG (alc qkJ (alc qol (alc qkN (alc qfU aln))))))
noncomputable def kt:=q9 q1z [(6,f6)] [] 0
noncomputable def vG:=zk kt 6 f6 18 q2H q2O
theorem qer:qu prog qc kt.nimp (qK prog kt.iter 6) (ww f6 18) (qh q2H q2O (qf vG)):=gk kt qe qa q3L aln (b1 func6) func6
def q2Q:Tmpl:={ t:=((.imm [(.int .i64),(.int .i64)])::(.int .i64)::.any::.any::.any::.bool::.any::(.int .i64)::(.vec 0)::ql 38 ((.imm [(.int .i64),(.int .i64)])::(.int .i64)::(.int .i64)::ql 71 [])),h:=[.vec 73 [(.int .i64),(.int .i64),(.int .i64),(.int .i64),(.int .i64),(.int .i64)]],pro:=[(8,73,[(.int .i64),(.int .i64),(.int .i64),(.int .i64),(.int .i64),(.int .i64)])] }
def q2N:List Out:=[⟨(.exit 0),{ t:=(.any::(.int .i64)::.any::.any::.any::.bool::.any::(.int .i64)::(.vec 0)::ql 112 []),h:=[.vec 73 [(.int .i64),(.int .i64),(.int .i64),(.int .i64),(.int .i64),(.int .i64)]] }⟩,⟨.ret,{ t:=(ql 4 (.bool::ql 116 [])),h:=[] }⟩]
noncomputable def ki:=q9 q1z [(6,f6)] [((6,18),qh q2H q2O (qf vG))] 0
noncomputable def vK:=zk ki 6 f6 12 q2Q q2N
theorem qea:qu prog qc ki.nimp (qK prog ki.iter 6) (ww f6 12) (qh q2Q q2N (qf vK)):=gk ki qe qa q3L (alc (lk func6 qer) aln) (b1 func6) func6
noncomputable def vW:=q9 q1z [(6,f6)] [((6,12),qh q2Q q2N (qf vK))] 0
noncomputable def q06:=qj vW 6 f6 true q6v q6k
theorem qii:qW prog qc 6 (q8 q6v q6k q06):=sk vW qe qa q3L (alc (lk func6 qea) aln) (b1 func6) func6
def qu6:FIn:=⟨[(.int .i64)],[]⟩
def qtY:List FOut:=[⟨.bool,[],none⟩]
noncomputable def qBF:=q9 [] [(156,f156)] [] 0
noncomputable def q65:=qj qBF 156 f156 true qu6 qtY
def qlc:FIn:=⟨[(.agg [(.int .i64),(.int .i64)])],[]⟩
def qlz:List FOut:=[⟨(.int .i64),[],none⟩]
noncomputable def qum:=q9 [(156,q8 qu6 qtY q65)] [(95,f95)] [] 0
noncomputable def q8D:=qj qum 95 f95 true qlc qlz
def qxS:FIn:=⟨[(.agg [(.int .i64),(.int .i64)])],[]⟩
def qwG:List FOut:=[⟨(.int .i64),[],none⟩]
noncomputable def qye:=q9 [(95,q8 qlc qlz q8D)] [(43,f43)] [] 0
noncomputable def qnL:=qj qye 43 f43 true qxS qwG
end Go.Eng

namespace Go.Eng
abbrev qLO(r t:TR):TR:=.br (okR r) t .fail
abbrev qLP(c:Bool)(t:TR):TR:=.br c t .fail
abbrev qLQ(l:List PV):TR:=.leaf (0,l)
variable (a0 a1 a2 a3 a4 a5 a6 a7 a8 a9 a10 a11 a12 a13 a14 a15:R)
variable (c0 c1 c2 c3 c4 c5 c6 c7 c8 c9 c10 c11 c12 c13:Int)
variable (d0 d1 d2 d3 d4 d5 d7 d8 d10 d11:Bool)
variable (e0 e1 e2 e3 e4 e5 e6 e7 e8 e9 e10 e11 e12 e13 e14:qLR)
theorem qoi:qQ [.i c0]=(.br (ile (-100000) c0) (qLQ [.b (ile c0 100000)]) (qLQ [.b false])):=by kernel_rfl
theorem qsD:jT [.i c0,.i c1,.i c2]=(qLO (qQ [.i c0]) (.br (gB (qQ [.i c0]) 0) (qLO (qQ [.i c1]) (.br (gB (qQ [.i c1]) 0) (qLO (qQ [.i c2]) (qLQ [.b (gB (qQ [.i c2]) 0)])) (qLQ [.b false]))) (qLQ [.b false]))):=by kernel_rfl
theorem q4f:zq [.r a0,.i c1,.i c2]=(.br (ilt c2 c1) (qLP (inb c2 (qg a0)) (let r0:=jT [.i (cI a0 c2 0),.i (cI a0 c2 1),.i (cI a0 c2 2)];qLO r0 (.br (not (gB r0 0)) (.leaf (2,[.i 2])) (qLQ [.r a0,.i c1,.i (qm .i64 c2 1)])))) (.leaf (1,[]))):=by kernel_rfl
theorem qfH:zl [.r a0]=(let r0:=qf zq [.r a0,.i (qg a0),.i 0];qLO r0 (.br (jIs r0 0) (qLQ [.i 0]) (qLQ [.i (gI r0 0)]))):=by kernel_rfl
theorem qaj:wC [.r a0]=(.br (ilt 64 (qg a0)) (qLQ [.i 5]) (let r0:=zl [.r a0];qLO r0 (qLQ [.i (gI r0 0)]))):=by kernel_rfl
theorem qij:wK [.r a0]=(let r0:=wC [.r a0];qLO r0 (qLQ [.i (gI r0 0)])):=by kernel_rfl
theorem qgy:qE [.i c0,.i c1,.i c2,.i c3]=(qLP (inb c3 3) (qLQ [.i (qma [c0,c1,c2] c3),.i c3])):=by kernel_rfl
theorem q1R:zm [.r a0,.r a1,.i c2,.i c3,.i c4,.i c5,.i c6,.i c7,.i c8]=(let t0:=qE [.i (cI a1 c3 0),.i (cI a1 c3 1),.i (cI a1 c3 2),.i c4];let t1:=qE [.i (cI a0 c7 0),.i (cI a0 c7 1),.i (cI a0 c7 2),.i (gI t0 1)];let t2:=qE [.i (cI a1 c3 0),.i (cI a1 c3 1),.i (cI a1 c3 2),.i (gI t1 1)];let t3:=qE [.i (cI a0 c8 0),.i (cI a0 c8 1),.i (cI a0 c8 2),.i (gI t2 1)];let b0:Bool:=(ilt (gI t3 0) (gI t2 0));let i0:Int:=(gI t3 1);let i1:Int:=(qm .i64 c3 1);let p0:List PV:=[.i c5,.i c6,.i c7,.i c8];(.br (ilt c3 c2) (qLP (inb c3 (qg a1)) (qLO t0 (qLP (inb c7 (qg a0)) (qLO t1 (.br (ilt (gI t0 0) (gI t1 0)) (qLO t2 (qLP (inb c8 (qg a0)) (qLO t3 (.br b0 (qLQ [.r a0,.r a1,.i c2,.i i1,.i i0,.i c5,.i c6,.i c3,.i c3]) (qLQ [.r a0,.r a1,.i c2,.i i1,.i i0,.i c5,.i c6,.i c3,.i c8]))))) (qLO t2 (qLP (inb c8 (qg a0)) (qLO t3 (.br b0 (qLQ [.r a0,.r a1,.i c2,.i i1,.i i0,.i c5,.i c6,.i c7,.i c3]) (qLQ ((.r a0)::(.r a1)::(.i c2)::(.i i1)::(.i i0)::p0))))))))))) (.leaf (1,((.i c4)::p0))))):=by kernel_rfl
theorem qbl:wT [.r a0,.i c1]=(let r0:=qf zm [.r a0,.r a0,.i (qg a0),.i 0,.i c1,.i 0,.i 0,.i 0,.i 0];qLO r0 (qLQ [.i (gI r0 3),.i (gI r0 4),.i (gI r0 0)])):=by kernel_rfl
theorem qk1:zg [.r a0,.i c1]=(let r0:=wT [.r a0,.i c1];qLO r0 (qLP (inb (gI r0 0) (qg a0)) (let r1:=qE [.i (cI a0 (gI r0 0) 0),.i (cI a0 (gI r0 0) 1),.i (cI a0 (gI r0 0) 2),.i (gI r0 2)];qLO r1 (qLP (inb (gI r0 1) (qg a0)) (let r2:=qE [.i (cI a0 (gI r0 1) 0),.i (cI a0 (gI r0 1) 1),.i (cI a0 (gI r0 1) 2),.i (gI r1 1)];qLO r2 (qLQ [.i (gI r1 0),.i (gI r2 0)])))))):=by kernel_rfl
theorem qh5:ji [.r a0,.r a1,.i c2,.i c3,.r a4,.r a5]=(.br (ilt c2 2) (.br (ieq c2 0) (.br (ieq (qg a0) 0) (.leaf (2,[.i 13])) (let r0:=wK [.r a0];qLO r0 (.br (ine (gI r0 0) 0) (.leaf (2,[.i (gI r0 0)])) (qLQ [.r a0,.r a1,.i (qm .i64 c2 1),.i c3,.r a4,.r a5])))) (qLP (ieq c2 1) (.br (ieq (qg a1) 0) (.leaf (2,[.i 13])) (let r0:=wK [.r a1];qLO r0 (.br (ine (gI r0 0) 0) (.leaf (2,[.i (gI r0 0)])) (qLQ [.r a0,.r a1,.i (qm .i64 c2 1),.i c3,.r a4,.r a5])))))) (.leaf (1,[.i c3,.r a4,.r a5]))):=by kernel_rfl
theorem qvY:ut [.i c0,.r a1,.r a2]=(.br (ilt c0 0) (qLQ [.i 1]) (.br (ile 3 c0) (qLQ [.i 1]) (let r0:=qf ji [.r a1,.r a2,.i 0,.i c0,.r a1,.r a2];qLO r0 (.br (jIs r0 0) (let r1:=zg [.r (gR r0 1),.i (gI r0 0)];qLO r1 (let r2:=zg [.r (gR r0 2),.i (gI r0 0)];qLO r2 (.br (ile (gI r2 0) (gI r1 1)) (qLQ [.i 9]) (qLQ [.i 0])))) (qLQ [.i (gI r0 0)]))))):=by kernel_rfl
theorem qsj:q0x [.i c0,.r a1,.r a2]=(let r0:=zg [.r a1,.i c0];qLO r0 (let r1:=zg [.r a2,.i c0];qLO r1 (qLQ [.i (wd .i64 (gI r1 0) (gI r0 1)),.i (wd .i64 (gI r1 1) (gI r0 0))]))):=by kernel_rfl
theorem qtf:q2l [.i c0,.r a1,.r a2,.b d3]=(let p0:List PV:=[.i c0,.r a1,.r a2];let t0:=q0x p0;(qLO (ut p0) (.br (ine (gI (ut p0) 0) 0) (qLQ [.i 0,.i (gI (ut p0) 0)]) (.br d3 (qLO t0 (qLQ [.i (gI t0 0),.i 0])) (qLO t0 (qLQ [.i (gI t0 1),.i 0])))))):=by kernel_rfl
theorem qtj:q4J [.i c0,.r a1,.r a2]=(let r0:=ut [.i c0,.r a1,.r a2];qLO r0 (.br (ine (gI r0 0) 0) (qLQ [.i 0,.i 0,.i (gI r0 0)]) (let r1:=q0x [.i c0,.r a1,.r a2];qLO r1 (qLQ [.i (gI r1 0),.i (gI r1 1),.i 0])))):=by kernel_rfl
theorem qzj:wt [.i c0]=(qLO (q31 [.i c0]) (qLQ [.s (gS (q31 [.i c0]) 0)])):=by kernel_rfl
theorem qs6:wH [.i c0]=(qLO (wt [.i c0]) (qLQ [.s (gS (wt [.i c0]) 0)])):=by kernel_rfl
theorem qtg:ya [.i c0,.i c1]=(qLO (qQ [.i c0]) (.br (gB (qQ [.i c0]) 0) (qLO (qQ [.i c1]) (qLQ [.b (gB (qQ [.i c1]) 0)])) (qLQ [.b false]))):=by kernel_rfl
theorem q38:zb [.r a0,.i c1,.i c2]=(.br (ilt c2 c1) (qLP (inb c2 (qg a0)) (let r0:=ya [.i (cI a0 c2 0),.i (cI a0 c2 1)];qLO r0 (.br (not (gB r0 0)) (.leaf (2,[.i 2])) (qLQ [.r a0,.i c1,.i (qm .i64 c2 1)])))) (.leaf (1,[]))):=by kernel_rfl
theorem qdq:z7 [.r a0]=(let r0:=qf zb [.r a0,.i (qg a0),.i 0];qLO r0 (.br (jIs r0 0) (qLQ [.i 0]) (qLQ [.i (gI r0 0)]))):=by kernel_rfl
theorem q9P:zW [.r a0]=(.br (ilt 64 (qg a0)) (qLQ [.i 5]) (let r0:=z7 [.r a0];qLO r0 (qLQ [.i (gI r0 0)]))):=by kernel_rfl
theorem qru:q39 [.r a0]=(let r0:=zW [.r a0];qLO r0 (qLQ [.i (gI r0 0)])):=by kernel_rfl
theorem qpC:q3i [.i c0]=(.br (ieq c0 0) (qLQ [.i 13]) (qLQ [.i 0])):=by kernel_rfl
theorem qri:q3l [.r a0]=(let r0:=q39 [.r a0];qLO r0 (.br (ine (gI r0 0) 0) (qLQ [.i (gI r0 0)]) (let r1:=q3i [.i (qg a0)];qLO r1 (qLQ [.i (gI r1 0)])))):=by kernel_rfl
theorem q5c:wu [.r a0]=(qLP (ile (qg a0) 17592186044416) (qLQ [.r a0])):=by kernel_rfl
theorem q5m:qC [.s e0,.s e1]=(.br (ile (qq e1) (qq e0)) (qLP (q4r (qq e1) (qq e0)) (qLP (q4r 0 (qq e1)) (qLQ [.b (seq (qc8 e0 0 (qq e1)) e1)]))) (qLQ [.b false])):=by kernel_rfl
theorem q4q:qX [.s e0,.s e1]=(let r0:=qC [.s e0,.s e1];qLO r0 (.br (gB r0 0) (qLP (q4r (qq e0) (qq e0)) (qLP (q4r (qq e1) (qq e0)) (qLQ [.s (qc8 e0 (qq e1) (qq e0))]))) (qLQ [.s e0]))):=by kernel_rfl
theorem qgv:qV [.s e0,.s e1]=(let r0:=qX [.s e0,.s e1];qLO r0 (qLQ [.s (gS r0 0)])):=by kernel_rfl
theorem qt7:qU [.s e0]=(let t0:=qV [.s e0,.s [45]];let s0:List UInt8:=(gS t0 0);let t1:TR:=(qLQ [.i 3]);let t2:=q6L [.s s0,.s [48,49,50,51,52,53,54,55,56,57]];let t3:TR:=(.br (ilt 1024 (qq s0)) (qLQ [.i 11]) (qLQ [.i 0]));(qLO t0 (.br (seq s0 []) t1 (qLO t2 (.br (not (seq (gS t2 0) [])) t1 (qLP (inb 0 (qq s0)) (.br (ieq (sat s0 0) 48) (.br (not (seq e0 [48])) t1 t3) t3))))))):=by kernel_rfl
theorem qj3:q59 [.r a0,.i c1,.i c2]=(.br (ilt c2 c1) (qLP (inb c2 (qg a0)) (let r0:=qU [.s (cS a0 c2 0)];qLO r0 (.br (ine (gI r0 0) 0) (.leaf (2,[.i (gI r0 0)])) (qLQ [.r a0,.i c1,.i (qm .i64 c2 1)])))) (.leaf (1,[]))):=by kernel_rfl
theorem qxo:w8 [.r a0]=(let r0:=qf q59 [.r a0,.i (qg a0),.i 0];qLO r0 (.br (jIs r0 0) (qLQ [.i 0]) (qLQ [.i (gI r0 0)]))):=by kernel_rfl
theorem qsm:jX [.s e0,.s e1]=(.br (ilt 9 (qq e0)) (qLQ [.i 0,.i 0,.b false]) (.br (ilt 9 (qq e1)) (qLQ [.i 0,.i 0,.b false]) (qLO (jl [.s e0]) (qLO (jl [.s e1]) (qLQ [.i (gI (jl [.s e0]) 0),.i (gI (jl [.s e1]) 0),.b true]))))):=by kernel_rfl
theorem qqH:uS [.i c0]=(qLO (wt [.i c0]) (qLQ [.s (gS (wt [.i c0]) 0),.i 0])):=by kernel_rfl
theorem qe7:vQ [.b d0,.i c1,.r a2]=(let i0:Int:=(wd .i64 c1 1);let t0:TR:=(.leaf (1,[.b d0,.i c1,.r a2]));(.br (ilt 0 c1) (qLP (inb i0 232) (qLP (inb i0 232) (.br (ieq (cI a2 i0 0) 0) (qLQ [.b d0,.i i0,.r a2]) t0))) t0)):=by kernel_rfl
theorem qgA:qL [.b d0,.i c1,.r a2]=(let r0:=qf vQ [.b d0,.i c1,.r a2];qLO r0 (qLQ [.b (gB r0 0),.i (gI r0 1),.r (gR r0 2)])):=by kernel_rfl
theorem qpQ:q2W [.s e0,.b d1,.i c2,.r a3]=(let i0:Int:=(qq e0);let i1:Int:=(qoO 0 (wd .i64 i0 9));let t0:=jl [.s (qc8 e0 i1 i0)];(.br (ilt 0 i0) (qLP (q4r i0 i0) (qLP (q4r i1 i0) (qLO t0 (qLP (inb c2 232) (qLP (inb c2 232) (qLP (q4r i1 i0) (qLP (q4r 0 i1) (qLQ [.s (qc8 e0 0 i1),.b d1,.i (qm .i64 c2 1),.r (qaa a3 c2 0 [.i (gI t0 0)])])))))))) (.leaf (1,[.b d1,.i c2,.r a3])))):=by kernel_rfl
theorem qvc:wg [.s e0]=(qLP (inb 0 (qq e0)) (let r0:=qV [.s e0,.s [45]];qLO r0 (let r1:=qf q2W [.s (gS r0 0),.b (ieq (sat e0 0) 45),.i 0,.r (q2P 232 [.i 0])];qLO r1 (let r2:=qL [.b (gB r1 0),.i (gI r1 1),.r (gR r1 2)];qLO r2 (qLQ [.b (gB r2 0),.i (gI r2 1),.r (gR r2 2)]))))):=by kernel_rfl
theorem q79:vJ [.i c0,.i c1,.i c2,.i c3,.b d4,.i c5,.r a6,.b d7,.i c8,.r a9]=(let i0:Int:=(qm .i64 c3 c1);let b0:Bool:=(inb i0 232);let i1:Int:=(qm .i64 (cI a6 i0 0) c2);let i2:Int:=(qm .i64 i1 (zV .i64 c0 (cI a9 c3 0)));let i3:Int:=(qbe .i64 i2 1000000000);let i4:Int:=(wd .i64 i2 (zV .i64 i3 1000000000));let p0:List PV:=[.b d7,.i c8,.r a9];let i5:Int:=(qoO c5 (qm .i64 i0 1));let i6:Int:=(qm .i64 c3 1);let i7:Int:=(qbe .i64 i1 1000000000);let i8:Int:=(wd .i64 i1 (zV .i64 i7 1000000000));let t0:TR:=(qLP b0 (qLP b0 (.br (ilt c3 c8) (qLP (inb c3 232) (qLP (inb c3 232) (.br (ilt i4 0) (qLP b0 (qLP b0 (qLQ ((.i c0)::(.i c1)::(.i (wd .i64 i3 1))::(.i i6)::(.b d4)::(.i i5)::(.r (qaa a6 i0 0 [.i (qm .i64 i4 1000000000)]))::p0)))) (qLP b0 (qLP b0 (qLQ ((.i c0)::(.i c1)::(.i i3)::(.i i6)::(.b d4)::(.i i5)::(.r (qaa a6 i0 0 [.i i4]))::p0))))))) (.br (ilt i8 0) (qLP b0 (qLP b0 (qLQ ((.i c0)::(.i c1)::(.i (wd .i64 i7 1))::(.i i6)::(.b d4)::(.i i5)::(.r (qaa a6 i0 0 [.i (qm .i64 i8 1000000000)]))::p0)))) (qLP b0 (qLP b0 (qLQ ((.i c0)::(.i c1)::(.i i7)::(.i i6)::(.b d4)::(.i i5)::(.r (qaa a6 i0 0 [.i i8]))::p0))))))));(.br (ilt c3 c8) t0 (.br (ine c2 0) t0 (.leaf (1,((.b d4)::(.i c5)::(.r a6)::p0)))))):=by kernel_rfl
theorem qkc:qP [.i c0,.i c1,.b d2,.i c3,.r a4,.b d5,.i c6,.r a7]=(let r0:=qf vJ [.i c0,.i c1,.i 0,.i 0,.b d2,.i c3,.r a4,.b d5,.i c6,.r a7];qLO r0 (let r1:=qL [.b (gB r0 0),.i (gI r0 1),.r (gR r0 2)];qLO r1 (qLQ [.b (gB r1 0),.i (gI r1 1),.r (gR r1 2),.b (gB r0 3),.i (gI r0 4),.r (gR r0 5)]))):=by kernel_rfl
theorem qhp:jK [.i c0,.i c1,.b d2,.i c3,.r a4,.b d5,.i c6,.r a7,.b d8,.i c9,.r a10]=(.br (ilt c1 c0) (qLP (inb c1 232) (qLP (inb c1 232) (let r0:=qP [.i (cI a7 c1 0),.i c1,.b d8,.i c9,.r a10,.b d2,.i c3,.r a4];qLO r0 (qLQ [.i c0,.i (qm .i64 c1 1),.b (gB r0 3),.i (gI r0 4),.r (gR r0 5),.b d5,.i c6,.r a7,.b (gB r0 0),.i (gI r0 1),.r (gR r0 2)])))) (.leaf (1,[.b d2,.i c3,.r a4,.b d5,.i c6,.r a7,.b d8,.i c9,.r a10]))):=by kernel_rfl
theorem qk9:ui [.b d0,.i c1,.r a2,.b d3,.i c4,.r a5]=(let r0:=qf jK [.i c4,.i 0,.b d0,.i c1,.r a2,.b d3,.i c4,.r a5,.b (not (beq d0 d3)),.i 0,.r (q2P 232 [.i 0])];qLO r0 (qLQ [.b (gB r0 0),.i (gI r0 1),.r (gR r0 2),.b (gB r0 3),.i (gI r0 4),.r (gR r0 5),.b (gB r0 6),.i (gI r0 7),.r (gR r0 8)])):=by kernel_rfl
theorem qhr:zZ [.b d0,.i c1,.r a2]=(let r0:=za [.b d0,.i c1,.r a2];qLO r0 (let r1:=qU [.s (gS r0 0)];qLO r1 (.br (ine (gI r1 0) 0) (qLQ [.s [],.i (gI r1 0),.b (gB r0 1),.i (gI r0 2),.r (gR r0 3)]) (qLQ [.s (gS r0 0),.i 0,.b (gB r0 1),.i (gI r0 2),.r (gR r0 3)])))):=by kernel_rfl
theorem qx2:q3M [.s e0,.s e1]=(let r0:=w8 [.r [[.s e0],[.s e1]]];qLO r0 (.br (ine (gI r0 0) 0) (qLQ [.s [],.i (gI r0 0)]) (let r1:=jX [.s e0,.s e1];qLO r1 (.br (gB r1 2) (let r2:=uS [.i (zV .i64 (gI r1 0) (gI r1 1))];qLO r2 (qLQ [.s (gS r2 0),.i (gI r2 1)])) (let r2:=wg [.s e0];qLO r2 (let r3:=wg [.s e1];qLO r3 (let r4:=ui [.b (gB r2 0),.i (gI r2 1),.r (gR r2 2),.b (gB r3 0),.i (gI r3 1),.r (gR r3 2)];qLO r4 (let r5:=zZ [.b (gB r4 6),.i (gI r4 7),.r (gR r4 8)];qLO r5 (qLQ [.s (gS r5 0),.i (gI r5 1)]))))))))):=by kernel_rfl
theorem qah:zw [.s e0,.s e1,.i c2]=(.br (ine c2 0) (qLQ [.s [48],.i c2]) (let r0:=q3M [.s e0,.s e1];qLO r0 (.br (ine (gI r0 1) 0) (qLQ [.s [48],.i (gI r0 1)]) (qLQ [.s (gS r0 0),.i (gI r0 1)])))):=by kernel_rfl
theorem qa5:ju [.s e0,.r a1,.i c2,.i c3,.i c4]=(.br (ilt c3 c2) (qLP (inb c3 (qg a1)) (let r0:=zw [.s e0,.s (cS a1 c3 0),.i c4];qLO r0 (qLQ [.s (gS r0 0),.r a1,.i c2,.i (qm .i64 c3 1),.i (gI r0 1)]))) (.leaf (1,[.s e0,.i c4]))):=by kernel_rfl
theorem qno:qp [.r a0,.i c1]=(let r0:=qf ju [.s [49],.r a0,.i (qg a0),.i 0,.i c1];qLO r0 (qLQ [.s (gS r0 0),.i (gI r0 1)])):=by kernel_rfl
theorem qfG:jq [.i c0,.b d1,.i c2,.r a3,.b d4,.i c5,.r a6]=(let b0:Bool:=(inb c0 232);let p0:List PV:=[.b d1,.i c2,.r a3,.b d4,.i c5,.r a6];(.br (ile 0 c0) (qLP b0 (qLP b0 (qLP b0 (qLP b0 (.br (ine (cI a3 c0 0) (cI a6 c0 0)) (qLP b0 (qLP b0 (qLP b0 (qLP b0 (.leaf (2,((.i (wd .i64 (cI a3 c0 0) (cI a6 c0 0)))::p0))))))) (qLQ ((.i (wd .i64 c0 1))::p0))))))) (.leaf (1,p0)))):=by kernel_rfl
theorem qi8:wI [.b d0,.i c1,.r a2,.b d3,.i c4,.r a5]=(.br (ine c1 c4) (qLQ [.i (wd .i64 c1 c4),.b d0,.i c1,.r a2,.b d3,.i c4,.r a5]) (let r0:=qf jq [.i (wd .i64 c1 1),.b d0,.i c1,.r a2,.b d3,.i c4,.r a5];qLO r0 (.br (jIs r0 0) (qLQ [.i 0,.b (gB r0 0),.i (gI r0 1),.r (gR r0 2),.b (gB r0 3),.i (gI r0 4),.r (gR r0 5)]) (qLQ [.i (gI r0 0),.b (gB r0 1),.i (gI r0 2),.r (gR r0 3),.b (gB r0 4),.i (gI r0 5),.r (gR r0 6)])))):=by kernel_rfl
theorem qkM:wP [.b d0,.i c1,.r a2,.b d3,.i c4,.r a5]=(.br (beq d0 d3) (let r0:=qP [.i 1,.i 0,.b d0,.i c1,.r a2,.b d3,.i c4,.r a5];qLO r0 (qLQ [.b (gB r0 0),.i (gI r0 1),.r (gR r0 2),.b (gB r0 3),.i (gI r0 4),.r (gR r0 5)])) (let r0:=wI [.b d0,.i c1,.r a2,.b d3,.i c4,.r a5];qLO r0 (.br (ile 0 (gI r0 0)) (let r1:=qP [.i (-1),.i 0,.b (gB r0 1),.i (gI r0 2),.r (gR r0 3),.b (gB r0 4),.i (gI r0 5),.r (gR r0 6)];qLO r1 (qLQ [.b (gB r1 0),.i (gI r1 1),.r (gR r1 2),.b (gB r1 3),.i (gI r1 4),.r (gR r1 5)])) (let r1:=qP [.i (-1),.i 0,.b (gB r0 4),.i (gI r0 5),.r (gR r0 6),.b (gB r0 1),.i (gI r0 2),.r (gR r0 3)];qLO r1 (qLQ [.b (gB r1 0),.i (gI r1 1),.r (gR r1 2),.b (gB r0 4),.i (gI r0 5),.r (gR r0 6)]))))):=by kernel_rfl
theorem qbn:q4I [.r a0,.i c1,.i c2,.b d3,.i c4,.r a5]=(.br (ilt c2 c1) (qLP (inb c2 (qg a0)) (let r0:=wg [.s (cS a0 c2 0)];qLO r0 (let r1:=wP [.b d3,.i c4,.r a5,.b (gB r0 0),.i (gI r0 1),.r (gR r0 2)];qLO r1 (qLQ [.r a0,.i c1,.i (qm .i64 c2 1),.b (gB r1 0),.i (gI r1 1),.r (gR r1 2)])))) (.leaf (1,[.b d3,.i c4,.r a5]))):=by kernel_rfl
theorem qxt:q9V [.r a0]=(let r0:=qf q4I [.r a0,.i (qg a0),.i 0,.b false,.i 0,.r (q2P 232 [.i 0])];qLO r0 (let r1:=zZ [.b (gB r0 0),.i (gI r0 1),.r (gR r0 2)];qLO r1 (qLQ [.s (gS r1 0),.i (gI r1 1)]))):=by kernel_rfl
theorem qxF:q1O [.s e0,.s e1]=(let r0:=w8 [.r [[.s e0],[.s e1]]];qLO r0 (.br (ine (gI r0 0) 0) (qLQ [.s [],.i (gI r0 0)]) (let r1:=jX [.s e0,.s e1];qLO r1 (.br (gB r1 2) (let r2:=uS [.i (qm .i64 (gI r1 0) (gI r1 1))];qLO r2 (qLQ [.s (gS r2 0),.i (gI r2 1)])) (let r2:=q9V [.r [[.s e0],[.s e1]]];qLO r2 (qLQ [.s (gS r2 0),.i (gI r2 1)])))))):=by kernel_rfl
theorem qvK:yg [.s e0]=(.br (seq e0 [48]) (qLQ [.i 0]) (qLP (inb 0 (qq e0)) (.br (ieq (sat e0 0) 45) (qLQ [.i (-1)]) (qLQ [.i 1])))):=by kernel_rfl
theorem qmy:q14 [.s e0]=(let r0:=yg [.s e0];qLO r0 (.br (ieq (gI r0 0) 0) (qLQ [.s e0]) (.br (ieq (gI r0 0) 1) (qLP (ile ((qq [45])+(qq e0)) 140737488355328) (qLQ [.s (qdj [45] e0)])) (qLP (q4r (qq e0) (qq e0)) (qLP (q4r 1 (qq e0)) (qLQ [.s (qc8 e0 1 (qq e0))])))))):=by kernel_rfl
theorem qxr:q6y [.s e0,.s e1]=(let r0:=w8 [.r [[.s e0],[.s e1]]];qLO r0 (.br (ine (gI r0 0) 0) (qLQ [.s [],.i (gI r0 0)]) (let r1:=q14 [.s e1];qLO r1 (let r2:=q1O [.s e0,.s (gS r1 0)];qLO r2 (qLQ [.s (gS r2 0),.i (gI r2 1)]))))):=by kernel_rfl
theorem qak:wG [.s e0,.s e1,.i c2]=(.br (ine c2 0) (qLQ [.s [48],.i c2]) (let r0:=q6y [.s e0,.s e1];qLO r0 (.br (ine (gI r0 1) 0) (qLQ [.s [48],.i (gI r0 1)]) (qLQ [.s (gS r0 0),.i (gI r0 1)])))):=by kernel_rfl
theorem qmm:vO [.s e0,.s e1,.i c2]=(let r0:=wG [.s e0,.s e1,.i c2];qLO r0 (qLQ [.s (gS r0 0),.i (gI r0 1)])):=by kernel_rfl
theorem qsE:q2A [.s e0,.s e1,.s e2,.s e3,.i c4]=(let r0:=qp [.r [[.s e0],[.s e3]],.i c4];qLO r0 (let r1:=qp [.r [[.s e2],[.s e1]],.i (gI r0 1)];qLO r1 (let r2:=vO [.s (gS r0 0),.s (gS r1 0),.i (gI r1 1)];qLO r2 (let r3:=qp [.r [[.s e1],[.s e3]],.i (gI r2 1)];qLO r3 (qLQ [.s (gS r2 0),.s (gS r3 0),.i (gI r3 1)]))))):=by kernel_rfl
theorem q97:zT [.s e0,.s e1]=(let r0:=v7 [.s e0,.s e1];qLO r0 (.br (ile 0 (gI r0 0)) (qLP (q4r (gI r0 0) (qq e0)) (qLP (q4r 0 (gI r0 0)) (qLP (q4r (qq e0) (qq e0)) (qLP (q4r (qm .i64 (gI r0 0) (qq e1)) (qq e0)) (qLQ [.s (qc8 e0 0 (gI r0 0)),.s (qc8 e0 (qm .i64 (gI r0 0) (qq e1)) (qq e0)),.b true]))))) (qLQ [.s e0,.s [],.b false]))):=by kernel_rfl
theorem qt9:q4L [.s e0,.s e1]=(let r0:=zT [.s e0,.s e1];qLO r0 (qLQ [.s (gS r0 0),.s (gS r0 1),.b (gB r0 2)])):=by kernel_rfl
theorem qx3:qS [.s e0]=(let r0:=q4L [.s e0,.s [47]];qLO r0 (.br (not (gB r0 2)) (qLQ [.s (gS r0 0),.s [49],.b (gB r0 2)]) (qLQ [.s (gS r0 0),.s (gS r0 1),.b (gB r0 2)]))):=by kernel_rfl
theorem qsP:q5u [.s e0,.s e1]=(.br (ine (qq e0) (qq e1)) (.br (ilt (qq e0) (qq e1)) (qLQ [.i (-1)]) (qLQ [.i 1])) (let r0:=q2e [.s e0,.s e1];qLO r0 (qLQ [.i (gI r0 0)]))):=by kernel_rfl
theorem qoE:yq [.s e0,.s e1]=(let r0:=w8 [.r [[.s e0],[.s e1]]];qLO r0 (.br (ine (gI r0 0) 0) (qLQ [.i 0,.i (gI r0 0)]) (let r1:=yg [.s e0];qLO r1 (let r2:=yg [.s e1];qLO r2 (.br (ilt (gI r1 0) (gI r2 0)) (qLQ [.i (-1),.i 0]) (qLO r2 (.br (ilt (gI r2 0) (gI r1 0)) (qLQ [.i 1,.i 0]) (let r3:=qV [.s e0,.s [45]];qLO r3 (let r4:=qV [.s e1,.s [45]];qLO r4 (let r5:=q5u [.s (gS r3 0),.s (gS r4 0)];qLO r5 (qLQ [.i (zV .i64 (gI r1 0) (gI r5 0)),.i 0]))))))))))):=by kernel_rfl
theorem qmh:q0Z [.b d0,.i c1,.r a2,.b d3,.i c4,.r a5]=(let i0:Int:=(wd .i64 c4 1);let b0:Bool:=(ilt i0 0);let b1:Bool:=(ilt 1 c4);let p0:List PV:=[.b d0,.i c1,.r a2,.b d3,.i c4,.r a5];let t0:TR:=(qLQ ((.i 1)::p0));let b2:Bool:=(ile c4 i0);let b3:Bool:=(inb i0 232);let i1:Int:=(cI a5 i0 0);let i2:Int:=(qm .i64 i1 1);let b4:Bool:=(ine i2 0);let b5:Bool:=(ine i1 0);let t1:TR:=(.br b0 (qLP b1 t0) (.br b2 (qLP b1 t0) (qLP b3 (qLP b3 (.br b1 (qLP b4 (.br (ilt 0 (qbe .i64 0 i2)) (qLQ ((.i (qfN (qbe .i64 0 i2) 999999999))::p0)) t0)) (qLP b5 (.br (ilt 0 (qbe .i64 0 i1)) (qLQ ((.i (qfN (qbe .i64 0 i1) 999999999))::p0)) t0)))))));let i3:Int:=(qm .i64 0 (cI a2 i0 0));let t2:TR:=(qLP b1 (.br (ilt 0 (qbe .i64 i3 1)) (qLQ ((.i (qfN (qbe .i64 i3 1) 999999999))::p0)) t0));let t3:TR:=(.br b0 t1 (.br (ile c1 i0) t1 (qLP b3 (qLP b3 (.br b0 t2 (.br b2 t2 (qLP b3 (qLP b3 (.br b1 (qLP b4 (.br (ilt 0 (qbe .i64 i3 i2)) (qLQ ((.i (qfN (qbe .i64 i3 i2) 999999999))::p0)) t0)) (qLP b5 (.br (ilt 0 (qbe .i64 i3 i1)) (qLQ ((.i (qfN (qbe .i64 i3 i1) 999999999))::p0)) t0)))))))))));let i4:Int:=(zV .i64 (cI a2 c4 0) 1000000000);let i5:Int:=(qm .i64 i4 0);let t4:TR:=(qLP b1 (.br (ilt 0 (qbe .i64 i5 1)) (qLQ ((.i (qfN (qbe .i64 i5 1) 999999999))::p0)) t0));let t5:TR:=(.br b0 t4 (.br b2 t4 (qLP b3 (qLP b3 (.br b1 (qLP b4 (.br (ilt 0 (qbe .i64 i5 i2)) (qLQ ((.i (qfN (qbe .i64 i5 i2) 999999999))::p0)) t0)) (qLP b5 (.br (ilt 0 (qbe .i64 i5 i1)) (qLQ ((.i (qfN (qbe .i64 i5 i1) 999999999))::p0)) t0)))))));let i6:Int:=(qm .i64 i4 (cI a2 i0 0));let t6:TR:=(qLP b1 (.br (ilt 0 (qbe .i64 i6 1)) (qLQ ((.i (qfN (qbe .i64 i6 1) 999999999))::p0)) t0));(.br (ilt c4 0) t3 (.br (ile c1 c4) t3 (qLP (inb c4 232) (qLP (inb c4 232) (.br b0 t5 (.br (ile c1 i0) t5 (qLP b3 (qLP b3 (.br b0 t6 (.br b2 t6 (qLP b3 (qLP b3 (.br b1 (qLP b4 (.br (ilt 0 (qbe .i64 i6 i2)) (qLQ ((.i (qfN (qbe .i64 i6 i2) 999999999))::p0)) t0)) (qLP b5 (.br (ilt 0 (qbe .i64 i6 i1)) (qLQ ((.i (qfN (qbe .i64 i6 i1) 999999999))::p0)) t0)))))))))))))))):=by kernel_rfl
theorem qjp:jB [.i c0,.i c1,.b d2,.i c3,.r a4,.b d5,.i c6,.r a7,.b d8,.i c9,.r a10,.b d11,.i c12,.r a13]=(let r0:=wI [.b d11,.i c12,.r a13,.b d5,.i c6,.r a7];qLO r0 (.br (ile 0 (gI r0 0)) (let r1:=q0Z [.b (gB r0 1),.i (gI r0 2),.r (gR r0 3),.b (gB r0 4),.i (gI r0 5),.r (gR r0 6)];qLO r1 (let r2:=qP [.i (wd .i64 0 (gI r1 0)),.i 0,.b (gB r1 1),.i (gI r1 2),.r (gR r1 3),.b (gB r1 4),.i (gI r1 5),.r (gR r1 6)];qLO r2 (qLQ [.i c0,.i (qm .i64 c1 (gI r1 0)),.b d2,.i c3,.r a4,.b (gB r2 3),.i (gI r2 4),.r (gR r2 5),.b d8,.i c9,.r a10,.b (gB r2 0),.i (gI r2 1),.r (gR r2 2)]))) (.leaf (1,[.i c0,.i c1,.b d2,.i c3,.r a4,.b (gB r0 4),.i (gI r0 5),.r (gR r0 6),.b d8,.i c9,.r a10,.b (gB r0 1),.i (gI r0 2),.r (gR r0 3)])))):=by kernel_rfl
theorem qln:kX [.i c0,.b d1,.i c2,.r a3,.b d4,.i c5,.r a6,.b d7,.i c8,.r a9,.b d10,.i c11,.r a12]=(.br (ile 0 c0) (qLP (q4r 232 232) (qLP (q4r 1 232) (qLP (q4r c11 232) (qLP (q4r 0 c11) (qLP (inb c0 232) (qLP (inb c0 232) (let r0:=qL [.b d10,.i (qm .i64 c11 1),.r (qaa (qkQ a12 1 a12 0 (qfN (qzh c11 0) (qzh 232 1))) 0 0 [.i (cI a3 c0 0)])];qLO r0 (let r1:=qf jB [.i c0,.i 0,.b d1,.i c2,.r a3,.b d4,.i c5,.r a6,.b d7,.i c8,.r a9,.b (gB r0 0),.i (gI r0 1),.r (gR r0 2)];qLO r1 (qLP (inb (gI r1 0) 232) (qLP (inb (gI r1 0) 232) (qLQ [.i (wd .i64 (gI r1 0) 1),.b (gB r1 2),.i (gI r1 3),.r (gR r1 4),.b (gB r1 5),.i (gI r1 6),.r (gR r1 7),.b (gB r1 8),.i (qoO (gI r1 9) (qm .i64 (gI r1 0) 1)),.r (qaa (gR r1 10) (gI r1 0) 0 [.i (gI r1 1)]),.b (gB r1 11),.i (gI r1 12),.r (gR r1 13)]))))))))))) (.leaf (1,[.b d1,.i c2,.r a3,.b d4,.i c5,.r a6,.b d7,.i c8,.r a9,.b d10,.i c11,.r a12]))):=by kernel_rfl
theorem qoJ:yD [.b d0,.i c1,.r a2,.b d3,.i c4,.r a5]=(let r0:=qf kX [.i (wd .i64 c1 1),.b d0,.i c1,.r a2,.b d3,.i c4,.r a5,.b false,.i 0,.r (q2P 232 [.i 0]),.b false,.i 0,.r (q2P 232 [.i 0])];qLO r0 (let r1:=qL [.b (gB r0 6),.i (gI r0 7),.r (gR r0 8)];qLO r1 (qLQ [.b (gB r0 0),.i (gI r0 1),.r (gR r0 2),.b (gB r0 3),.i (gI r0 4),.r (gR r0 5),.b (gB r1 0),.i (gI r1 1),.r (gR r1 2),.b (gB r0 9),.i (gI r0 10),.r (gR r0 11)]))):=by kernel_rfl
theorem qqn:q1h [.i c0,.i c1]=(.br (ine c1 0) (qLP (ine c1 0) (qLQ [.i c1,.i (qaf c0 c1)])) (.leaf (1,[.i c0]))):=by kernel_rfl
theorem qsd:q5B [.b d0,.i c1,.r a2,.b d3,.i c4,.r a5]=(let t0:=qf q1h [.i (cI a2 0 0),.i (cI a5 0 0)];let t1:=wt [.i (gI t0 0)];let t2:=yD [.b d0,.i c1,.r a2,.b d3,.i c4,.r a5];let t3:TR:=(qLO t2 (qLQ [.b (gB t2 3),.i (gI t2 4),.r (gR t2 5),.b (gB t2 9),.i (gI t2 10),.r (gR t2 11)]));(.br (ilt 0 c4) (.br (ile c1 1) (.br (ile c4 1) (qLO t0 (qLO t1 (.leaf (2,[.s (gS t1 0),.i 0])))) t3) t3) (.leaf (1,[.b d0,.i c1,.r a2])))):=by kernel_rfl
theorem qwD:q1I [.s e0,.s e1]=(let r0:=w8 [.r [[.s e0],[.s e1]]];qLO r0 (.br (ine (gI r0 0) 0) (qLQ [.s [],.i (gI r0 0)]) (let r1:=wg [.s e0];qLO r1 (let r2:=wg [.s e1];qLO r2 (let r3:=qf q5B [.b (gB r1 0),.i (gI r1 1),.r (gR r1 2),.b (gB r2 0),.i (gI r2 1),.r (gR r2 2)];qLO r3 (.br (jIs r3 0) (let r4:=za [.b false,.i (gI r3 1),.r (gR r3 2)];qLO r4 (qLQ [.s (gS r4 0),.i 0])) (qLQ [.s (gS r3 0),.i (gI r3 1)]))))))):=by kernel_rfl
theorem qsc:zp [.s e0]=(let t0:=qS [.s e0];let t1:=qU [.s (gS t0 0)];let p0:List PV:=[.s (gS t0 1)];let t2:TR:=(qLQ [.i 3]);let i0:Int:=(gI (qU p0) 0);let t3:TR:=(qLQ [.i (qoO (gI t1 0) i0)]);let t4:TR:=(qLQ [.i 0]);let t5:=yq [.s (gS t0 1),.s [49]];let t6:=q1I ((.s (gS t0 0))::p0);(qLO t0 (qLO t1 (qLO (qU p0) (.br (ieq (gI t1 0) 3) t2 (.br (ieq i0 3) t2 (.br (ine (gI t1 0) 0) t3 (.br (ine i0 0) t3 (.br (not (gB t0 2)) t4 (qLO t5 (qLO t6 (.br (ine (gI t5 1) 0) t2 (.br (ine (gI t6 1) 0) t2 (.br (ile (gI t5 0) 0) t2 (.br (not (seq (gS t6 0) [49])) t2 t4))))))))))))))):=by kernel_rfl
theorem qcJ:q0W [.r a0,.i c1,.i c2]=(.br (ilt c2 c1) (qLP (inb c2 (qg a0)) (let r0:=zp [.s (cS a0 c2 0)];qLO r0 (.br (ine (gI r0 0) 0) (.leaf (2,[.i (gI r0 0)])) (qLQ [.r a0,.i c1,.i (qm .i64 c2 1)])))) (.leaf (1,[]))):=by kernel_rfl
theorem qpo:qA [.r a0]=(let r0:=qf q0W [.r a0,.i (qg a0),.i 0];qLO r0 (.br (jIs r0 0) (qLQ [.i 0]) (qLQ [.i (gI r0 0)]))):=by kernel_rfl
theorem qih:yC [.s e0,.s e1]=(let r0:=qC [.s e0,.s e1];qLO r0 (qLQ [.b (gB r0 0)])):=by kernel_rfl
theorem qpE:q1a [.s e0,.s e1]=(.br (seq e1 [49]) (qLQ [.s e0]) (qLP (ile ((qq e0)+(qq [47])) 140737488355328) (qLP (ile ((qq (qdj e0 [47]))+(qq e1)) 140737488355328) (qLQ [.s (qdj (qdj e0 [47]) e1)])))):=by kernel_rfl
theorem qpT:q2X [.s e0,.s e1]=(let t0:=w8 [.r [[.s e0],[.s e1]]];let t1:=jX [.s e0,.s e1];let i0:Int:=(gI t1 1);let i1:Int:=(qaf (gI t1 0) i0);let i2:Int:=(qbe .i64 (gI t1 0) i0);let t2:=wt [.i (wd .i64 i2 1)];let t3:=wt [.i (qm .i64 i1 i0)];let t4:TR:=(qLO (wt [.i i2]) (qLO (wt [.i i1]) (qLQ [.s (gS (wt [.i i2]) 0),.s (gS (wt [.i i1]) 0),.i 0])));let t5:=wg [.s e0];let t6:=wg [.s e1];let t7:=yD [.b (gB t5 0),.i (gI t5 1),.r (gR t5 2),.b (gB t6 0),.i (gI t6 1),.r (gR t6 2)];let b0:Bool:=(not (beq (gB t7 0) (gB t7 3)));let t8:=wP [.b true,.i (gI t7 7),.r (gR t7 8),.b true,.i 1,.r (qaa (q2P 232 [.i 0]) 0 0 [.i 1])];let t9:=wP [.b (gB t7 0),.i (gI t7 10),.r (gR t7 11),.b (gB t7 3),.i (gI t7 4),.r (gR t7 5)];let t10:=za [.b (gB t8 0),.i (gI t8 1),.r (gR t8 2)];let t11:=za [.b (gB t9 0),.i (gI t9 1),.r (gR t9 2)];let t12:=za [.b b0,.i (gI t7 7),.r (gR t7 8)];let t13:=za [.b (gB t7 0),.i (gI t7 10),.r (gR t7 11)];let t14:TR:=(qLO t12 (qLO t13 (qLQ [.s (gS t12 0),.s (gS t13 0),.i 0])));(qLO t0 (.br (ine (gI t0 0) 0) (qLQ [.s [],.s [],.i (gI t0 0)]) (.br (seq e1 [48]) (qLQ [.s [],.s [],.i 10]) (qLO t1 (.br (gB t1 2) (qLP (ine i0 0) (qLP (ine i0 0) (.br (ine i1 0) (.br (not (beq (ilt i1 0) (ilt i0 0))) (qLO t2 (qLO t3 (qLQ [.s (gS t2 0),.s (gS t3 0),.i 0]))) t4) t4))) (qLO t5 (qLO t6 (qLO t7 (.br (ilt 0 (gI t7 10)) (.br b0 (qLO t8 (qLO t9 (qLO t10 (qLO t11 (qLQ [.s (gS t10 0),.s (gS t11 0),.i 0]))))) t14) t14)))))))))):=by kernel_rfl
theorem qwK:q6n [.s e0,.s e1]=(let r0:=q2X [.s e0,.s e1];qLO r0 (.br (ine (gI r0 2) 0) (qLQ [.s [],.i (gI r0 2)]) (let r1:=qU [.s (gS r0 0)];qLO r1 (.br (ine (gI r1 0) 0) (qLQ [.s [],.i (gI r1 0)]) (qLQ [.s (gS r0 0),.i 0]))))):=by kernel_rfl
theorem qag:wB [.s e0,.s e1,.i c2]=(.br (ine c2 0) (qLQ [.s [48],.i c2]) (let r0:=q1I [.s e0,.s e1];qLO r0 (.br (ine (gI r0 1) 0) (qLQ [.s [48],.i (gI r0 1)]) (qLQ [.s (gS r0 0),.i (gI r0 1)])))):=by kernel_rfl
theorem qai:qO [.s e0,.s e1,.i c2]=(.br (ine c2 0) (qLQ [.s [48],.i c2]) (let r0:=q6n [.s e0,.s e1];qLO r0 (.br (ine (gI r0 1) 0) (qLQ [.s [48],.i (gI r0 1)]) (qLQ [.s (gS r0 0),.i (gI r0 1)])))):=by kernel_rfl
theorem qi7:qT [.s e0,.s e1,.i c2]=(let r0:=wB [.s e0,.s e1,.i c2];qLO r0 (let r1:=yC [.s e1,.s [45]];qLO r1 (.br (gB r1 0) (let r2:=vO [.s [48],.s (gS r0 0),.i (gI r0 1)];qLO r2 (.br (ine (gI r2 1) 0) (qLQ [.s [],.i (gI r2 1)]) (let r3:=qO [.s e0,.s (gS r2 0),.i (gI r2 1)];qLO r3 (let r4:=qO [.s e1,.s (gS r2 0),.i (gI r3 1)];qLO r4 (let r5:=q1a [.s (gS r3 0),.s (gS r4 0)];qLO r5 (qLQ [.s (gS r5 0),.i (gI r4 1)])))))) (.br (ine (gI r0 1) 0) (qLQ [.s [],.i (gI r0 1)]) (let r2:=qO [.s e0,.s (gS r0 0),.i (gI r0 1)];qLO r2 (let r3:=qO [.s e1,.s (gS r0 0),.i (gI r2 1)];qLO r3 (let r4:=q1a [.s (gS r2 0),.s (gS r3 0)];qLO r4 (qLQ [.s (gS r4 0),.i (gI r3 1)])))))))):=by kernel_rfl
theorem qbh:wV [.s e0,.s e1]=(let r0:=qA [.r [[.s e0],[.s e1]]];qLO r0 (.br (ine (gI r0 0) 0) (qLQ [.s [],.i (gI r0 0)]) (let r1:=qS [.s e0];qLO r1 (let r2:=qS [.s e1];qLO r2 (let r3:=q2A [.s (gS r1 0),.s (gS r1 1),.s (gS r2 0),.s (gS r2 1),.i 0];qLO r3 (.br (ine (gI r3 2) 0) (qLQ [.s [],.i (gI r3 2)]) (.br (seq (gS r3 1) [48]) (qLQ [.s [],.i 10]) (let r4:=qT [.s (gS r3 0),.s (gS r3 1),.i (gI r3 2)];qLO r4 (qLQ [.s (gS r4 0),.i (gI r4 1)]))))))))):=by kernel_rfl
theorem qxC:we [.s e0,.s e1]=(let r0:=wV [.s e0,.s e1];qLO r0 (qLQ [.s (gS r0 0),.i (gI r0 1)])):=by kernel_rfl
theorem qfE:qB [.i c0,.i c1,.i c2]=(qLQ [.i c0,.i c1,.i c2]):=by kernel_rfl
theorem qeY:kL [.i c0,.i c1,.i c2,.i c3,.i c4,.i c5,.i c6,.i c7,.i c8,.i c9,.i c10]=(let b0:Bool:=(ieq c1 2);let p0:List PV:=[.i (qm .i64 c1 1),.i c2,.i c3,.i c4,.i c5,.i c6,.i c7,.i c8,.i c9,.i c10];let i0:Int:=(wd .i64 c7 c4);let i1:Int:=(wd .i64 c10 c4);let b1:Bool:=(ieq c1 1);let i2:Int:=(wd .i64 c10 c3);let b2:Bool:=(ieq c1 0);let i3:Int:=(wd .i64 c10 c2);let i4:Int:=(wd .i64 c9 c4);let i5:Int:=(wd .i64 c9 c3);let i6:Int:=(wd .i64 c9 c2);let i7:Int:=(wd .i64 c8 c4);let i8:Int:=(wd .i64 c8 c3);let i9:Int:=(wd .i64 c8 c2);let i10:Int:=(wd .i64 c7 c3);let i11:Int:=(wd .i64 c7 c2);let i12:Int:=(wd .i64 c6 c4);let i13:Int:=(wd .i64 c6 c3);let i14:Int:=(wd .i64 c6 c2);let i15:Int:=(wd .i64 c5 c4);let i16:Int:=(wd .i64 c5 c3);let i17:Int:=(wd .i64 c5 c2);(.br (ilt c1 3) (.br b0 (.br b0 (.br b0 (.br b0 (qLQ ((.i (qm .i64 c0 (zV .i64 i0 i1)))::p0)) (.br b1 (qLQ ((.i (qm .i64 c0 (zV .i64 i0 i2)))::p0)) (qLP b2 (qLQ ((.i (qm .i64 c0 (zV .i64 i0 i3)))::p0))))) (.br b1 (.br b0 (qLQ ((.i (qm .i64 c0 (zV .i64 i0 i4)))::p0)) (.br b1 (qLQ ((.i (qm .i64 c0 (zV .i64 i0 i5)))::p0)) (qLP b2 (qLQ ((.i (qm .i64 c0 (zV .i64 i0 i6)))::p0))))) (qLP b2 (.br b0 (qLQ ((.i (qm .i64 c0 (zV .i64 i0 i7)))::p0)) (.br b1 (qLQ ((.i (qm .i64 c0 (zV .i64 i0 i8)))::p0)) (qLP b2 (qLQ ((.i (qm .i64 c0 (zV .i64 i0 i9)))::p0)))))))) (.br b1 (.br b0 (.br b0 (qLQ ((.i (qm .i64 c0 (zV .i64 i10 i1)))::p0)) (.br b1 (qLQ ((.i (qm .i64 c0 (zV .i64 i10 i2)))::p0)) (qLP b2 (qLQ ((.i (qm .i64 c0 (zV .i64 i10 i3)))::p0))))) (.br b1 (.br b0 (qLQ ((.i (qm .i64 c0 (zV .i64 i10 i4)))::p0)) (.br b1 (qLQ ((.i (qm .i64 c0 (zV .i64 i10 i5)))::p0)) (qLP b2 (qLQ ((.i (qm .i64 c0 (zV .i64 i10 i6)))::p0))))) (qLP b2 (.br b0 (qLQ ((.i (qm .i64 c0 (zV .i64 i10 i7)))::p0)) (.br b1 (qLQ ((.i (qm .i64 c0 (zV .i64 i10 i8)))::p0)) (qLP b2 (qLQ ((.i (qm .i64 c0 (zV .i64 i10 i9)))::p0)))))))) (qLP b2 (.br b0 (.br b0 (qLQ ((.i (qm .i64 c0 (zV .i64 i11 i1)))::p0)) (.br b1 (qLQ ((.i (qm .i64 c0 (zV .i64 i11 i2)))::p0)) (qLP b2 (qLQ ((.i (qm .i64 c0 (zV .i64 i11 i3)))::p0))))) (.br b1 (.br b0 (qLQ ((.i (qm .i64 c0 (zV .i64 i11 i4)))::p0)) (.br b1 (qLQ ((.i (qm .i64 c0 (zV .i64 i11 i5)))::p0)) (qLP b2 (qLQ ((.i (qm .i64 c0 (zV .i64 i11 i6)))::p0))))) (qLP b2 (.br b0 (qLQ ((.i (qm .i64 c0 (zV .i64 i11 i7)))::p0)) (.br b1 (qLQ ((.i (qm .i64 c0 (zV .i64 i11 i8)))::p0)) (qLP b2 (qLQ ((.i (qm .i64 c0 (zV .i64 i11 i9)))::p0))))))))))) (.br b1 (.br b0 (.br b0 (.br b0 (qLQ ((.i (qm .i64 c0 (zV .i64 i12 i1)))::p0)) (.br b1 (qLQ ((.i (qm .i64 c0 (zV .i64 i12 i2)))::p0)) (qLP b2 (qLQ ((.i (qm .i64 c0 (zV .i64 i12 i3)))::p0))))) (.br b1 (.br b0 (qLQ ((.i (qm .i64 c0 (zV .i64 i12 i4)))::p0)) (.br b1 (qLQ ((.i (qm .i64 c0 (zV .i64 i12 i5)))::p0)) (qLP b2 (qLQ ((.i (qm .i64 c0 (zV .i64 i12 i6)))::p0))))) (qLP b2 (.br b0 (qLQ ((.i (qm .i64 c0 (zV .i64 i12 i7)))::p0)) (.br b1 (qLQ ((.i (qm .i64 c0 (zV .i64 i12 i8)))::p0)) (qLP b2 (qLQ ((.i (qm .i64 c0 (zV .i64 i12 i9)))::p0)))))))) (.br b1 (.br b0 (.br b0 (qLQ ((.i (qm .i64 c0 (zV .i64 i13 i1)))::p0)) (.br b1 (qLQ ((.i (qm .i64 c0 (zV .i64 i13 i2)))::p0)) (qLP b2 (qLQ ((.i (qm .i64 c0 (zV .i64 i13 i3)))::p0))))) (.br b1 (.br b0 (qLQ ((.i (qm .i64 c0 (zV .i64 i13 i4)))::p0)) (.br b1 (qLQ ((.i (qm .i64 c0 (zV .i64 i13 i5)))::p0)) (qLP b2 (qLQ ((.i (qm .i64 c0 (zV .i64 i13 i6)))::p0))))) (qLP b2 (.br b0 (qLQ ((.i (qm .i64 c0 (zV .i64 i13 i7)))::p0)) (.br b1 (qLQ ((.i (qm .i64 c0 (zV .i64 i13 i8)))::p0)) (qLP b2 (qLQ ((.i (qm .i64 c0 (zV .i64 i13 i9)))::p0)))))))) (qLP b2 (.br b0 (.br b0 (qLQ ((.i (qm .i64 c0 (zV .i64 i14 i1)))::p0)) (.br b1 (qLQ ((.i (qm .i64 c0 (zV .i64 i14 i2)))::p0)) (qLP b2 (qLQ ((.i (qm .i64 c0 (zV .i64 i14 i3)))::p0))))) (.br b1 (.br b0 (qLQ ((.i (qm .i64 c0 (zV .i64 i14 i4)))::p0)) (.br b1 (qLQ ((.i (qm .i64 c0 (zV .i64 i14 i5)))::p0)) (qLP b2 (qLQ ((.i (qm .i64 c0 (zV .i64 i14 i6)))::p0))))) (qLP b2 (.br b0 (qLQ ((.i (qm .i64 c0 (zV .i64 i14 i7)))::p0)) (.br b1 (qLQ ((.i (qm .i64 c0 (zV .i64 i14 i8)))::p0)) (qLP b2 (qLQ ((.i (qm .i64 c0 (zV .i64 i14 i9)))::p0))))))))))) (qLP b2 (.br b0 (.br b0 (.br b0 (qLQ ((.i (qm .i64 c0 (zV .i64 i15 i1)))::p0)) (.br b1 (qLQ ((.i (qm .i64 c0 (zV .i64 i15 i2)))::p0)) (qLP b2 (qLQ ((.i (qm .i64 c0 (zV .i64 i15 i3)))::p0))))) (.br b1 (.br b0 (qLQ ((.i (qm .i64 c0 (zV .i64 i15 i4)))::p0)) (.br b1 (qLQ ((.i (qm .i64 c0 (zV .i64 i15 i5)))::p0)) (qLP b2 (qLQ ((.i (qm .i64 c0 (zV .i64 i15 i6)))::p0))))) (qLP b2 (.br b0 (qLQ ((.i (qm .i64 c0 (zV .i64 i15 i7)))::p0)) (.br b1 (qLQ ((.i (qm .i64 c0 (zV .i64 i15 i8)))::p0)) (qLP b2 (qLQ ((.i (qm .i64 c0 (zV .i64 i15 i9)))::p0)))))))) (.br b1 (.br b0 (.br b0 (qLQ ((.i (qm .i64 c0 (zV .i64 i16 i1)))::p0)) (.br b1 (qLQ ((.i (qm .i64 c0 (zV .i64 i16 i2)))::p0)) (qLP b2 (qLQ ((.i (qm .i64 c0 (zV .i64 i16 i3)))::p0))))) (.br b1 (.br b0 (qLQ ((.i (qm .i64 c0 (zV .i64 i16 i4)))::p0)) (.br b1 (qLQ ((.i (qm .i64 c0 (zV .i64 i16 i5)))::p0)) (qLP b2 (qLQ ((.i (qm .i64 c0 (zV .i64 i16 i6)))::p0))))) (qLP b2 (.br b0 (qLQ ((.i (qm .i64 c0 (zV .i64 i16 i7)))::p0)) (.br b1 (qLQ ((.i (qm .i64 c0 (zV .i64 i16 i8)))::p0)) (qLP b2 (qLQ ((.i (qm .i64 c0 (zV .i64 i16 i9)))::p0)))))))) (qLP b2 (.br b0 (.br b0 (qLQ ((.i (qm .i64 c0 (zV .i64 i17 i1)))::p0)) (.br b1 (qLQ ((.i (qm .i64 c0 (zV .i64 i17 i2)))::p0)) (qLP b2 (qLQ ((.i (qm .i64 c0 (zV .i64 i17 i3)))::p0))))) (.br b1 (.br b0 (qLQ ((.i (qm .i64 c0 (zV .i64 i17 i4)))::p0)) (.br b1 (qLQ ((.i (qm .i64 c0 (zV .i64 i17 i5)))::p0)) (qLP b2 (qLQ ((.i (qm .i64 c0 (zV .i64 i17 i6)))::p0))))) (qLP b2 (.br b0 (qLQ ((.i (qm .i64 c0 (zV .i64 i17 i7)))::p0)) (.br b1 (qLQ ((.i (qm .i64 c0 (zV .i64 i17 i8)))::p0)) (qLP b2 (qLQ ((.i (qm .i64 c0 (zV .i64 i17 i9)))::p0)))))))))))))) (.leaf (1,[.i c0])))):=by kernel_rfl
theorem qsp:q0c [.i c0,.i c1,.i c2,.i c3,.i c4,.i c5,.i c6,.i c7,.i c8]=(let r0:=qB [.i c0,.i c1,.i c2];qLO r0 (let r1:=qB [.i c3,.i c4,.i c5];qLO r1 (let r2:=qB [.i c6,.i c7,.i c8];qLO r2 (let r3:=qf kL [.i 0,.i 0,.i (gI r0 0),.i (gI r0 1),.i (gI r0 2),.i (gI r1 0),.i (gI r1 1),.i (gI r1 2),.i (gI r2 0),.i (gI r2 1),.i (gI r2 2)];qLO r3 (qLQ [.i (gI r3 0)]))))):=by kernel_rfl
theorem qt1:vw [.i c0]=(.br (ile 0 c0) (qLQ [.b (ile c0 16)]) (qLQ [.b false])):=by kernel_rfl
theorem qsz:uF [.i c0,.i c1,.r a2,.i c3]=(qLP (inb (qm .i64 (zV .i64 c0 c3) c1) (qg a2)) (let r0:=wH [.i (cI a2 (qm .i64 (zV .i64 c0 c3) c1) 0)];qLO r0 (qLQ [.s (gS r0 0),.r a2,.i c3]))):=by kernel_rfl
theorem qcm:u9 [.i c0,.i c1,.i c2,.i c3,.i c4,.i c5,.r a6,.i c7,.i c8,.i c9,.i c10,.i c11,.r a12]=(.br (ilt c5 c4) (let r0:=uF [.i c1,.i c5,.r a6,.i c7];qLO r0 (qLP (ile ((qg a12)+(qg [[.s (gS r0 0)]])) 8796093022208) (qLQ [.i c0,.i c1,.i c2,.i c3,.i c4,.i (qm .i64 c5 1),.r (gR r0 1),.i (gI r0 2),.i c8,.i c9,.i c10,.i c11,.r (zE a12 [[.s (gS r0 0)]])]))) (.leaf (1,[.i c0,.i c2,.i c3,.r a6,.i c7,.i c8,.i c9,.i c10,.i c11,.r a12]))):=by kernel_rfl
theorem qf0:kM [.i c0,.i c1,.i c2,.r a3,.i c4,.i c5,.i c6,.i c7,.i c8,.r a9]=(.br (ilt c2 c1) (let r0:=qf u9 [.i c0,.i c2,.i c1,.i c2,.i c0,.i 0,.r a3,.i c4,.i c5,.i c6,.i c7,.i c8,.r a9];qLO r0 (qLQ [.i (gI r0 0),.i (gI r0 1),.i (qm .i64 (gI r0 2) 1),.r (gR r0 3),.i (gI r0 4),.i (gI r0 5),.i (gI r0 6),.i (gI r0 7),.i (gI r0 8),.r (gR r0 9)])) (.leaf (1,[.r a3,.i c4,.i c5,.i c6,.i c7,.i c8,.r a9]))):=by kernel_rfl
theorem qs5:q4O [.i c0,.i c1,.r a2,.i c3]=(let r0:=qf kM [.i c1,.i c0,.i 0,.r a2,.i c3,.i 0,.i 0,.i c0,.i c1,.r []];qLO r0 (qLQ [.i (gI r0 4),.i (gI r0 5),.r (gR r0 6),.r (gR r0 0),.i (gI r0 1)])):=by kernel_rfl
theorem qwF:q9q [.i c0,.i c1,.r a2]=(let r0:=vw [.i c0];qLO r0 (.br (not (gB r0 0)) (qLQ [.i 0,.i 0,.r [],.i 2]) (let r1:=vw [.i c1];qLO r1 (.br (not (gB r1 0)) (qLQ [.i 0,.i 0,.r [],.i 2]) (.br (ine (qg a2) (zV .i64 c0 c1)) (qLQ [.i 0,.i 0,.r [],.i 8]) (let r2:=q4O [.i c0,.i c1,.r a2,.i c1];qLO r2 (qLQ [.i (gI r2 0),.i (gI r2 1),.r (gR r2 2),.i 0]))))))):=by kernel_rfl
theorem qa7:jy [.r a0,.i c1,.i c2]=(.br (ilt c2 c1) (qLP (inb c2 (qg a0)) (let r0:=zp [.s (cS a0 c2 0)];qLO r0 (.br (ine (gI r0 0) 0) (.leaf (2,[.i (gI r0 0)])) (qLQ [.r a0,.i c1,.i (qm .i64 c2 1)])))) (.leaf (1,[]))):=by kernel_rfl
theorem qmC:vN [.r a0]=(let r0:=qf jy [.r a0,.i (qg a0),.i 0];qLO r0 (.br (jIs r0 0) (qLQ [.i 0]) (qLQ [.i (gI r0 0)]))):=by kernel_rfl
theorem qqx:jh [.i c0,.i c1,.r a2]=(qLO (vw [.i c0]) (.br (not (gB (vw [.i c0]) 0)) (qLQ [.i 2]) (qLO (vw [.i c1]) (.br (not (gB (vw [.i c1]) 0)) (qLQ [.i 2]) (.br (ine (qg a2) (zV .i64 c0 c1)) (qLQ [.i 8]) (qLO (vN [.r a2]) (qLQ [.i (gI (vN [.r a2]) 0)]))))))):=by kernel_rfl
theorem qth:q2B [.s e0,.s e1,.s e2,.s e3,.i c4]=(let r0:=qp [.r [[.s e0],[.s e2]],.i c4];qLO r0 (let r1:=qp [.r [[.s e1],[.s e3]],.i (gI r0 1)];qLO r1 (qLQ [.s (gS r0 0),.s (gS r1 0),.i (gI r1 1)]))):=by kernel_rfl
theorem qbF:wU [.s e0,.s e1]=(let r0:=qA [.r [[.s e0],[.s e1]]];qLO r0 (.br (ine (gI r0 0) 0) (qLQ [.s [],.i (gI r0 0)]) (let r1:=qS [.s e0];qLO r1 (let r2:=qS [.s e1];qLO r2 (let r3:=q2B [.s (gS r1 0),.s (gS r1 1),.s (gS r2 0),.s (gS r2 1),.i 0];qLO r3 (.br (ine (gI r3 2) 0) (qLQ [.s [],.i (gI r3 2)]) (.br (seq (gS r3 1) [48]) (qLQ [.s [],.i 10]) (let r4:=qT [.s (gS r3 0),.s (gS r3 1),.i (gI r3 2)];qLO r4 (qLQ [.s (gS r4 0),.i (gI r4 1)]))))))))):=by kernel_rfl
theorem qy2:vq [.s e0,.s e1]=(let r0:=wU [.s e0,.s e1];qLO r0 (qLQ [.s (gS r0 0),.i (gI r0 1)])):=by kernel_rfl
theorem qsa:q2j [.s e0,.s e1,.s e2,.s e3,.i c4]=(let r0:=qp [.r [[.s e0],[.s e3]],.i c4];qLO r0 (let r1:=qp [.r [[.s e1],[.s e2]],.i (gI r0 1)];qLO r1 (qLQ [.s (gS r0 0),.s (gS r1 0),.i (gI r1 1)]))):=by kernel_rfl
theorem qcd:wM [.s e0,.s e1]=(let r0:=qA [.r [[.s e0],[.s e1]]];qLO r0 (.br (ine (gI r0 0) 0) (qLQ [.s [],.i (gI r0 0)]) (let r1:=qS [.s e0];qLO r1 (let r2:=qS [.s e1];qLO r2 (let r3:=q2j [.s (gS r1 0),.s (gS r1 1),.s (gS r2 0),.s (gS r2 1),.i 0];qLO r3 (.br (ine (gI r3 2) 0) (qLQ [.s [],.i (gI r3 2)]) (.br (seq (gS r3 1) [48]) (qLQ [.s [],.i 10]) (let r4:=qT [.s (gS r3 0),.s (gS r3 1),.i (gI r3 2)];qLO r4 (qLQ [.s (gS r4 0),.i (gI r4 1)]))))))))):=by kernel_rfl
theorem qxK:q3X [.s e0,.s e1]=(let r0:=qA [.r [[.s e0],[.s e1]]];qLO r0 (.br (ine (gI r0 0) 0) (qLQ [.s [],.i (gI r0 0)]) (.br (seq e1 [48]) (qLQ [.s [],.i 10]) (let r1:=wM [.s e0,.s e1];qLO r1 (qLQ [.s (gS r1 0),.i (gI r1 1)]))))):=by kernel_rfl
theorem qac:wF [.s e0,.s e1,.i c2]=(.br (ine c2 0) (qLQ [.s [48],.i c2]) (let r0:=q1O [.s e0,.s e1];qLO r0 (.br (ine (gI r0 1) 0) (qLQ [.s [48],.i (gI r0 1)]) (qLQ [.s (gS r0 0),.i (gI r0 1)])))):=by kernel_rfl
theorem qn3:q13 [.s e0,.s e1,.i c2]=(let r0:=wF [.s e0,.s e1,.i c2];qLO r0 (qLQ [.s (gS r0 0),.i (gI r0 1)])):=by kernel_rfl
theorem qtd:q2b [.s e0,.s e1,.s e2,.s e3,.i c4]=(let r0:=qp [.r [[.s e0],[.s e3]],.i c4];qLO r0 (let r1:=qp [.r [[.s e2],[.s e1]],.i (gI r0 1)];qLO r1 (let r2:=q13 [.s (gS r0 0),.s (gS r1 0),.i (gI r1 1)];qLO r2 (let r3:=qp [.r [[.s e1],[.s e3]],.i (gI r2 1)];qLO r3 (qLQ [.s (gS r2 0),.s (gS r3 0),.i (gI r3 1)]))))):=by kernel_rfl
theorem qbI:wY [.s e0,.s e1]=(let r0:=qA [.r [[.s e0],[.s e1]]];qLO r0 (.br (ine (gI r0 0) 0) (qLQ [.s [],.i (gI r0 0)]) (let r1:=qS [.s e0];qLO r1 (let r2:=qS [.s e1];qLO r2 (let r3:=q2b [.s (gS r1 0),.s (gS r1 1),.s (gS r2 0),.s (gS r2 1),.i 0];qLO r3 (.br (ine (gI r3 2) 0) (qLQ [.s [],.i (gI r3 2)]) (.br (seq (gS r3 1) [48]) (qLQ [.s [],.i 10]) (let r4:=qT [.s (gS r3 0),.s (gS r3 1),.i (gI r3 2)];qLO r4 (qLQ [.s (gS r4 0),.i (gI r4 1)]))))))))):=by kernel_rfl
theorem qx6:yB [.s e0,.s e1]=(let r0:=wY [.s e0,.s e1];qLO r0 (qLQ [.s (gS r0 0),.i (gI r0 1)])):=by kernel_rfl
theorem qia:wJ [.s e0,.i c1,.i c2]=(let t0:TR:=(.br (ine c2 0) (qLQ [.s [48],.i c2]) (qLQ [.s e0,.i c2]));(.br (ine c1 0) (.br (ieq c2 0) (.br (ine c1 0) (qLQ [.s [48],.i c1]) (qLQ [.s e0,.i c1])) t0) t0)):=by kernel_rfl
theorem qjZ:uk [.s e0,.s e1,.i c2]=(let r0:=yB [.s e0,.s e1];qLO r0 (let r1:=wJ [.s (gS r0 0),.i (gI r0 1),.i c2];qLO r1 (qLQ [.s (gS r1 0),.i (gI r1 1)]))):=by kernel_rfl
theorem qjE:ul [.s e0,.s e1,.i c2]=(let r0:=vq [.s e0,.s e1];qLO r0 (let r1:=wJ [.s (gS r0 0),.i (gI r0 1),.i c2];qLO r1 (qLQ [.s (gS r1 0),.i (gI r1 1)]))):=by kernel_rfl
theorem qqR:q3o [.i c0,.i c1,.r a2,.i c3,.i c4]=(qLP (inb (qm .i64 (zV .i64 c3 c1) c4) (qg a2)) (qLQ [.s (cS a2 (qm .i64 (zV .i64 c3 c1) c4) 0)])):=by kernel_rfl
theorem qar:yj [.r a0,.i c1,.s e2,.i c3,.i c4,.r a5,.i c6,.i c7,.i c8,.i c9,.r a10,.i c11,.r a12]=(.br (ilt c7 c6) (qLP (inb c7 (qg a5)) (let r0:=q3o [.i c8,.i c9,.r a10,.i c1,.i c7];qLO r0 (let r1:=ul [.s (gS r0 0),.s (cS a5 c7 0),.i c11];qLO r1 (let r2:=uk [.s e2,.s (gS r1 0),.i (gI r1 1)];qLO r2 (qLQ [.r a0,.i c1,.s (gS r2 0),.i c3,.i c4,.r a5,.i c6,.i (qm .i64 c7 1),.i c8,.i c9,.r a10,.i (gI r2 1),.r a12]))))) (.leaf (1,[.r a0,.s e2,.i c3,.i c4,.i c8,.i c9,.r a10,.i c11,.r a12]))):=by kernel_rfl
theorem qax:yi [.r a0,.i c1,.i c2,.i c3,.i c4,.r a5,.i c6,.r a7]=(.br (ilt c2 c1) (let r0:=qf yj [.r a0,.i c2,.s [48],.i c1,.i c2,.r a0,.i (qg a0),.i 0,.i c3,.i c4,.r a5,.i c6,.r a7];qLO r0 (qLP (ile ((qg (gR r0 8))+(qg [[.s (gS r0 1)]])) 8796093022208) (qLQ [.r (gR r0 0),.i (gI r0 2),.i (qm .i64 (gI r0 3) 1),.i (gI r0 4),.i (gI r0 5),.r (gR r0 6),.i (gI r0 7),.r (zE (gR r0 8) [[.s (gS r0 1)]])]))) (.leaf (1,[.i c6,.r a7]))):=by kernel_rfl
theorem qpy:q2Z [.i c0,.i c1,.r a2,.r a3]=(let r0:=jh [.i c0,.i c1,.r a2];qLO r0 (.br (ine (gI r0 0) 0) (qLQ [.r [],.i (gI r0 0)]) (.br (ine (qg a3) c1) (qLQ [.r [],.i 8]) (let r1:=vN [.r a3];qLO r1 (.br (ine (gI r1 0) 0) (qLQ [.r [],.i (gI r1 0)]) (let r2:=qf yi [.r a3,.i c0,.i 0,.i c0,.i c1,.r a2,.i 0,.r []];qLO r2 (.br (ine (gI r2 0) 0) (qLQ [.r [],.i (gI r2 0)]) (qLQ [.r (gR r2 1),.i 0])))))))):=by kernel_rfl
theorem qfZ:q19 [.s e0,.r a1,.i c2,.i c3]=(.br (ilt c3 c2) (qLP (inb c3 (qg a1)) (let r0:=yB [.s e0,.s (cS a1 c3 0)];qLO r0 (.br (ine (gI r0 1) 0) (.leaf (2,[.s [],.i (gI r0 1)])) (qLQ [.s (gS r0 0),.r a1,.i c2,.i (qm .i64 c3 1)])))) (.leaf (1,[.s e0]))):=by kernel_rfl
theorem qwI:q9o [.r a0]=(.br (ilt 4096 (qg a0)) (qLQ [.s [],.i 5]) (let r0:=qA [.r a0];qLO r0 (.br (ine (gI r0 0) 0) (qLQ [.s [],.i (gI r0 0)]) (let r1:=qf q19 [.s [48],.r a0,.i (qg a0),.i 0];qLO r1 (.br (jIs r1 0) (qLQ [.s (gS r1 0),.i 0]) (qLQ [.s (gS r1 0),.i (gI r1 1)])))))):=by kernel_rfl
theorem yN:qI [.r a0,.s e1,.r a2,.i c3,.i c4]=(.br (ilt c4 c3) (qLP (inb c4 (qg a2)) (qLP (inb c4 (qg a0)) (let r0:=vq [.s (cS a2 c4 0),.s (cS a0 c4 0)];qLO r0 (.br (ine (gI r0 1) 0) (.leaf (2,[.s [],.i (gI r0 1)])) (let r1:=yB [.s e1,.s (gS r0 0)];qLO r1 (.br (ine (gI r1 1) 0) (.leaf (2,[.s [],.i (gI r1 1)])) (qLQ [.r a0,.s (gS r1 0),.r a2,.i c3,.i (qm .i64 c4 1)]))))))) (.leaf (1,[.s e1]))):=by kernel_rfl
theorem q5O:qx [.r a0,.r a1]=(let r0:=qf qI [.r a1,.s [48],.r a0,.i (qg a0),.i 0];qLO r0 (.br (jIs r0 0) (qLQ [.s (gS r0 0),.i 0]) (qLQ [.s (gS r0 0),.i (gI r0 1)]))):=by kernel_rfl
theorem qd9:ua [.i c0,.i c1,.i c2,.i c3,.s e4,.s e5,.s e6,.r a7]=(let t0:=wH [.i (qma [c0,c1,c2] c3)];let p0:List PV:=[.s (gS t0 0)];let t1:=we ((.s e6)::p0);let i0:Int:=(qm .i64 c3 1);let t2:=we ((.s e5)::p0);let t3:=we ((.s e4)::p0);(.br (ilt c3 3) (qLP (inb c3 3) (.br (ieq c3 2) (qLO t0 (qLO t1 (.br (ine (gI t1 1) 0) (.leaf (2,[.s [],.i (gI t1 1)])) (qLP (ile ((qg a7)+(qg [[.s (gS t1 0)]])) 8796093022208) (qLQ [.i c0,.i c1,.i c2,.i i0,.s e4,.s e5,.s e6,.r (zE a7 [[.s (gS t1 0)]])]))))) (.br (ieq c3 1) (qLO t0 (qLO t2 (.br (ine (gI t2 1) 0) (.leaf (2,[.s [],.i (gI t2 1)])) (qLP (ile ((qg a7)+(qg [[.s (gS t2 0)]])) 8796093022208) (qLQ [.i c0,.i c1,.i c2,.i i0,.s e4,.s e5,.s e6,.r (zE a7 [[.s (gS t2 0)]])]))))) (qLP (ieq c3 0) (qLO t0 (qLO t3 (.br (ine (gI t3 1) 0) (.leaf (2,[.s [],.i (gI t3 1)])) (qLP (ile ((qg a7)+(qg [[.s (gS t3 0)]])) 8796093022208) (qLQ [.i c0,.i c1,.i c2,.i i0,.s e4,.s e5,.s e6,.r (zE a7 [[.s (gS t3 0)]])]))))))))) (.leaf (1,[.r a7])))):=by kernel_rfl
theorem qpq:vg [.s e0,.s e1,.s e2,.i c3,.i c4,.i c5]=(let r0:=qB [.i c3,.i c4,.i c5];qLO r0 (let r1:=qf ua [.i (gI r0 0),.i (gI r0 1),.i (gI r0 2),.i 0,.s e0,.s e1,.s e2,.r []];qLO r1 (.br (jIs r1 0) (let r2:=qx [.r (gR r1 0),.r (gR r1 0)];qLO r2 (qLQ [.s (gS r2 0),.i (gI r2 1)])) (qLQ [.s (gS r1 0),.i (gI r1 1)])))):=by kernel_rfl
theorem q84:vY [.r a0,.i c1,.i c2,.i c3,.i c4,.i c5,.i c6,.s e7,.s e8,.s e9,.s e10,.r a11,.r a12]=(.br (ilt c6 c5) (qLP (inb 0 (qg a0)) (qLP (inb (qm .i64 c2 1) (qg a0)) (qLP (inb (qm .i64 c6 1) (qg a0)) (let r0:=q0c [.i (cI a0 0 0),.i (cI a0 0 1),.i (cI a0 0 2),.i (cI a0 (qm .i64 c2 1) 0),.i (cI a0 (qm .i64 c2 1) 1),.i (cI a0 (qm .i64 c2 1) 2),.i (cI a0 (qm .i64 c6 1) 0),.i (cI a0 (qm .i64 c6 1) 1),.i (cI a0 (qm .i64 c6 1) 2)];qLO r0 (qLP (ile ((qg a11)+(qg [[.i (zV .i64 2 (gI r0 0))]])) 17592186044416) (qLQ [.r a0,.i c1,.i c2,.i c3,.i c4,.i c5,.i (qm .i64 c6 1),.s e7,.s e8,.s e9,.s e10,.r (zE a11 [[.i (zV .i64 2 (gI r0 0))]]),.r a12])))))) (.leaf (1,[.r a0,.i c1,.i c2,.i c3,.i c4,.s e7,.s e8,.s e9,.s e10,.r a11,.r a12]))):=by kernel_rfl
theorem q9X:jx [.r a0,.i c1,.i c2,.i c3,.s e4,.s e5,.s e6,.s e7,.r a8,.r a9]=(let p0:List PV:=[.s e4,.s e5,.s e6,.s e7,.r a8,.r a9];let t0:=qf vY ((.r a0)::(.i c1)::(.i c3)::(.i c2)::(.i c3)::(.i c1)::(.i 0)::p0);let l0:R:=(gR t0 0);let i0:Int:=(qm .i64 (gI t0 2) 1);let t1:=q0c [.i (cI l0 0 0),.i (cI l0 0 1),.i (cI l0 0 2),.i (cI l0 i0 0),.i (cI l0 i0 1),.i (cI l0 i0 2),.i (cI l0 i0 0),.i (cI l0 i0 1),.i (cI l0 i0 2)];let t2:=wH [.i (gI t1 0)];(.br (ilt c3 c2) (qLO t0 (qLP (inb 0 (qg l0)) (qLP (inb i0 (qg l0)) (qLP (inb i0 (qg l0)) (qLO t1 (qLO t2 (qLP (ile ((qg (gR t0 10))+(qg [[.s (gS t2 0)]])) 8796093022208) (qLQ [.r l0,.i (gI t0 1),.i (gI t0 3),.i (qm .i64 (gI t0 4) 1),.s (gS t0 5),.s (gS t0 6),.s (gS t0 7),.s (gS t0 8),.r (gR t0 9),.r (zE (gR t0 10) [[.s (gS t2 0)]])])))))))) (.leaf (1,((.r a0)::(.i c1)::p0))))):=by kernel_rfl
theorem q8a:vZ [.r a0,.i c1,.i c2,.r a3,.i c4,.i c5,.s e6,.s e7,.s e8,.s e9,.r a10,.s e11,.s e12,.s e13,.s e14,.r a15]=(.br (ilt c5 c4) (qLP (inb c5 (qg a3)) (let r0:=qB [.i (cI a3 c5 0),.i (cI a3 c5 1),.i (cI a3 c5 2)];qLO r0 (qLP (inb c1 3) (let r1:=wH [.i (qma [(gI r0 0),(gI r0 1),(gI r0 2)] c1)];qLO r1 (qLP (ile ((qg a15)+(qg [[.s (gS r1 0)]])) 8796093022208) (qLQ [.r a0,.i c1,.i c2,.r a3,.i c4,.i (qm .i64 c5 1),.s e6,.s e7,.s e8,.s e9,.r a10,.s e11,.s e12,.s e13,.s e14,.r (zE a15 [[.s (gS r1 0)]])])))))) (.leaf (1,[.r a0,.i c1,.i c2,.s e6,.s e7,.s e8,.s e9,.r a10,.s e11,.s e12,.s e13,.s e14,.r a15]))):=by kernel_rfl
theorem q81:j4 [.r a0,.i c1,.s e2,.s e3,.s e4,.s e5,.r a6,.s e7,.s e8,.s e9,.s e10]=(let t0:=qf vZ [.r a0,.i c1,.i c1,.r a0,.i (qg a0),.i 0,.s e2,.s e3,.s e4,.s e5,.r a6,.s e7,.s e8,.s e9,.s e10,.r []];let l0:R:=(gR t0 7);let t1:=qx [.r l0,.r (gR t0 12)];let b0:Bool:=(ine (gI t1 1) 0);let t2:TR:=(.leaf (2,[.b false,.i (gI t1 1),.s [],.s [],.s [],.s []]));let i0:Int:=(qm .i64 (gI t0 2) 1);let p0:List PV:=[.s (gS t0 10),.s (gS t0 11)];(.br (ilt c1 3) (qLO t0 (qLO t1 (.br (ieq (gI t0 1) 2) (.br b0 t2 (qLQ [.r (gR t0 0),.i i0,.s (gS t0 3),.s (gS t0 4),.s (gS t0 5),.s (gS t0 6),.r l0,.s (gS t0 8),.s (gS t0 9),.s (gS t1 0),.s (gS t0 11)])) (.br (ieq (gI t0 1) 1) (.br b0 t2 (qLQ ((.r (gR t0 0))::(.i i0)::(.s (gS t0 3))::(.s (gS t0 4))::(.s (gS t0 5))::(.s (gS t0 6))::(.r l0)::(.s (gS t0 8))::(.s (gS t1 0))::p0))) (qLP (ieq (gI t0 1) 0) (.br b0 t2 (qLQ ((.r (gR t0 0))::(.i i0)::(.s (gS t0 3))::(.s (gS t0 4))::(.s (gS t0 5))::(.s (gS t0 6))::(.r l0)::(.s (gS t1 0))::(.s (gS t0 9))::p0)))))))) (.leaf (1,[.r a0,.s e2,.s e3,.s e4,.s e5,.r a6,.s e7,.s e8,.s e9,.s e10])))):=by kernel_rfl
theorem qd1:u6 [.r a0]=(let r0:=qf jx [.r a0,.i (wd .i64 (qg a0) 1),.i (wd .i64 (qg a0) 1),.i 0,.s [],.s [],.s [],.s [],.r [],.r []];qLO r0 (let r1:=q9q [.i (gI r0 1),.i (gI r0 1),.r (gR r0 6)];qLO r1 (.br (ine (gI r1 3) 0) (qLQ [.s [],.s [],.s [],.s [],.r [],.b false,.i (gI r1 3)]) (let r2:=jG [.i (gI r1 0),.i (gI r1 1),.r (gR r1 2)];qLO r2 (.br (ieq (gI r2 3) 14) (qLQ [.s [],.s [],.s [],.s [],.r [],.b false,.i 0]) (.br (ine (gI r2 3) 0) (qLQ [.s [],.s [],.s [],.s [],.r [],.b false,.i (gI r2 3)]) (let r3:=q2Z [.i (gI r2 0),.i (gI r2 1),.r (gR r2 2),.r (gR r0 7)];qLO r3 (.br (ine (gI r3 1) 0) (qLQ [.s [],.s [],.s [],.s [],.r [],.b false,.i (gI r3 1)]) (let r4:=q9o [.r (gR r3 0)];qLO r4 (.br (ine (gI r4 1) 0) (qLQ [.s [],.s [],.s [],.s [],.r [],.b false,.i (gI r4 1)]) (let r5:=we [.s [49],.s (gS r4 0)];qLO r5 (.br (ine (gI r5 1) 0) (qLQ [.s [],.s [],.s [],.s [],.r [],.b false,.i (gI r5 1)]) (qLP (ile ((qg [[.s (gS r5 0)]])+(qg (gR r3 0))) 8796093022208) (let r6:=qf j4 [.r (gR r0 0),.i 0,.s (gS r0 2),.s (gS r0 3),.s (gS r0 4),.s (gS r0 5),.r (zE [[.s (gS r5 0)]] (gR r3 0)),.s [],.s [],.s [],.s []];qLO r6 (.br (jIs r6 0) (qLP (inb 0 (qg (gR r6 0))) (let r7:=vg [.s (gS r6 6),.s (gS r6 7),.s (gS r6 8),.i (cI (gR r6 0) 0 0),.i (cI (gR r6 0) 0 1),.i (cI (gR r6 0) 0 2)];qLO r7 (qLQ [.s (gS r6 6),.s (gS r6 7),.s (gS r6 8),.s (gS r7 0),.r (gR r6 5),.b true,.i (gI r7 1)]))) (qLQ [.s (gS r6 2),.s (gS r6 3),.s (gS r6 4),.s (gS r6 5),.r [],.b (gB r6 0),.i (gI r6 1)])))))))))))))))):=by kernel_rfl
theorem q9F:js [.r a0,.r a1,.i c2,.i c3,.r a4]=(.br (ilt c3 c2) (qLP (inb c3 (qg a1)) (qLP (inb (cI a1 c3 0) (qg a0)) (qLP (ile ((qg a4)+(qg [[.i (cI a0 (cI a1 c3 0) 0),.i (cI a0 (cI a1 c3 0) 1),.i (cI a0 (cI a1 c3 0) 2)]])) 5864062014805) (qLQ [.r a0,.r a1,.i c2,.i (qm .i64 c3 1),.r (zE a4 [[.i (cI a0 (cI a1 c3 0) 0),.i (cI a0 (cI a1 c3 0) 1),.i (cI a0 (cI a1 c3 0) 2)]])])))) (.leaf (1,[.r a4]))):=by kernel_rfl
theorem qnh:q10 [.r a0,.r a1]=(let r0:=qf js [.r a0,.r a1,.i (qg a1),.i 0,.r []];qLO r0 (qLQ [.r (gR r0 0)])):=by kernel_rfl
theorem qt2:q5F [.s e0]=(let r0:=zp [.s e0];qLO r0 (.br (ine (gI r0 0) 0) (qLQ [.s [],.s [],.i (gI r0 0)]) (let r1:=qS [.s e0];qLO r1 (qLQ [.s (gS r1 0),.s (gS r1 1),.i 0])))):=by kernel_rfl
theorem qvS:q7q [.s e0]=(let r0:=qU [.s e0];qLO r0 (.br (ine (gI r0 0) 0) (qLQ [.i 0,.i (gI r0 0)]) (let r1:=yg [.s e0];qLO r1 (qLQ [.i (gI r1 0),.i 0])))):=by kernel_rfl
theorem qv7:q47 [.s e0]=(let r0:=q5F [.s e0];qLO r0 (.br (ine (gI r0 2) 0) (qLQ [.i 0,.i (gI r0 2)]) (let r1:=q7q [.s (gS r0 0)];qLO r1 (qLQ [.i (gI r1 0),.i (gI r1 1)])))):=by kernel_rfl
theorem qan:qN [.s e0]=(qLO (q47 [.s e0]) (qLQ [.b (ilt (gI (q47 [.s e0]) 0) 0)])):=by kernel_rfl
theorem zY:qv [.r a0,.i c1,.i c2]=(.br (ilt c2 c1) (qLP (inb c2 (qg a0)) (let r0:=qN [.s (cS a0 c2 0)];qLO r0 (.br (gB r0 0) (.leaf (2,[.i c2])) (qLQ [.r a0,.i c1,.i (qm .i64 c2 1)])))) (.leaf (1,[]))):=by kernel_rfl
theorem yw:qG [.r a0]=(let r0:=qf qv [.r a0,.i (qg a0),.i 0];qLO r0 (.br (jIs r0 0) (qLQ [.i (-1)]) (qLQ [.i (gI r0 0)]))):=by kernel_rfl
theorem q2h:qM [.r a0]=(let r0:=qG [.r a0];qLO r0 (qLQ [.b (ile 0 (gI r0 0))])):=by kernel_rfl
theorem qcW:vu [.s e0,.s e1,.s e2,.s e3,.r a4]=(let r0:=qM [.r a4];qLO r0 (qLQ [.b (not (gB r0 0))])):=by kernel_rfl
theorem qoD:wD [.s e0,.s e1]=(let r0:=qA [.r [[.s e0],[.s e1]]];qLO r0 (.br (ine (gI r0 0) 0) (qLQ [.i 0,.i (gI r0 0)]) (let r1:=qS [.s e0];qLO r1 (let r2:=qS [.s e1];qLO r2 (let r3:=qp [.r [[.s (gS r1 0)],[.s (gS r2 1)]],.i 0];qLO r3 (let r4:=qp [.r [[.s (gS r2 0)],[.s (gS r1 1)]],.i (gI r3 1)];qLO r4 (.br (ine (gI r4 1) 0) (qLQ [.i 0,.i (gI r4 1)]) (let r5:=yq [.s (gS r3 0),.s (gS r4 0)];qLO r5 (qLQ [.i (gI r5 0),.i (gI r5 1)]))))))))):=by kernel_rfl
theorem jU:qR [.r a0,.i c1,.i c2,.s e3,.s e4,.s e5,.s e6,.r a7]=(.br (ilt c2 c1) (qLP (inb c2 (qg a0)) (let r0:=vg [.s e3,.s e4,.s e5,.i (cI a0 c2 0),.i (cI a0 c2 1),.i (cI a0 c2 2)];qLO r0 (.br (ine (gI r0 1) 0) (.leaf (2,[.b false,.i (gI r0 1)])) (let r1:=wD [.s (gS r0 0),.s e6];qLO r1 (.br (ine (gI r1 1) 0) (.leaf (2,[.b false,.i (gI r1 1)])) (.br (ilt 0 (gI r1 0)) (.leaf (2,[.b false,.i (gI r1 1)])) (qLQ [.r a0,.i c1,.i (qm .i64 c2 1),.s e3,.s e4,.s e5,.s e6,.r a7]))))))) (.leaf (1,[]))):=by kernel_rfl
theorem qad:wE [.s e0,.s e1,.s e2,.s e3,.r a4,.r a5]=(let r0:=qf qR [.r a5,.i (qg a5),.i 0,.s e0,.s e1,.s e2,.s e3,.r a4];qLO r0 (.br (jIs r0 0) (qLQ [.b true,.i 0]) (qLQ [.b (gB r0 0),.i (gI r0 1)]))):=by kernel_rfl
theorem q89:zI [.r a0,.r a1]=(let t0:=q10 [.r a0,.r a1];let t1:=u6 [.r (gR t0 0)];let t2:TR:=(qLQ [.s [],.s [],.s [],.s [],.r [],.b false,.i (gI t1 6)]);let t3:=vu [.s (gS t1 0),.s (gS t1 1),.s (gS t1 2),.s (gS t1 3),.r (gR t1 4)];let t4:=wE [.s (gS t1 0),.s (gS t1 1),.s (gS t1 2),.s (gS t1 3),.r (gR t1 4),.r a0];(qLO t0 (qLO t1 (.br (ine (gI t1 6) 0) t2 (.br (not (gB t1 5)) t2 (qLO t3 (.br (not (gB t3 0)) t2 (qLO t4 (qLQ [.s (gS t1 0),.s (gS t1 1),.s (gS t1 2),.s (gS t1 3),.r (gR t1 4),.b (gB t4 0),.i (gI t4 1)]))))))))):=by kernel_rfl
theorem q0j:qD [.r a0,.i c1,.i c2,.i c3,.i c4,.i c5,.r a6,.s e7,.s e8,.s e9,.s e10,.i c11,.i c12,.i c13,.r a14,.r a15]=(.br (ilt c1 c12) (let r0:=wu [.r a0];qLO r0 (qLP (ile ((qg (gR r0 0))+(qg [[.i c1]])) 17592186044416) (qLP (ile ((qg a15)+(qg [[.l (zE (gR r0 0) [[.i c1]])]])) 5864062014805) (let r1:=zI [.r a6,.r (zE (gR r0 0) [[.i c1]])];qLO r1 (.br (ine (gI r1 6) 0) .fail (.br (gB r1 5) (.leaf (2,[.r a6,.s (gS r1 0),.s (gS r1 1),.s (gS r1 2),.s (gS r1 3),.r (gR r1 4),.i 0,.i c12,.i c13,.r (zE (gR r0 0) [[.i c1]])])) (qLQ [.r a0,.i (qm .i64 c1 1),.i c2,.i c3,.i c4,.i c5,.r a6,.s e7,.s e8,.s e9,.s e10,.i c11,.i c12,.i c13,.r a14,.r (zE a15 [[.l (zE (gR r0 0) [[.i c1]])]])]))))))) (.leaf (1,[.i c2,.i c3,.i c4,.i c5,.r a6,.s e7,.s e8,.s e9,.s e10,.i c11,.i c12,.i c13,.r a14,.r a15]))):=by kernel_rfl
theorem q1o:wS [.i c0,.i c1,.i c2,.i c3,.r a4,.s e5,.s e6,.s e7,.s e8,.i c9,.i c10,.i c11,.r a12,.r a13]=(let l0:R:=(cR a12 c3 0);let i0:Int:=(qg l0);let p0:List PV:=[.i c0,.i c1,.i c2,.i c3,.r a4,.s e5,.s e6,.s e7,.s e8,.i c9,.i c10,.i c11,.r a12,.r a13];let t0:=qf qD ((.r l0)::(.i (qm .i64 (cI l0 (wd .i64 i0 1) 0) 1))::p0);let t1:=qf qD ((.r l0)::(.i 0)::p0);(.br (ilt c3 c2) (qLP (inb c3 (qg a12)) (.br (ilt 0 i0) (qLP (inb (wd .i64 i0 1) i0) (qLO t0 (.br (jIs t0 0) (qLQ [.i (gI t0 0),.i (gI t0 1),.i (gI t0 2),.i (qm .i64 (gI t0 3) 1),.r (gR t0 4),.s (gS t0 5),.s (gS t0 6),.s (gS t0 7),.s (gS t0 8),.i (gI t0 9),.i (gI t0 10),.i (gI t0 11),.r (gR t0 12),.r (gR t0 13)]) (.leaf (2,[.r (gR t0 0),.s (gS t0 1),.s (gS t0 2),.s (gS t0 3),.s (gS t0 4),.r (gR t0 5),.i (gI t0 6),.i (gI t0 7),.i (gI t0 8),.r (gR t0 9)]))))) (qLO t1 (.br (jIs t1 0) (qLQ [.i (gI t1 0),.i (gI t1 1),.i (gI t1 2),.i (qm .i64 (gI t1 3) 1),.r (gR t1 4),.s (gS t1 5),.s (gS t1 6),.s (gS t1 7),.s (gS t1 8),.i (gI t1 9),.i (gI t1 10),.i (gI t1 11),.r (gR t1 12),.r (gR t1 13)]) (.leaf (2,[.r (gR t1 0),.s (gS t1 1),.s (gS t1 2),.s (gS t1 3),.s (gS t1 4),.r (gR t1 5),.i (gI t1 6),.i (gI t1 7),.i (gI t1 8),.r (gR t1 9)])))))) (.leaf (1,[.i c0,.i c1,.r a4,.s e5,.s e6,.s e7,.s e8,.i c9,.i c10,.i c11,.r a13])))):=by kernel_rfl
theorem q1k:wX [.i c0,.i c1,.r a2,.s e3,.s e4,.s e5,.s e6,.i c7,.i c8,.i c9,.r a10]=(.br (ilt c1 c0) (let r0:=qf wS [.i c0,.i c1,.i (qg a10),.i 0,.r a2,.s e3,.s e4,.s e5,.s e6,.i c7,.i c8,.i c9,.r a10,.r []];qLO r0 (.br (jIs r0 0) (qLQ [.i (gI r0 0),.i (qm .i64 (gI r0 1) 1),.r (gR r0 2),.s (gS r0 3),.s (gS r0 4),.s (gS r0 5),.s (gS r0 6),.i (gI r0 7),.i (gI r0 8),.i (gI r0 9),.r (gR r0 10)]) (.leaf (2,[.r (gR r0 0),.s (gS r0 1),.s (gS r0 2),.s (gS r0 3),.s (gS r0 4),.r (gR r0 5),.i (gI r0 6),.i (gI r0 7),.i (gI r0 8),.r (gR r0 9)])))) (.leaf (1,[.r a2,.s e3,.s e4,.s e5,.s e6,.i c7,.i c8,.i c9]))):=by kernel_rfl
theorem qoV:kY [.r a0,.i c1]=(let r0:=qf wX [.i c1,.i 0,.r a0,.s [],.s [],.s [],.s [],.i 0,.i (qg a0),.i c1,.r [[.l []]]];qLO r0 (.br (jIs r0 0) (qLQ [.s [],.s [],.s [],.s [],.r [],.r [],.i 6]) (qLQ [.s (gS r0 1),.s (gS r0 2),.s (gS r0 3),.s (gS r0 4),.r (gR r0 5),.r (gR r0 9),.i (gI r0 6)]))):=by kernel_rfl
theorem q9x:jt [.r a0,.i c1,.i c2,.r a3]=(.br (ilt c2 c1) (qLP (inb c2 (qg a0)) (qLP (ile ((qg a3)+(qg [[.i (cI a0 c2 0),.i (cI a0 c2 1),.i 0]])) 5864062014805) (qLQ [.r a0,.i c1,.i (qm .i64 c2 1),.r (zE a3 [[.i (cI a0 c2 0),.i (cI a0 c2 1),.i 0]])]))) (.leaf (1,[.r a3]))):=by kernel_rfl
theorem qms:q0U [.r a0]=(let r0:=qf jt [.r a0,.i (qg a0),.i 0,.r []];qLO r0 (qLQ [.r (gR r0 0)])):=by kernel_rfl
theorem qee:yH [.s e0,.s e1,.s e2,.s e3,.r a4]=(qLQ [.s e0,.s e1]):=by kernel_rfl
theorem qmE:u7 [.r a0]=(let r0:=q3l [.r a0];qLO r0 (.br (ine (gI r0 0) 0) (qLQ [.s [],.s [],.s [],.r [],.i (gI r0 0)]) (let r1:=q0U [.r a0];qLO r1 (let r2:=kY [.r (gR r1 0),.i 3];qLO r2 (.br (ine (gI r2 6) 0) (qLQ [.s [],.s [],.s [],.r [],.i (gI r2 6)]) (let r3:=yH [.s (gS r2 0),.s (gS r2 1),.s (gS r2 2),.s (gS r2 3),.r (gR r2 4)];qLO r3 (qLQ [.s (gS r3 0),.s (gS r3 1),.s (gS r2 3),.r (gR r2 5),.i 0]))))))):=by kernel_rfl
theorem qyW:kI [.r a0,.i c1]=(let r0:=u7 [.r a0];qLO r0 (.br (ine (gI r0 4) 0) (qLQ [.b false,.i (gI r0 4)]) (.br (ilt c1 0) (qLQ [.b false,.i 2]) (.br (ilt 100000 c1) (qLQ [.b false,.i 2]) (let r1:=vq [.s [52],.s (gS r0 2)];qLO r1 (.br (ine (gI r1 1) 0) (qLQ [.b false,.i (gI r1 1)]) (let r2:=wH [.i (zV .i64 c1 c1)];qLO r2 (let r3:=wD [.s (gS r1 0),.s (gS r2 0)];qLO r3 (.br (ieq (gI r3 1) 0) (qLQ [.b (ile (gI r3 0) 0),.i (gI r3 1)]) (qLQ [.b false,.i (gI r3 1)])))))))))):=by kernel_rfl
theorem qqX:q6F [.i c0,.i c1,.i c2,.i c3,.i c4,.i c5]=(qLQ [.i (wd .i64 c3 c0),.i (wd .i64 c4 c1),.i (wd .i64 c5 c2)]):=by kernel_rfl
theorem qlU:q2s [.i c0,.i c1,.i c2,.i c3,.i c4,.i c5]=(qLQ [.i (qm .i64 (qm .i64 (zV .i64 c0 c3) (zV .i64 c1 c4)) (zV .i64 c2 c5))]):=by kernel_rfl
theorem qgB:vF [.i c0,.i c1,.i c2,.i c3,.i c4,.i c5]=(let r0:=zl [.r [[.i c0,.i c1,.i c2],[.i c3,.i c4,.i c5]]];qLO r0 (.br (ine (gI r0 0) 0) (qLQ [.i 0,.i (gI r0 0)]) (let r1:=q6F [.i c0,.i c1,.i c2,.i c3,.i c4,.i c5];qLO r1 (let r2:=q2s [.i (gI r1 0),.i (gI r1 1),.i (gI r1 2),.i (gI r1 0),.i (gI r1 1),.i (gI r1 2)];qLO r2 (qLQ [.i (gI r2 0),.i 0]))))):=by kernel_rfl
theorem q7T:q02 [.r a0,.i c1,.i c2,.r a3]=(.br (ilt c2 c1) (qLP (inb c2 (qg a0)) (let r0:=vF [.i (cI a0 c2 0),.i (cI a0 c2 1),.i (cI a0 c2 2),.i (cI a0 c2 3),.i (cI a0 c2 4),.i (cI a0 c2 5)];qLO r0 (.br (ine (gI r0 1) 0) (.leaf (2,[.i (gI r0 1)])) (qLP (ile ((qg a3)+(qg [[.i (gI r0 0)]])) 17592186044416) (qLQ [.r a0,.i c1,.i (qm .i64 c2 1),.r (zE a3 [[.i (gI r0 0)]])]))))) (.leaf (1,[.r a3]))):=by kernel_rfl
theorem qsq:q0t [.r a0]=(.br (ilt 64 (qg a0)) (qLQ [.r [],.i 5]) (let r0:=qf q02 [.r a0,.i (qg a0),.i 0,.r []];qLO r0 (.br (jIs r0 0) (qLQ [.r (gR r0 0),.i 0]) (qLQ [.r [],.i (gI r0 0)])))):=by kernel_rfl
theorem qjT:wn [.i c0]=(.br (ile (-100000) c0) (qLQ [.b (ile c0 100000)]) (qLQ [.b false])):=by kernel_rfl
theorem qkS:kD [.i c0,.i c1]=(qLO (wn [.i c0]) (.br (not (gB (wn [.i c0]) 0)) (qLQ [.i 2]) (qLO (wn [.i c1]) (.br (not (gB (wn [.i c1]) 0)) (qLQ [.i 2]) (.br (ilt c1 c0) (qLQ [.i 9]) (qLQ [.i 0])))))):=by kernel_rfl
theorem qsb:q5I [.i c0,.i c1]=(let r0:=kD [.i c0,.i c1];qLO r0 (.br (ine (gI r0 0) 0) (qLQ [.i (gI r0 0)]) (.br (ilt c0 0) (qLQ [.i 2]) (qLQ [.i 0])))):=by kernel_rfl
theorem q9C:q1e [.i c0,.i c1,.i c2]=(.br (ilt c0 (zV .i64 c1 c1)) (qLQ [.b true,.i c1,.i c2]) (qLQ [.b (ilt (zV .i64 c2 c2) c0),.i c1,.i c2])):=by kernel_rfl
theorem jD:z6 [.r a0,.i c1,.i c2,.i c3,.i c4]=(.br (ilt c2 c1) (qLP (inb c2 (qg a0)) (let r0:=q1e [.i (cI a0 c2 0),.i c3,.i c4];qLO r0 (.br (gB r0 0) (.leaf (2,[.i c2,.i (gI r0 1),.i (gI r0 2)])) (qLQ [.r a0,.i c1,.i (qm .i64 c2 1),.i (gI r0 1),.i (gI r0 2)])))) (.leaf (1,[.i c3,.i c4]))):=by kernel_rfl
theorem qa2:zU [.r a0,.i c1,.i c2]=(let r0:=qf z6 [.r a0,.i (qg a0),.i 0,.i c1,.i c2];qLO r0 (.br (jIs r0 0) (qLQ [.i (-1),.i (gI r0 0),.i (gI r0 1)]) (qLQ [.i (gI r0 0),.i (gI r0 1),.i (gI r0 2)]))):=by kernel_rfl
theorem qvo:q08 [.r a0,.i c1,.i c2]=(let r0:=q0t [.r a0];qLO r0 (.br (ine (gI r0 1) 0) (qLQ [.b false,.i 0,.i (gI r0 1)]) (let r1:=q5I [.i c1,.i c2];qLO r1 (.br (ine (gI r1 0) 0) (qLQ [.b false,.i 0,.i (gI r1 0)]) (let r2:=zU [.r (gR r0 0),.i c1,.i c2];qLO r2 (.br (ile 0 (gI r2 0)) (qLQ [.b false,.i (gI r2 0),.i 0]) (qLQ [.b true,.i (qg (gR r0 0)),.i 0]))))))):=by kernel_rfl
theorem q34:zD [.r a0,.r a1,.i c2,.i c3]=(.br (ilt c3 c2) (qLP (inb c3 (qg a0)) (qLP (inb c3 (qg a1)) (.br (ine (cI a0 c3 0) (cI a1 c3 0)) (.leaf (2,[.b false])) (qLQ [.r a0,.r a1,.i c2,.i (qm .i64 c3 1)])))) (.leaf (1,[]))):=by kernel_rfl
theorem qdO:vV [.r a0,.r a1]=(.br (ine (qg a0) (qg a1)) (qLQ [.b false]) (let r0:=qf zD [.r a0,.r a1,.i (qg a0),.i 0];qLO r0 (.br (jIs r0 0) (qLQ [.b true]) (qLQ [.b (gB r0 0)])))):=by kernel_rfl
theorem quJ  : qay []=(qLQ [.i 0,.r [[.i 0,.i 0,.i 0],[.i 1,.i 5,.i 0]],.r [[.i 10,.i 0,.i 0],[.i 12,.i 5,.i 0]]]):=by kernel_rfl
theorem qsR  : q2t []=(let t0:=q0t [.r [[.i 0,.i 0,.i 0,.i 3,.i 4,.i 0]]];let t1:=q08 [.r [[.i 0,.i 0,.i 0,.i 3,.i 4,.i 0]],.i 4,.i 5];let t2:=q08 [.r [[.i 0,.i 0,.i 0,.i 3,.i 4,.i 0]],.i 6,.i 7];let t3:=qay [];let t4:=q2l [.i (gI t3 0),.r (gR t3 1),.r (gR t3 2),.b true];let t5:=q2l [.i (gI t3 0),.r (gR t3 1),.r (gR t3 2),.b false];let t6:=q4J [.i (gI t3 0),.r (gR t3 1),.r (gR t3 2)];let t7:=kI [.r [[.i 0,.i 0],[.i 6,.i 0],[.i 3,.i 1]],.i 6];let t8:=kI [.r [[.i 0,.i 0],[.i 6,.i 0],[.i 3,.i 1]],.i 5];let t9:=vV [.r (gR t0 0),.r [[.i 25]]];let t10:TR:=(qLQ [.b false]);(qLO t0 (qLO t1 (qLO t2 (qLO t3 (qLO t4 (qLO t3 (qLO t5 (qLO t3 (qLO t6 (qLO t7 (qLO t8 (.br (ieq (qm .i64 (qm .i64 (qm .i64 (qm .i64 (qm .i64 (qm .i64 (qm .i64 (gI t0 1) (gI t1 2)) (gI t2 2)) (gI t4 1)) (gI t5 1)) (gI t6 2)) (gI t7 1)) (gI t8 1)) 0) (qLO t9 (.br (gB t9 0) (.br (gB t1 0) (.br (ieq (gI t1 1) 1) (.br (not (gB t2 0)) (.br (ieq (gI t4 0) 9) (.br (ieq (gI t5 0) 12) (.br (qDs (ieq (gI t6 0) 9) (qDs (ieq (gI t6 1) 12) true)) (.br (gB t7 0) (qLQ [.b (not (gB t8 0))]) t10) t10) t10) t10) t10) t10) t10) t10)) t10))))))))))))):=by kernel_rfl
theorem qA7:q4n [.i c0]=(.br (ile (-100000) c0) (qLQ [.b (ile c0 100000)]) (qLQ [.b false])):=by kernel_rfl
theorem qxU:q66 [.r a0]=(.br (ile (qg a0) 8) (qLQ [.b true]) (.br (ilt 64 (qg a0)) (qLQ [.b (ilt (qg a0) 128)]) (qLQ [.b false]))):=by kernel_rfl
theorem qs4:q2i [.i c0,.i c1]=(qLO (q4n [.i c0]) (.br (gB (q4n [.i c0]) 0) (qLO (q4n [.i c1]) (qLQ [.b (gB (q4n [.i c1]) 0)])) (qLQ [.b false]))):=by kernel_rfl
theorem qeN:yv [.r a0,.i c1]=(.br (ilt c1 (qg a0)) (qLP (inb c1 (qg a0)) (let r0:=q2i [.i (cI a0 c1 0),.i (cI a0 c1 1)];qLO r0 (.br (not (gB r0 0)) (.leaf (2,[.i 2])) (qLQ [.r a0,.i (qm .i64 c1 1)])))) (.leaf (1,[]))):=by kernel_rfl
theorem qrZ:jf [.r a0]=(.br (ilt 64 (qg a0)) (qLQ [.i 5]) (let r0:=qf yv [.r a0,.i 0];qLO r0 (.br (jIs r0 0) (qLQ [.i 0]) (qLQ [.i (gI r0 0)])))):=by kernel_rfl
theorem quN:qb8 [.r a0]=(let r0:=jf [.r a0];qLO r0 (.br (ine (gI r0 0) 0) (qLQ [.i (gI r0 0)]) (.br (ieq (qg a0) 0) (qLQ [.i 13]) (qLQ [.i 0])))):=by kernel_rfl
theorem qpB:uZ [.i c0,.i c1]=(qLP (ieq c1 0) (qLQ [.r [[.l []]]])):=by kernel_rfl
theorem qkY(y0:Int)(y1:R)(y2:Int)(y3:R)(y4 y5:Int)(y6:R):kO [.i y0,.r y1,.i y2,.r y3,.i y4,.i y5,.r y6]=(.br (ilt y2 y0) (qLP (ile ((qg [])+(qg y1)) 17592186044416) (qLP (ile ((qg (zE [] y1))+(qg [[.i y2]])) 17592186044416) (qLP (ile ((qg y6)+(qg [[.l (zE (zE [] y1) [[.i y2]])]])) 5864062014805) (qLQ [.i y0,.r y1,.i (qm .i64 y2 1),.r y3,.i y4,.i y5,.r (zE y6 [[.l (zE (zE [] y1) [[.i y2]])]])])))) (.leaf (1,[.i y0,.r y3,.i y4,.i y5,.r y6]))):=by kernel_rfl
theorem qmw(y0:Int)(y1:R)(y2 y3:Int)(y4:R):q3B [.i y0,.r y1,.i y2,.i y3,.r y4]=(.br (ilt y3 y2) (qLP (inb y3 (qg y1)) (.br (ilt 0 (qg (cR y1 y3 0))) (qLP (inb (wd .i64 (qg (cR y1 y3 0)) 1) (qg (cR y1 y3 0))) (let r0:=qf kO [.i y0,.r (cR y1 y3 0),.i (qm .i64 (cI (cR y1 y3 0) (wd .i64 (qg (cR y1 y3 0)) 1) 0) 1),.r y1,.i y2,.i y3,.r y4];qLO r0 (qLQ [.i (gI r0 0),.r (gR r0 1),.i (gI r0 2),.i (qm .i64 (gI r0 3) 1),.r (gR r0 4)]))) (let r0:=qf kO [.i y0,.r (cR y1 y3 0),.i 0,.r y1,.i y2,.i y3,.r y4];qLO r0 (qLQ [.i (gI r0 0),.r (gR r0 1),.i (gI r0 2),.i (qm .i64 (gI r0 3) 1),.r (gR r0 4)])))) (.leaf (1,[.r y4]))):=by kernel_rfl
theorem qr7:q1d [.i c0,.i c1]=(.br (ieq c1 0) (qLQ [.r [[.l []]]]) (let r0:=uZ [.i c0,.i (wd .i64 c1 1)];qLO r0 (let r1:=qf q3B [.i c0,.r (gR r0 0),.i (qg (gR r0 0)),.i 0,.r []];qLO r1 (qLQ [.r (gR r1 0)])))):=by kernel_rfl
theorem qkq(y0:Int)(y1:R)(y2:Int)(y3:R)(y4 y5:Int)(y6:R):q05 [.i y0,.r y1,.i y2,.r y3,.i y4,.i y5,.r y6]=(.br (ilt y2 y0) (qLP (ile ((qg [])+(qg y1)) 17592186044416) (qLP (ile ((qg (zE [] y1))+(qg [[.i y2]])) 17592186044416) (qLP (ile ((qg y6)+(qg [[.l (zE (zE [] y1) [[.i y2]])]])) 5864062014805) (qLQ [.i y0,.r y1,.i (qm .i64 y2 1),.r y3,.i y4,.i y5,.r (zE y6 [[.l (zE (zE [] y1) [[.i y2]])]])])))) (.leaf (1,[.i y0,.r y3,.i y4,.i y5,.r y6]))):=by kernel_rfl
theorem qmH(y0:Int)(y1:R)(y2 y3:Int)(y4:R):q3D [.i y0,.r y1,.i y2,.i y3,.r y4]=(.br (ilt y3 y2) (qLP (inb y3 (qg y1)) (.br (ilt 0 (qg (cR y1 y3 0))) (qLP (inb (wd .i64 (qg (cR y1 y3 0)) 1) (qg (cR y1 y3 0))) (let r0:=qf q05 [.i y0,.r (cR y1 y3 0),.i (qm .i64 (cI (cR y1 y3 0) (wd .i64 (qg (cR y1 y3 0)) 1) 0) 1),.r y1,.i y2,.i y3,.r y4];qLO r0 (qLQ [.i (gI r0 0),.r (gR r0 1),.i (gI r0 2),.i (qm .i64 (gI r0 3) 1),.r (gR r0 4)]))) (let r0:=qf q05 [.i y0,.r (cR y1 y3 0),.i 0,.r y1,.i y2,.i y3,.r y4];qLO r0 (qLQ [.i (gI r0 0),.r (gR r0 1),.i (gI r0 2),.i (qm .i64 (gI r0 3) 1),.r (gR r0 4)])))) (.leaf (1,[.r y4]))):=by kernel_rfl
theorem qrs:q17 [.i c0,.i c1]=(.br (ieq c1 0) (qLQ [.r [[.l []]]]) (let r0:=q1d [.i c0,.i (wd .i64 c1 1)];qLO r0 (let r1:=qf q3D [.i c0,.r (gR r0 0),.i (qg (gR r0 0)),.i 0,.r []];qLO r1 (qLQ [.r (gR r1 0)])))):=by kernel_rfl
theorem qkl(y0:Int)(y1:R)(y2:Int)(y3:R)(y4 y5:Int)(y6:R):q01 [.i y0,.r y1,.i y2,.r y3,.i y4,.i y5,.r y6]=(.br (ilt y2 y0) (qLP (ile ((qg [])+(qg y1)) 17592186044416) (qLP (ile ((qg (zE [] y1))+(qg [[.i y2]])) 17592186044416) (qLP (ile ((qg y6)+(qg [[.l (zE (zE [] y1) [[.i y2]])]])) 5864062014805) (qLQ [.i y0,.r y1,.i (qm .i64 y2 1),.r y3,.i y4,.i y5,.r (zE y6 [[.l (zE (zE [] y1) [[.i y2]])]])])))) (.leaf (1,[.i y0,.r y3,.i y4,.i y5,.r y6]))):=by kernel_rfl
theorem qni(y0:Int)(y1:R)(y2 y3:Int)(y4:R):q3y [.i y0,.r y1,.i y2,.i y3,.r y4]=(.br (ilt y3 y2) (qLP (inb y3 (qg y1)) (.br (ilt 0 (qg (cR y1 y3 0))) (qLP (inb (wd .i64 (qg (cR y1 y3 0)) 1) (qg (cR y1 y3 0))) (let r0:=qf q01 [.i y0,.r (cR y1 y3 0),.i (qm .i64 (cI (cR y1 y3 0) (wd .i64 (qg (cR y1 y3 0)) 1) 0) 1),.r y1,.i y2,.i y3,.r y4];qLO r0 (qLQ [.i (gI r0 0),.r (gR r0 1),.i (gI r0 2),.i (qm .i64 (gI r0 3) 1),.r (gR r0 4)]))) (let r0:=qf q01 [.i y0,.r (cR y1 y3 0),.i 0,.r y1,.i y2,.i y3,.r y4];qLO r0 (qLQ [.i (gI r0 0),.r (gR r0 1),.i (gI r0 2),.i (qm .i64 (gI r0 3) 1),.r (gR r0 4)])))) (.leaf (1,[.r y4]))):=by kernel_rfl
theorem qqc:q1f [.i c0,.i c1]=(.br (ieq c1 0) (qLQ [.r [[.l []]]]) (let r0:=q17 [.i c0,.i (wd .i64 c1 1)];qLO r0 (let r1:=qf q3y [.i c0,.r (gR r0 0),.i (qg (gR r0 0)),.i 0,.r []];qLO r1 (qLQ [.r (gR r1 0)])))):=by kernel_rfl
theorem qmt(y0:Int)(y1:R)(y2:Int)(y3:R)(y4 y5:Int)(y6:R):q0S [.i y0,.r y1,.i y2,.r y3,.i y4,.i y5,.r y6]=(.br (ilt y2 y0) (qLP (ile ((qg [])+(qg y1)) 17592186044416) (qLP (ile ((qg (zE [] y1))+(qg [[.i y2]])) 17592186044416) (qLP (ile ((qg y6)+(qg [[.l (zE (zE [] y1) [[.i y2]])]])) 5864062014805) (qLQ [.i y0,.r y1,.i (qm .i64 y2 1),.r y3,.i y4,.i y5,.r (zE y6 [[.l (zE (zE [] y1) [[.i y2]])]])])))) (.leaf (1,[.i y0,.r y3,.i y4,.i y5,.r y6]))):=by kernel_rfl
theorem qoQ(y0:Int)(y1:R)(y2 y3:Int)(y4:R):q4R [.i y0,.r y1,.i y2,.i y3,.r y4]=(.br (ilt y3 y2) (qLP (inb y3 (qg y1)) (.br (ilt 0 (qg (cR y1 y3 0))) (qLP (inb (wd .i64 (qg (cR y1 y3 0)) 1) (qg (cR y1 y3 0))) (let r0:=qf q0S [.i y0,.r (cR y1 y3 0),.i (qm .i64 (cI (cR y1 y3 0) (wd .i64 (qg (cR y1 y3 0)) 1) 0) 1),.r y1,.i y2,.i y3,.r y4];qLO r0 (qLQ [.i (gI r0 0),.r (gR r0 1),.i (gI r0 2),.i (qm .i64 (gI r0 3) 1),.r (gR r0 4)]))) (let r0:=qf q0S [.i y0,.r (cR y1 y3 0),.i 0,.r y1,.i y2,.i y3,.r y4];qLO r0 (qLQ [.i (gI r0 0),.r (gR r0 1),.i (gI r0 2),.i (qm .i64 (gI r0 3) 1),.r (gR r0 4)])))) (.leaf (1,[.r y4]))):=by kernel_rfl
theorem qsJ:q8U [.i c0,.i c1]=(.br (ieq c1 0) (qLQ [.r [[.l []]]]) (let r0:=q1f [.i c0,.i (wd .i64 c1 1)];qLO r0 (let r1:=qf q4R [.i c0,.r (gR r0 0),.i (qg (gR r0 0)),.i 0,.r []];qLO r1 (qLQ [.r (gR r1 0)])))):=by kernel_rfl
theorem qrN:qy [.s e0]=(qLP (inb 0 (qq e0)) (qLQ [.b (ieq (sat e0 0) 45)])):=by kernel_rfl
theorem qpW:qZ [.s e0,.b d1]=(.br d1 (.br (not (seq e0 [48])) (qLP (ile ((qq [45])+(qq e0)) 140737488355328) (qLQ [.s (qdj [45] e0)])) (qLQ [.s e0])) (qLQ [.s e0])):=by kernel_rfl
theorem qvp:qw [.s e0]=(.br (not (seq e0 [])) (qLP (inb 0 (qq e0)) (.br (ieq (sat e0 0) 45) (qLP (q4r (qq e0) (qq e0)) (qLP (q4r 1 (qq e0)) (qLQ [.s (qc8 e0 1 (qq e0))]))) (qLQ [.s e0]))) (qLQ [.s e0])):=by kernel_rfl
theorem qrz:wz [.s e0]=(let r0:=qw [.s e0];qLO r0 (let r1:=qy [.s e0];qLO r1 (let r2:=qZ [.s (gS r0 0),.b (not (gB r1 0))];qLO r2 (qLQ [.s (gS r2 0)])))):=by kernel_rfl
theorem qs1(y0:Int)(y1:qLR):qdt [.i y0,.s y1]=(.br (ilt 9 y0) (qLP (ile ((qq (qnk [[.i (q2z .u8 (qm .i64 48 (qaf y0 10)))]]))+(qq y1)) 140737488355328) (qLQ [.i (qbe .i64 y0 10),.s (qdj (qnk [[.i (q2z .u8 (qm .i64 48 (qaf y0 10)))]]) y1)])) (.leaf (1,[.i y0,.s y1]))):=by kernel_rfl
theorem qxJ:q6w [.i c0]=(let t0:=qf qdt [.i c0,.s []];let s0:List UInt8:=(qnk [[.i (q2z .u8 (qm .i64 48 (gI t0 0)))]]);let t1:TR:=(.br (ilt c0 0) .fail (qLO t0 (qLP (ile ((qq s0)+(qq (gS t0 1))) 140737488355328) (qLQ [.s (qdj s0 (gS t0 1))]))));(.br (ieq c0 (wd .i64 0 c0)) (.br (ine c0 0) (qLQ [.s [45,57,50,50,51,51,55,50,48,51,54,56,53,52,55,55,53,56,48,56]]) t1) t1)):=by kernel_rfl
theorem qvJ(y0:Int)(y1:qLR):qfP [.i y0,.s y1]=(.br (ilt 9 y0) (qLP (ile ((qq (qnk [[.i (q2z .u8 (qm .i64 48 (qaf y0 10)))]]))+(qq y1)) 140737488355328) (qLQ [.i (qbe .i64 y0 10),.s (qdj (qnk [[.i (q2z .u8 (qm .i64 48 (qaf y0 10)))]]) y1)])) (.leaf (1,[.i y0,.s y1]))):=by kernel_rfl
theorem qpm:zO [.i c0]=(let i0:Int:=(wd .i64 0 c0);let t0:=wz [.s (gS (q6w [.i i0]) 0)];let t1:=qf qfP [.i c0,.s []];let s0:List UInt8:=(qnk [[.i (q2z .u8 (qm .i64 48 (gI t1 0)))]]);let t2:TR:=(.br (ilt c0 0) (qLO (q6w [.i i0]) (qLO t0 (qLQ [.s (gS t0 0)]))) (qLO t1 (qLP (ile ((qq s0)+(qq (gS t1 1))) 140737488355328) (qLQ [.s (qdj s0 (gS t1 1))]))));(.br (ieq c0 i0) (.br (ine c0 0) (qLQ [.s [45,57,50,50,51,51,55,50,48,51,54,56,53,52,55,55,53,56,48,56]]) t2) t2)):=by kernel_rfl
theorem qrS:zB [.i c0]=(qLO (zO [.i c0]) (qLQ [.s (gS (zO [.i c0]) 0)])):=by kernel_rfl
theorem qjz:vr [.i c0,.i c1,.i c2,.i c3,.i c4,.i c5]=(qLQ [.i (qm .i64 (qm .i64 (zV .i64 c0 c3) (zV .i64 c1 c4)) (zV .i64 c2 c5))]):=by kernel_rfl
theorem qvt:q7e [.i c0,.i c1,.i c2,.i c3,.i c4,.i c5]=(qLQ [.i (wd .i64 c0 c3),.i (wd .i64 c1 c4),.i (wd .i64 c2 c5)]):=by kernel_rfl
theorem qoF:q56 [.s e0,.i c1]=(.br (ilt c1 (qq e0)) (qLP (inb c1 (qq e0)) (.br (ieq (sat e0 c1) 47) (.leaf (2,[.i c1])) (qLQ [.s e0,.i (qm .i64 c1 1)]))) (.leaf (1,[]))):=by kernel_rfl
theorem qsy:q8K [.s e0]=(let r0:=qf q56 [.s e0,.i 0];qLO r0 (.br (jIs r0 0) (qLQ [.i (-1)]) (qLQ [.i (gI r0 0)]))):=by kernel_rfl
theorem qsh:ub [.s e0]=(let r0:=q8K [.s e0];qLO r0 (.br (ilt (gI r0 0) 0) (qLQ [.s e0,.s [49]]) (qLP (q4r (gI r0 0) (qq e0)) (qLP (q4r 0 (gI r0 0)) (qLP (q4r (qq e0) (qq e0)) (qLP (q4r (qm .i64 (gI r0 0) 1) (qq e0)) (qLQ [.s (qc8 e0 0 (gI r0 0)),.s (qc8 e0 (qm .i64 (gI r0 0) 1) (qq e0))]))))))):=by kernel_rfl
theorem qd6:q0Q [.s e0,.i c1,.s e2,.i c3]=(.br (ilt c3 (qq e2)) (qLP (inb c3 (qq e2)) (qLQ [.s e0,.i (qm .i64 (zV .i64 10 c1) (q2z .i64 (wd .u8 (sat e2 c3) 48))),.s e2,.i (qm .i64 c3 1)])) (.leaf (1,[.s e0,.i c1]))):=by kernel_rfl
theorem qqa:uQ [.s e0]=(let r0:=qw [.s e0];qLO r0 (let r1:=qf q0Q [.s e0,.i 0,.s (gS r0 0),.i 0];qLO r1 (let r2:=qy [.s (gS r1 0)];qLO r2 (.br (gB r2 0) (qLQ [.i (wd .i64 0 (gI r1 1))]) (qLQ [.i (gI r1 1)]))))):=by kernel_rfl
theorem qsI:jb [.s e0,.s e1]=(qLO (qw [.s e0]) (.br (ilt 18 (qq (gS (qw [.s e0]) 0))) (qLQ [.i 0,.i 0,.b false]) (qLO (qw [.s e1]) (.br (ilt 18 (qq (gS (qw [.s e1]) 0))) (qLQ [.i 0,.i 0,.b false]) (qLO (uQ [.s e0]) (qLO (uQ [.s e1]) (qLQ [.i (gI (uQ [.s e0]) 0),.i (gI (uQ [.s e1]) 0),.b true]))))))):=by kernel_rfl
theorem qrJ:q6K [.s e0]=(.br (ilt 1 (qq e0)) (qLP (inb 0 (qq e0)) (.br (ieq (sat e0 0) 48) (qLP (q4r (qq e0) (qq e0)) (qLP (q4r 1 (qq e0)) (qLQ [.s (qc8 e0 1 (qq e0))]))) (.leaf (1,[.s e0])))) (.leaf (1,[.s e0]))):=by kernel_rfl
theorem qul:uI [.s e0]=(let r0:=qf q6K [.s e0];qLO r0 (qLQ [.s (gS r0 0)])):=by kernel_rfl
theorem qkD:kN [.s e0,.s e1,.i c2,.i c3,.r a4]=(let i0:Int:=(qm .i64 (qm .i64 c2 c3) 1);(.br (ilt c3 (qq e1)) (qLP (inb i0 (qg a4)) (qLP (inb c2 (qq e0)) (qLP (inb c3 (qq e1)) (qLP (inb i0 (qg a4)) (qLQ [.s e0,.s e1,.i c2,.i (qm .i64 c3 1),.r (qaa a4 i0 0 [.i (qm .i64 (cI a4 i0 0) (zV .i64 (q2z .i64 (wd .u8 (sat e0 c2) 48)) (q2z .i64 (wd .u8 (sat e1 c3) 48))))])]))))) (.leaf (1,[.s e0,.s e1,.i c2,.r a4])))):=by kernel_rfl
theorem qku:kB [.s e0,.s e1,.i c2,.r a3]=(.br (ilt c2 (qq e0)) (let r0:=qf kN [.s e0,.s e1,.i c2,.i 0,.r a3];qLO r0 (qLQ [.s (gS r0 0),.s (gS r0 1),.i (qm .i64 (gI r0 2) 1),.r (gR r0 3)])) (.leaf (1,[.r a3]))):=by kernel_rfl
theorem qjK:uw [.i c0,.i c1,.r a2,.r a3]=(.br (ile 0 c1) (qLP (inb c1 (qg a2)) (qLP (inb c1 (qg a3)) (qLQ [.i (qbe .i64 (qm .i64 c0 (cI a2 c1 0)) 10),.i (wd .i64 c1 1),.r a2,.r (qaa a3 c1 0 [.i (q2z .u8 (qm .i64 48 (qaf (qm .i64 c0 (cI a2 c1 0)) 10)))])]))) (.leaf (1,[.r a3]))):=by kernel_rfl
theorem qov:q52 [.s e0,.s e1]=(let i0:Int:=(qm .i64 (qq e0) (qq e1));let t0:=qf kB [.s e0,.s e1,.i 0,.r (q2P i0 [.i 0])];let i1:Int:=(qg (gR t0 0));let t1:=qf uw [.i 0,.i (wd .i64 i1 1),.r (gR t0 0),.r (q2P i1 [.i 0])];let t2:=uI [.s (qnk (gR t1 0))];(qLP (ieq i0 i0) (qLP (q4r i0 17592186044416) (qLO t0 (qLP (ieq i1 i1) (qLP (q4r i1 140737488355328) (qLO t1 (qLO t2 (qLQ [.s (gS t2 0)]))))))))):=by kernel_rfl
theorem qt5:vl [.s e0,.s e1]=(let p0:List PV:=[.s e1];let t0:=jb ((.s e0)::p0);let t1:=zO [.i (zV .i64 (gI t0 0) (gI t0 1))];let t2:=q52 [.s (gS (qw [.s e0]) 0),.s (gS (qw p0) 0)];let t3:=qZ [.s (gS t2 0),.b (not (beq (gB (qy [.s e0]) 0) (gB (qy p0) 0)))];let t4:TR:=(qLO (qw [.s e0]) (qLO (qw p0) (qLO t2 (qLO (qy [.s e0]) (qLO (qy p0) (qLO t3 (qLQ [.s (gS t3 0)])))))));(qLO t0 (.br (gB t0 2) (.br (ile (qm .i64 (qq e0) (qq e1)) 18) (qLO t1 (qLQ [.s (gS t1 0)])) t4) t4))):=by kernel_rfl
theorem qoU:zr [.s e0,.s e1]=(let r0:=ub [.s e0];qLO r0 (let r1:=ub [.s e1];qLO r1 (let r2:=vl [.s (gS r0 0),.s (gS r1 1)];qLO r2 (let r3:=vl [.s (gS r1 0),.s (gS r0 1)];qLO r3 (let r4:=vl [.s (gS r0 1),.s (gS r1 1)];qLO r4 (let r5:=vl [.s (gS r0 0),.s (gS r1 0)];qLO r5 (let r6:=vl [.s (gS r0 1),.s (gS r1 0)];qLO r6 (qLQ [.r [[.s (gS r2 0)],[.s (gS r3 0)],[.s (gS r4 0)],[.s (gS r5 0)],[.s (gS r6 0)]]])))))))):=by kernel_rfl
theorem qgz:q3m [.s e0,.i c1,.i c2,.r a3]=(.br (ilt c2 c1) (qLP (inb c2 (qg a3)) (qLQ [.s e0,.i c1,.i (qm .i64 c2 1),.r (qaa a3 c2 0 [.i 48])])) (.leaf (1,[.s e0,.i c1,.r a3]))):=by kernel_rfl
theorem qw0:q7o [.s e0,.i c1]=(let t0:=qf q3m [.s e0,.i c1,.i 0,.r (q2P c1 [.i 0])];let i0:Int:=(qg (gR t0 2));let i1:Int:=(wd .i64 (gI t0 1) (qq (gS t0 0)));(qLP (ieq c1 c1) (qLP (q4r c1 140737488355328) (qLO t0 (qLP (ilt 0 i0) (qLP (q4r i1 i0) (qLP (ile (qq (gS t0 0)) (qzh i0 i1)) (qLQ [.s (qnk (qyn (gR t0 2) i1 (gS t0 0)))])))))))):=by kernel_rfl
theorem qqP:q6A [.i c0,.i c1,.i c2,.b d3]=(let i0:Int:=(q2z .i64 (wd .u8 c0 48));let i1:Int:=(q2z .i64 (wd .u8 c1 48));let i2:Int:=(qm .i64 (qm .i64 i0 i1) c2);let i3:Int:=(qm .i64 48 i2);let i4:Int:=(wd .i64 (wd .i64 i0 i1) c2);let i5:Int:=(qm .i64 48 i4);(.br d3 (.br (ilt 9 i2) (qLQ [.i (q2z .u8 (wd .i64 i3 10)),.i 1]) (.br (ilt i2 0) (qLQ [.i (q2z .u8 (qm .i64 i3 10)),.i 1]) (qLQ [.i (q2z .u8 i3),.i 0]))) (.br (ilt 9 i4) (qLQ [.i (q2z .u8 (wd .i64 i5 10)),.i 1]) (.br (ilt i4 0) (qLQ [.i (q2z .u8 (qm .i64 i5 10)),.i 1]) (qLQ [.i (q2z .u8 i5),.i 0]))))):=by kernel_rfl
theorem qog:q20 [.s e0,.s e1,.b d2,.i c3,.i c4,.r a5]=(.br (ile 0 c4) (qLP (inb c4 (qq e0)) (qLP (inb c4 (qq e1)) (let r0:=q6A [.i (sat e0 c4),.i (sat e1 c4),.i c3,.b d2];qLO r0 (qLP (inb c4 (qg a5)) (qLQ [.s e0,.s e1,.b d2,.i (gI r0 1),.i (wd .i64 c4 1),.r (qaa a5 c4 0 [.i (gI r0 0)])]))))) (.leaf (1,[.r a5]))):=by kernel_rfl
theorem qsK:uh [.s e0,.s e1,.b d2]=(let i0:Int:=(qm .i64 (qoO (qq e0) (qq e1)) 1);let t0:=q7o [.s e0,.i i0];let t1:=q7o [.s e1,.i i0];let t2:=qf q20 [.s (gS t0 0),.s (gS t1 0),.b d2,.i 0,.i (wd .i64 i0 1),.r (q2P i0 [.i 0])];let t3:=uI [.s (qnk (gR t2 0))];(qLO t0 (qLO t1 (qLP (ieq i0 i0) (qLP (q4r i0 140737488355328) (qLO t2 (qLO t3 (qLQ [.s (gS t3 0)])))))))):=by kernel_rfl
theorem qvu:q4e [.s e0,.s e1]=(.br (ilt (qq e0) (qq e1)) (qLQ [.b true]) (.br (ieq (qq e0) (qq e1)) (qLQ [.b (slt e0 e1)]) (qLQ [.b false]))):=by kernel_rfl
theorem quz:q4k [.s e0,.s e1]=(let r0:=jb [.s e0,.s e1];qLO r0 (.br (gB r0 2) (let r1:=zO [.i (qm .i64 (gI r0 0) (gI r0 1))];qLO r1 (qLQ [.s (gS r1 0)])) (let r1:=qw [.s e0];qLO r1 (let r2:=qw [.s e1];qLO r2 (let r3:=qy [.s e0];qLO r3 (let r4:=qy [.s e1];qLO r4 (.br (beq (gB r3 0) (gB r4 0)) (let r5:=uh [.s (gS r1 0),.s (gS r2 0),.b true];qLO r5 (qLO r3 (let r6:=qZ [.s (gS r5 0),.b (gB r3 0)];qLO r6 (qLQ [.s (gS r6 0)])))) (let r5:=q4e [.s (gS r1 0),.s (gS r2 0)];qLO r5 (.br (gB r5 0) (let r6:=uh [.s (gS r2 0),.s (gS r1 0),.b false];qLO r6 (qLO r4 (let r7:=qZ [.s (gS r6 0),.b (gB r4 0)];qLO r7 (qLQ [.s (gS r7 0)])))) (let r6:=uh [.s (gS r1 0),.s (gS r2 0),.b false];qLO r6 (qLO r3 (let r7:=qZ [.s (gS r6 0),.b (gB r3 0)];qLO r7 (qLQ [.s (gS r7 0)]))))))))))))):=by kernel_rfl
theorem qsH:jk [.s e0,.s e1]=(let r0:=wz [.s e1];qLO r0 (let r1:=q4k [.s e0,.s (gS r0 0)];qLO r1 (qLQ [.s (gS r1 0)]))):=by kernel_rfl
theorem qjn:uc [.s e0,.s e1,.s e2,.s e3,.i c4,.i c5]=(let r0:=q4e [.s e3,.s e1];qLO r0 (.br (not (gB r0 0)) (let r1:=uh [.s e3,.s e1,.b false];qLO r1 (qLQ [.s e0,.s e1,.s e2,.s (gS r1 0),.i c4,.i (qm .u8 c5 1)])) (.leaf (1,[.s e0,.s e1,.s e2,.s e3,.i c4,.i c5])))):=by kernel_rfl
theorem qkE:q2k [.s e0,.s e1,.s e2,.s e3,.i c4]=(.br (ilt c4 (qq e0)) (qLP (q4r (qm .i64 c4 1) (qq e0)) (qLP (q4r c4 (qm .i64 c4 1)) (qLP (ile ((qq e3)+(qq (qc8 e0 c4 (qm .i64 c4 1)))) 140737488355328) (let r0:=uI [.s (qdj e3 (qc8 e0 c4 (qm .i64 c4 1)))];qLO r0 (let r1:=qf uc [.s e0,.s e1,.s e2,.s (gS r0 0),.i c4,.i 48];qLO r1 (qLP (ile ((qq (gS r1 2))+(qq (qnk [[.i (gI r1 5)]]))) 140737488355328) (qLQ [.s (gS r1 0),.s (gS r1 1),.s (qdj (gS r1 2) (qnk [[.i (gI r1 5)]])),.s (gS r1 3),.i (qm .i64 (gI r1 4) 1)]))))))) (.leaf (1,[.s e2,.s e3]))):=by kernel_rfl
theorem qom:q5i [.s e0,.s e1]=(let r0:=qf q2k [.s e0,.s e1,.s [],.s [48],.i 0];qLO r0 (let r1:=uI [.s (gS r0 0)];qLO r1 (qLQ [.s (gS r1 0),.s (gS r0 1)]))):=by kernel_rfl
theorem qq3:jd [.s e0,.s e1]=(let p0:List PV:=[.s e1];let t0:=jb ((.s e0)::p0);let i0:Int:=(gI t0 1);let i1:Int:=(qaf (gI t0 0) i0);let i2:Int:=(qm .i64 i1 i0);let t1:=zO [.i (qbe .i64 (wd .i64 (gI t0 0) i2) i0)];let t2:=zO [.i (qbe .i64 (wd .i64 (gI t0 0) i1) i0)];let t3:TR:=(qLP (ine i0 0) (qLO t2 (qLO (zO [.i i1]) (qLQ [.s (gS t2 0),.s (gS (zO [.i i1]) 0)]))));let t4:=q5i [.s (gS (qw [.s e0]) 0),.s (gS (qw p0) 0)];let t5:=qy [.s e0];let b0:Bool:=(not (beq (gB t5 0) (gB (qy p0) 0)));let t6:=qZ [.s (gS t4 0),.b b0];let t7:=jk [.s (gS t6 0),.s [49]];let t8:=vl ((.s (gS t7 0))::p0);let t9:=jk [.s e0,.s (gS t8 0)];let t10:=vl ((.s (gS t6 0))::p0);let t11:=jk [.s e0,.s (gS t10 0)];let t12:TR:=(qLO t10 (qLO t11 (qLQ [.s (gS t6 0),.s (gS t11 0)])));(qLO t0 (.br (gB t0 2) (qLP (ine i0 0) (.br (ine i1 0) (.br (not (beq (ilt i1 0) (ilt i0 0))) (qLP (ine i0 0) (qLO t1 (qLO (zO [.i i2]) (qLQ [.s (gS t1 0),.s (gS (zO [.i i2]) 0)])))) t3) t3)) (qLO (qw [.s e0]) (qLO (qw p0) (qLO t4 (qLO t5 (qLO (qy p0) (qLO t6 (.br (not (seq (gS t4 1) [48])) (qLO t5 (qLO (qy p0) (.br b0 (qLO t7 (qLO t8 (qLO t9 (qLQ [.s (gS t7 0),.s (gS t9 0)])))) t12))) t12)))))))))):=by kernel_rfl
theorem ql6:kV [.i c0,.i c1]=(.br (ilt 0 c1) (qLP (ine c1 0) (qLQ [.i c1,.i (qaf c0 c1)])) (.leaf (1,[.i c0]))):=by kernel_rfl
theorem qmR:q3F [.s e0,.s e1]=(.br (not (seq e1 [48])) (let r0:=jb [.s e0,.s e1];qLO r0 (.br (gB r0 2) (let r1:=qf kV [.i (gI r0 0),.i (gI r0 1)];qLO r1 (let r2:=zO [.i (gI r1 0)];qLO r2 (.leaf (2,[.s (gS r2 0)])))) (let r1:=jd [.s e0,.s e1];qLO r1 (qLQ [.s e1,.s (gS r1 1)])))) (.leaf (1,[.s e0]))):=by kernel_rfl
theorem qqG:q6G [.s e0,.s e1]=(let r0:=qw [.s e0];qLO r0 (let r1:=qZ [.s (gS r0 0),.b false];qLO r1 (let r2:=qw [.s e1];qLO r2 (let r3:=qZ [.s (gS r2 0),.b false];qLO r3 (let r4:=qf q3F [.s (gS r1 0),.s (gS r3 0)];qLO r4 (.br (jIs r4 0) (qLQ [.s (gS r4 0)]) (qLQ [.s (gS r4 0)]))))))):=by kernel_rfl
theorem qr6:vj [.s e0,.s e1]=(let r0:=q6G [.s e0,.s e1];qLO r0 (let r1:=qy [.s e1];qLO r1 (.br (gB r1 0) (let r2:=wz [.s (gS r0 0)];qLO r2 (let r3:=jd [.s e0,.s (gS r2 0)];qLO r3 (let r4:=jd [.s e1,.s (gS r2 0)];qLO r4 (.br (seq (gS r4 0) [49]) (qLQ [.s (gS r3 0)]) (qLP (ile ((qq (gS r3 0))+(qq [47])) 140737488355328) (qLP (ile ((qq (qdj (gS r3 0) [47]))+(qq (gS r4 0))) 140737488355328) (qLQ [.s (qdj (qdj (gS r3 0) [47]) (gS r4 0))]))))))) (let r2:=jd [.s e0,.s (gS r0 0)];qLO r2 (let r3:=jd [.s e1,.s (gS r0 0)];qLO r3 (.br (seq (gS r3 0) [49]) (qLQ [.s (gS r2 0)]) (qLP (ile ((qq (gS r2 0))+(qq [47])) 140737488355328) (qLP (ile ((qq (qdj (gS r2 0) [47]))+(qq (gS r3 0))) 140737488355328) (qLQ [.s (qdj (qdj (gS r2 0) [47]) (gS r3 0))]))))))))):=by kernel_rfl
theorem qrQ:zo [.s e0,.s e1]=(let r0:=zr [.s e0,.s e1];qLO r0 (qLP (inb 3 (qg (gR r0 0))) (qLP (inb 2 (qg (gR r0 0))) (let r1:=vj [.s (cS (gR r0 0) 3 0),.s (cS (gR r0 0) 2 0)];qLO r1 (qLQ [.s (gS r1 0)]))))):=by kernel_rfl
theorem qsY:je [.s e0,.s e1]=(let r0:=zr [.s e0,.s e1];qLO r0 (qLP (inb 0 (qg (gR r0 0))) (qLP (inb 1 (qg (gR r0 0))) (let r1:=jk [.s (cS (gR r0 0) 0 0),.s (cS (gR r0 0) 1 0)];qLO r1 (qLP (inb 2 (qg (gR r0 0))) (let r2:=vj [.s (gS r1 0),.s (cS (gR r0 0) 2 0)];qLO r2 (qLQ [.s (gS r2 0)]))))))):=by kernel_rfl
theorem q5z:yh [.r a0,.i c1,.i c2,.r a3]=(.br (ilt c2 (qg a0)) (qLP (inb c2 (qg a0)) (qLP (inb c1 (qg (cR a0 c2 0))) (.br (not (seq (cS (cR a0 c2 0) c1 0) [48])) (qLP (inb c2 (qg a0)) (qLP (inb c1 (qg a0)) (qLP (inb c1 (qg a3)) (qLP (inb c2 (qg (qaa a3 c1 0 [.l (cR a0 c2 0)]))) (.leaf (2,[.b true,.r (qaa (qaa a3 c1 0 [.l (cR a0 c2 0)]) c2 0 [.l (cR a0 c1 0)])])))))) (qLQ [.r a0,.i c1,.i (qm .i64 c2 1),.r a3])))) (.leaf (1,[]))):=by kernel_rfl
theorem qoc:q5y [.r a0,.i c1]=(qLP (ile ((qg [])+(qg a0)) 5864062014805) (let r0:=qf yh [.r a0,.i c1,.i c1,.r (zE [] a0)];qLO r0 (.br (jIs r0 0) (qLQ [.r [],.b false]) (qLQ [.r (gR r0 1),.b (gB r0 0)])))):=by kernel_rfl
theorem qzR:qhW [.s e0,.s e1]=(let r0:=zr [.s e0,.s e1];qLO r0 (qLP (inb 0 (qg (gR r0 0))) (qLP (inb 4 (qg (gR r0 0))) (let r1:=vj [.s (cS (gR r0 0) 0 0),.s (cS (gR r0 0) 4 0)];qLO r1 (qLQ [.s (gS r1 0)]))))):=by kernel_rfl
theorem quY:wj [.s e0,.s e1]=(let r0:=zr [.s e0,.s e1];qLO r0 (qLP (inb 0 (qg (gR r0 0))) (qLP (inb 1 (qg (gR r0 0))) (let r1:=q4k [.s (cS (gR r0 0) 0 0),.s (cS (gR r0 0) 1 0)];qLO r1 (qLP (inb 2 (qg (gR r0 0))) (let r2:=vj [.s (gS r1 0),.s (cS (gR r0 0) 2 0)];qLO r2 (qLQ [.s (gS r2 0)]))))))):=by kernel_rfl
theorem qfy:q29 [.r a0,.s e1,.i c2]=(.br (ilt c2 (qg a0)) (qLP (inb c2 (qg a0)) (let r0:=wj [.s e1,.s (cS a0 c2 0)];qLO r0 (qLQ [.r a0,.s (gS r0 0),.i (qm .i64 c2 1)]))) (.leaf (1,[.s e1]))):=by kernel_rfl
theorem qss:q4v [.r a0]=(let r0:=qf q29 [.r a0,.s [48],.i 0];qLO r0 (qLQ [.s (gS r0 0)])):=by kernel_rfl
theorem q99:uC [.r a0,.i c1,.i c2,.r a3,.i c4,.i c5,.i c6,.r a7]=(.br (ilt c2 (qg a0)) (qLP (inb c2 (qg a0)) (qLP (inb 0 (qg a0)) (let r0:=q7e [.i (cI a0 c2 0),.i (cI a0 c2 1),.i (cI a0 c2 2),.i (cI a0 0 0),.i (cI a0 0 1),.i (cI a0 0 2)];qLO r0 (let r1:=vr [.i c4,.i c5,.i c6,.i (gI r0 0),.i (gI r0 1),.i (gI r0 2)];qLO r1 (let r2:=zB [.i (zV .i64 2 (gI r1 0))];qLO r2 (qLP (ile ((qg a7)+(qg [[.s (gS r2 0)]])) 8796093022208) (qLQ [.r a0,.i c1,.i (qm .i64 c2 1),.r a3,.i c4,.i c5,.i c6,.r (zE a7 [[.s (gS r2 0)]])]))))))) (.leaf (1,[.r a0,.i c1,.r a3,.i c4,.i c5,.i c6,.r a7]))):=by kernel_rfl
theorem qb4:kW [.r a0,.i c1,.r a2]=(.br (ilt c1 (qg a0)) (qLP (inb c1 (qg a0)) (qLP (inb 0 (qg a0)) (let r0:=q7e [.i (cI a0 c1 0),.i (cI a0 c1 1),.i (cI a0 c1 2),.i (cI a0 0 0),.i (cI a0 0 1),.i (cI a0 0 2)];qLO r0 (let r1:=qf uC [.r a0,.i c1,.i 1,.r a2,.i (gI r0 0),.i (gI r0 1),.i (gI r0 2),.r []];qLO r1 (let r2:=vr [.i (gI r1 3),.i (gI r1 4),.i (gI r1 5),.i (gI r1 3),.i (gI r1 4),.i (gI r1 5)];qLO r2 (let r3:=zB [.i (gI r2 0)];qLO r3 (qLP (ile ((qg (gR r1 6))+(qg [[.s (gS r3 0)]])) 8796093022208) (qLP (ile ((qg (gR r1 2))+(qg [[.l (zE (gR r1 6) [[.s (gS r3 0)]])]])) 5864062014805) (qLQ [.r (gR r1 0),.i (qm .i64 (gI r1 1) 1),.r (zE (gR r1 2) [[.l (zE (gR r1 6) [[.s (gS r3 0)]])]])]))))))))) (.leaf (1,[.r a2]))):=by kernel_rfl
theorem q4S:wo [.i c0,.r a1,.i c2,.i c3,.r a4,.r a5]=(qLP (inb c2 (qg a1)) (.br (ilt c3 (qg (cR a1 c2 0))) (qLP (inb c0 (qg a1)) (qLP (inb c3 (qg (cR a1 c0 0))) (qLP (inb c0 (qg a1)) (qLP (inb c0 (qg (cR a1 c0 0))) (let r0:=qhW [.s (cS (cR a1 c0 0) c3 0),.s (cS (cR a1 c0 0) c0 0)];qLO r0 (.br (ine c2 c0) (qLP (inb c2 (qg a1)) (qLP (inb c3 (qg (cR a1 c2 0))) (qLP (inb c2 (qg a1)) (qLP (inb c0 (qg (cR a1 c2 0))) (let r1:=zo [.s (cS (cR a1 c2 0) c0 0),.s (gS r0 0)];qLO r1 (let r2:=je [.s (cS (cR a1 c2 0) c3 0),.s (gS r1 0)];qLO r2 (qLP (ile ((qg a5)+(qg [[.s (gS r2 0)]])) 8796093022208) (qLQ [.i c0,.r a1,.i c2,.i (qm .i64 c3 1),.r a4,.r (zE a5 [[.s (gS r2 0)]])])))))))) (qLP (ile ((qg a5)+(qg [[.s (gS r0 0)]])) 8796093022208) (qLQ [.i c0,.r a1,.i c2,.i (qm .i64 c3 1),.r a4,.r (zE a5 [[.s (gS r0 0)]])])))))))) (.leaf (1,[.i c0,.r a1,.i c2,.r a4,.r a5])))):=by kernel_rfl
theorem q51:vS [.i c0,.r a1,.i c2,.r a3]=(.br (ilt c2 (qg a1)) (let r0:=qf wo [.i c0,.r a1,.i c2,.i 0,.r a3,.r []];qLO r0 (qLP (ile ((qg (gR r0 3))+(qg [[.l (gR r0 4)]])) 5864062014805) (qLQ [.i (gI r0 0),.r (gR r0 1),.i (qm .i64 (gI r0 2) 1),.r (zE (gR r0 3) [[.l (gR r0 4)]])]))) (.leaf (1,[.i c0,.r a3]))):=by kernel_rfl
theorem qfI:wW [.i c0,.r a1]=(.br (ilt c0 (qg a1)) (let r0:=q5y [.r a1,.i c0];qLO r0 (.br (not (gB r0 1)) (.leaf (2,[.b false])) (let r1:=qf vS [.i c0,.r (gR r0 0),.i 0,.r []];qLO r1 (qLQ [.i (qm .i64 (gI r1 0) 1),.r (gR r1 1)])))) (.leaf (1,[.r a1]))):=by kernel_rfl
theorem q4w:vU [.i c0,.r a1,.r a2]=(.br (ilt c0 (qg a1)) (qLP (inb c0 (qg a1)) (qLP (inb (qg a1) (qg (cR a1 c0 0))) (qLP (ile ((qg a2)+(qg [[.s (cS (cR a1 c0 0) (qg a1) 0)]])) 8796093022208) (qLQ [.i (qm .i64 c0 1),.r a1,.r (zE a2 [[.s (cS (cR a1 c0 0) (qg a1) 0)]])])))) (.leaf (1,[.r a2]))):=by kernel_rfl
theorem qfl:jn [.r a0]=(let r0:=qf kW [.r a0,.i 1,.r []];qLO r0 (let r1:=qf wW [.i 0,.r (gR r0 0)];qLO r1 (.br (jIs r1 0) (let r2:=qf vU [.i 0,.r (gR r1 0),.r []];qLO r2 (let r3:=q4v [.r (gR r2 0)];qLO r3 (let r4:=je [.s [49],.s (gS r3 0)];qLO r4 (qLP (ile ((qg [[.s (gS r4 0)]])+(qg (gR r2 0))) 8796093022208) (qLQ [.r (zE [[.s (gS r4 0)]] (gR r2 0)),.b true]))))) (.br (not (gB r1 0)) (qLQ [.r [],.b false]) (let r2:=q4v [.r []];qLO r2 (let r3:=je [.s [49],.s (gS r2 0)];qLO r3 .fail)))))):=by kernel_rfl
theorem qcz:q0R [.r a0,.r a1,.i c2,.i c3,.i c4,.i c5,.i c6,.s e7,.s e8,.s e9,.s e10,.s e11,.s e12]=(.br (ilt c6 3) (qLP (inb c6 3) (.br (ieq c6 2) (qLP (inb c2 (qg a1)) (let r0:=zB [.i (qma [c3,c4,c5] c6)];qLO r0 (let r1:=zo [.s (cS a1 c2 0),.s (gS r0 0)];qLO r1 (let r2:=wj [.s e12,.s (gS r1 0)];qLO r2 (.br (ieq c6 2) (qLQ [.r a0,.r a1,.i c2,.i c3,.i c4,.i c5,.i (qm .i64 c6 1),.s e7,.s e8,.s e9,.s e10,.s e11,.s (gS r2 0)]) (.br (ieq c6 1) (qLQ [.r a0,.r a1,.i c2,.i c3,.i c4,.i c5,.i (qm .i64 c6 1),.s e7,.s e8,.s e9,.s e10,.s (gS r2 0),.s e12]) (qLP (ieq c6 0) (qLQ [.r a0,.r a1,.i c2,.i c3,.i c4,.i c5,.i (qm .i64 c6 1),.s e7,.s e8,.s e9,.s (gS r2 0),.s e11,.s e12])))))))) (.br (ieq c6 1) (qLP (inb c2 (qg a1)) (let r0:=zB [.i (qma [c3,c4,c5] c6)];qLO r0 (let r1:=zo [.s (cS a1 c2 0),.s (gS r0 0)];qLO r1 (let r2:=wj [.s e11,.s (gS r1 0)];qLO r2 (.br (ieq c6 2) (qLQ [.r a0,.r a1,.i c2,.i c3,.i c4,.i c5,.i (qm .i64 c6 1),.s e7,.s e8,.s e9,.s e10,.s e11,.s (gS r2 0)]) (.br (ieq c6 1) (qLQ [.r a0,.r a1,.i c2,.i c3,.i c4,.i c5,.i (qm .i64 c6 1),.s e7,.s e8,.s e9,.s e10,.s (gS r2 0),.s e12]) (qLP (ieq c6 0) (qLQ [.r a0,.r a1,.i c2,.i c3,.i c4,.i c5,.i (qm .i64 c6 1),.s e7,.s e8,.s e9,.s (gS r2 0),.s e11,.s e12])))))))) (qLP (ieq c6 0) (qLP (inb c2 (qg a1)) (let r0:=zB [.i (qma [c3,c4,c5] c6)];qLO r0 (let r1:=zo [.s (cS a1 c2 0),.s (gS r0 0)];qLO r1 (let r2:=wj [.s e10,.s (gS r1 0)];qLO r2 (.br (ieq c6 2) (qLQ [.r a0,.r a1,.i c2,.i c3,.i c4,.i c5,.i (qm .i64 c6 1),.s e7,.s e8,.s e9,.s e10,.s e11,.s (gS r2 0)]) (.br (ieq c6 1) (qLQ [.r a0,.r a1,.i c2,.i c3,.i c4,.i c5,.i (qm .i64 c6 1),.s e7,.s e8,.s e9,.s e10,.s (gS r2 0),.s e12]) (qLP (ieq c6 0) (qLQ [.r a0,.r a1,.i c2,.i c3,.i c4,.i c5,.i (qm .i64 c6 1),.s e7,.s e8,.s e9,.s (gS r2 0),.s e11,.s e12])))))))))))) (.leaf (1,[.r a0,.r a1,.i c2,.s e7,.s e8,.s e9,.s e10,.s e11,.s e12]))):=by kernel_rfl
theorem qcY:q0N [.r a0,.r a1,.i c2,.s e3,.s e4,.s e5,.s e6,.s e7,.s e8]=(.br (ilt c2 (qg a0)) (qLP (inb c2 (qg a0)) (qLP (inb c2 (qg a0)) (qLP (inb c2 (qg a0)) (let r0:=qf q0R [.r a0,.r a1,.i c2,.i (cI a0 c2 0),.i (cI a0 c2 1),.i (cI a0 c2 2),.i 0,.s e3,.s e4,.s e5,.s e6,.s e7,.s e8];qLO r0 (qLQ [.r (gR r0 0),.r (gR r0 1),.i (qm .i64 (gI r0 2) 1),.s (gS r0 3),.s (gS r0 4),.s (gS r0 5),.s (gS r0 6),.s (gS r0 7),.s (gS r0 8)]))))) (.leaf (1,[.s e3,.s e4,.s e5,.s e6,.s e7,.s e8]))):=by kernel_rfl
theorem qra:q6C [.r a0,.r a1]=(let r0:=qf q0N [.r a0,.r a1,.i 0,.s [],.s [],.s [],.s [48],.s [48],.s [48]];qLO r0 (qLQ [.s (gS r0 3),.s (gS r0 4),.s (gS r0 5)])):=by kernel_rfl
theorem qhl:q3e [.s e0,.i c1,.i c2,.i c3,.i c4,.s e5,.s e6,.s e7]=(let t0:=zB [.i (qma [c1,c2,c3] c4)];let p0:List PV:=[.s (gS t0 0)];let t1:=je ((.s e7)::p0);let t2:=zo [.s (gS t1 0),.s (gS t1 0)];let t3:=wj [.s e0,.s (gS t2 0)];let p1:List PV:=[.i c1,.i c2,.i c3,.i (qm .i64 c4 1),.s e5,.s e6,.s e7];let t4:=je ((.s e6)::p0);let t5:=zo [.s (gS t4 0),.s (gS t4 0)];let t6:=wj [.s e0,.s (gS t5 0)];let t7:=je ((.s e5)::p0);let t8:=zo [.s (gS t7 0),.s (gS t7 0)];let t9:=wj [.s e0,.s (gS t8 0)];(.br (ilt c4 3) (qLP (inb c4 3) (.br (ieq c4 2) (qLO t0 (qLO t1 (qLO t2 (qLO t3 (qLQ ((.s (gS t3 0))::p1)))))) (.br (ieq c4 1) (qLO t0 (qLO t4 (qLO t5 (qLO t6 (qLQ ((.s (gS t6 0))::p1)))))) (qLP (ieq c4 0) (qLO t0 (qLO t7 (qLO t8 (qLO t9 (qLQ ((.s (gS t9 0))::p1)))))))))) (.leaf (1,[.s e0])))):=by kernel_rfl
theorem quD:uJ [.s e0,.s e1,.s e2,.i c3,.i c4,.i c5]=(let r0:=qf q3e [.s [48],.i c3,.i c4,.i c5,.i 0,.s e0,.s e1,.s e2];qLO r0 (qLQ [.s (gS r0 0)])):=by kernel_rfl
theorem qlf:q0b [.r a0]=(let r0:=jn [.r a0];qLO r0 (.br (not (gB r0 1)) (qLQ [.s [],.s [],.s [],.s [],.b false]) (let r1:=q6C [.r a0,.r (gR r0 0)];qLO r1 (qLP (inb 0 (qg a0)) (let r2:=uJ [.s (gS r1 0),.s (gS r1 1),.s (gS r1 2),.i (cI a0 0 0),.i (cI a0 0 1),.i (cI a0 0 2)];qLO r2 (qLQ [.s (gS r1 0),.s (gS r1 1),.s (gS r1 2),.s (gS r2 0),.b true])))))):=by kernel_rfl
theorem qcp:q0T [.r a0,.r a1,.i c2,.r a3]=(.br (ilt c2 (qg a1)) (qLP (inb c2 (qg a1)) (qLP (inb (cI a1 c2 0) (qg a0)) (qLP (ile ((qg a3)+(qg [[.i (cI a0 (cI a1 c2 0) 0),.i (cI a0 (cI a1 c2 0) 1),.i (cI a0 (cI a1 c2 0) 2)]])) 5864062014805) (qLQ [.r a0,.r a1,.i (qm .i64 c2 1),.r (zE a3 [[.i (cI a0 (cI a1 c2 0) 0),.i (cI a0 (cI a1 c2 0) 1),.i (cI a0 (cI a1 c2 0) 2)]])])))) (.leaf (1,[.r a3]))):=by kernel_rfl
theorem qrB:q1g [.r a0,.r a1]=(let r0:=qf q0T [.r a0,.r a1,.i 0,.r []];qLO r0 (qLQ [.r (gR r0 0)])):=by kernel_rfl
theorem qrV:q2n [.s e0,.s e1]=(let r0:=jk [.s e0,.s e1];qLO r0 (.br (seq (gS r0 0) [48]) (qLQ [.i 0]) (let r1:=qy [.s (gS r0 0)];qLO r1 (.br (gB r1 0) (qLQ [.i (-1)]) (qLQ [.i 1]))))):=by kernel_rfl
theorem qrC:q15 [.s e0]=(let r0:=ub [.s e0];qLO r0 (let r1:=q2n [.s (gS r0 0),.s [48]];qLO r1 (qLQ [.i (gI r1 0)]))):=by kernel_rfl
theorem qcF:q0V [.r a0,.b d1,.i c2]=(.br (ilt c2 (qg a0)) (.br d1 (qLP (inb c2 (qg a0)) (qLO (q15 [.s (cS a0 c2 0)]) (qLQ [.r a0,.b (ile 0 (gI (q15 [.s (cS a0 c2 0)]) 0)),.i (qm .i64 c2 1)]))) (qLQ [.r a0,.b false,.i (qm .i64 c2 1)])) (.leaf (1,[.b d1]))):=by kernel_rfl
theorem qrn:q6W [.r a0]=(let r0:=jn [.r a0];qLO r0 (let r1:=qf q0V [.r (gR r0 0),.b (gB r0 1),.i 0];qLO r1 (qLQ [.b (gB r1 0)]))):=by kernel_rfl
theorem qsF:un [.s e0,.s e1]=(let r0:=zr [.s e0,.s e1];qLO r0 (qLP (inb 0 (qg (gR r0 0))) (qLP (inb 1 (qg (gR r0 0))) (let r1:=q2n [.s (cS (gR r0 0) 0 0),.s (cS (gR r0 0) 1 0)];qLO r1 (qLQ [.i (gI r1 0)]))))):=by kernel_rfl
theorem q3U:jv [.r a0,.s e1,.i c2,.s e3,.s e4,.s e5]=(.br (ilt c2 (qg a0)) (qLP (inb c2 (qg a0)) (let r0:=uJ [.s e3,.s e4,.s e5,.i (cI a0 c2 0),.i (cI a0 c2 1),.i (cI a0 c2 2)];qLO r0 (let r1:=un [.s (gS r0 0),.s e1];qLO r1 (.br (ilt 0 (gI r1 0)) (.leaf (2,[.b false])) (qLQ [.r a0,.s e1,.i (qm .i64 c2 1),.s e3,.s e4,.s e5]))))) (.leaf (1,[]))):=by kernel_rfl
theorem qmA:q3w [.r a0,.s e1,.s e2,.s e3,.s e4]=(let r0:=qf jv [.r a0,.s e4,.i 0,.s e1,.s e2,.s e3];qLO r0 (.br (jIs r0 0) (qLQ [.b true]) (qLQ [.b (gB r0 0)]))):=by kernel_rfl
theorem qdh:q3z [.r a0,.r a1]=(let r0:=q1g [.r a0,.r a1];qLO r0 (let r1:=q0b [.r (gR r0 0)];qLO r1 (.br (gB r1 4) (let r2:=q6W [.r (gR r0 0)];qLO r2 (.br (gB r2 0) (let r3:=q3w [.r a0,.s (gS r1 0),.s (gS r1 1),.s (gS r1 2),.s (gS r1 3)];qLO r3 (qLQ [.b (gB r3 0)])) (qLQ [.b false]))) (qLQ [.b false])))):=by kernel_rfl
theorem q7P:q22 [.r a0,.i c1,.i c2,.r a3,.i c4,.i c5]=(.br (ilt c5 c4) (qLP (inb c5 (qg a3)) (let r0:=q3z [.r a0,.r (cR a3 c5 0)];qLO r0 (.br (gB r0 0) (.leaf (2,[.r (cR a3 c5 0)])) (qLQ [.r a0,.i c1,.i c2,.r a3,.i c4,.i (qm .i64 c5 1)])))) (.leaf (1,[.r a0,.i c1,.i c2]))):=by kernel_rfl
theorem q7N:q1L [.r a0,.i c1,.i c2]=(.br (ile c2 c1) (let r0:=q8U [.i (qg a0),.i c2];qLO r0 (let r1:=qf q22 [.r a0,.i c1,.i c2,.r (gR r0 0),.i (qg (gR r0 0)),.i 0];qLO r1 (.br (jIs r1 0) (qLQ [.r (gR r1 0),.i (gI r1 1),.i (qm .i64 (gI r1 2) 1)]) (.leaf (2,[.r (gR r1 0)]))))) (.leaf (1,[]))):=by kernel_rfl
theorem qsi:q4K [.r a0,.i c1]=(let r0:=qf q1L [.r a0,.i c1,.i 1];qLO r0 (.br (jIs r0 0) (qLQ [.r []]) (qLQ [.r (gR r0 0)]))):=by kernel_rfl
theorem qcO:q11 [.r a0,.i c1,.r a2]=(.br (ilt c1 (qg a0)) (qLP (inb c1 (qg a0)) (qLP (inb c1 (qg a0)) (qLP (ile ((qg a2)+(qg [[.i (cI a0 c1 0),.i (cI a0 c1 1),.i 0]])) 5864062014805) (qLQ [.r a0,.i (qm .i64 c1 1),.r (zE a2 [[.i (cI a0 c1 0),.i (cI a0 c1 1),.i 0]])])))) (.leaf (1,[.r a2]))):=by kernel_rfl
theorem qpU:q6E [.r a0]=(let r0:=qf q11 [.r a0,.i 0,.r []];qLO r0 (qLQ [.r (gR r0 0)])):=by kernel_rfl
theorem qqe:q70 [.r a0]=(let r0:=qb8 [.r a0];qLO r0 (.br (ine (gI r0 0) 0) (qLQ [.s [],.s [],.s [],.r [],.i (gI r0 0)]) (let r1:=q6E [.r a0];qLO r1 (let r2:=q4K [.r (gR r1 0),.i 3];qLO r2 (qLO r1 (let r3:=q1g [.r (gR r1 0),.r (gR r2 0)];qLO r3 (let r4:=q0b [.r (gR r3 0)];qLO r4 (qLQ [.s (gS r4 0),.s (gS r4 1),.s (gS r4 3),.r (gR r2 0),.i 0])))))))):=by kernel_rfl
theorem qy0:qrL [.r a0,.i c1]=(let r0:=jf [.r a0];qLO r0 (.br (ine (gI r0 0) 0) (qLQ [.b false,.i (gI r0 0)]) (.br (ieq (qg a0) 0) (qLQ [.b false,.i 13]) (.br (ilt c1 0) (qLQ [.b false,.i 2]) (.br (ilt 100000 c1) (qLQ [.b false,.i 2]) (let r1:=q70 [.r a0];qLO r1 (let r2:=zo [.s [52],.s (gS r1 2)];qLO r2 (let r3:=zB [.i (zV .i64 c1 c1)];qLO r3 (let r4:=un [.s (gS r2 0),.s (gS r3 0)];qLO r4 (qLQ [.b (ile (gI r4 0) 0),.i 0])))))))))):=by kernel_rfl
theorem qyl:qdp [.i c0,.i c1,.i c2,.i c3]=(qLQ [.i (wd .i64 c2 c0),.i (wd .i64 c3 c1)]):=by kernel_rfl
theorem qjk:q1B [.i c0,.i c1,.i c2,.i c3]=(qLQ [.i (qm .i64 (zV .i64 c0 c2) (zV .i64 c1 c3))]):=by kernel_rfl
theorem qoa:q1S [.i c0,.i c1,.i c2,.i c3]=(let r0:=z7 [.r [[.i c0,.i c1],[.i c2,.i c3]]];qLO r0 (.br (ine (gI r0 0) 0) (qLQ [.i 0,.i (gI r0 0)]) (let r1:=qdp [.i c0,.i c1,.i c2,.i c3];qLO r1 (let r2:=q1B [.i (gI r1 0),.i (gI r1 1),.i (gI r1 0),.i (gI r1 1)];qLO r2 (qLQ [.i (gI r2 0),.i 0]))))):=by kernel_rfl
theorem q7h:vG [.r a0,.i c1,.b d2,.i c3,.r a4,.i c5,.i c6,.r a7,.i c8,.i c9,.r a10,.i c11,.i c12]=(.br (ilt c9 c8) (qLP (inb c9 (qg a7)) (let r0:=q1S [.i c11,.i c12,.i (cI a7 c9 0),.i (cI a7 c9 1)];qLO r0 (.br (ine (gI r0 1) 0) (.leaf (2,[.b false])) (qLP (ile ((qg a10)+(qg [[.i c11,.i c12,.i 0,.i (cI a7 c9 0),.i (cI a7 c9 1),.i 0]])) 2932031007402) (qLQ [.r a0,.i c1,.b d2,.i (qoO c3 (gI r0 0)),.r a4,.i c5,.i c6,.r a7,.i c8,.i (qm .i64 c9 1),.r (zE a10 [[.i c11,.i c12,.i 0,.i (cI a7 c9 0),.i (cI a7 c9 1),.i 0]]),.i c11,.i c12]))))) (.leaf (1,[.r a0,.i c1,.b d2,.i c3,.r a4,.i c5,.i c6,.r a10]))):=by kernel_rfl
theorem q7n:vK [.r a0,.i c1,.b d2,.i c3,.r a4,.i c5,.i c6,.r a7]=(.br (ilt c6 c5) (qLP (inb c6 (qg a4)) (qLP (q4r (qfN (qg a0) 7) (qg a0)) (qLP (q4r 0 (qfN (qg a0) 7)) (let r0:=qf vG [.r a0,.i c1,.b d2,.i c3,.r a4,.i c5,.i c6,.r (qpb a0 0 (qfN (qg a0) 7)),.i (qg (qpb a0 0 (qfN (qg a0) 7))),.i 0,.r a7,.i (cI a4 c6 0),.i (cI a4 c6 1)];qLO r0 (.br (jIs r0 0) (qLQ [.r (gR r0 0),.i (gI r0 1),.b (gB r0 2),.i (gI r0 3),.r (gR r0 4),.i (gI r0 5),.i (qm .i64 (gI r0 6) 1),.r (gR r0 7)]) (.leaf (2,[.b (gB r0 0)]))))))) (.leaf (1,[.i c1,.b d2,.i c3,.r a7]))):=by kernel_rfl
theorem qkX:q06 [.r a0,.i c1]=(let t0:TR:=(qLO (q2t []) (qLQ [.b (gB (q2t []) 0)]));let t1:=kI [.r a0,.i c1];let t2:TR:=(qLQ [.b false]);let t3:=qf vK [.r a0,.i c1,.b (gB t1 0),.i 0,.r a0,.i (qg a0),.i 0,.r []];let t4:=q08 [.r (gR t3 3),.i 0,.i (gI t3 0)];(qLO (q66 [.r a0]) (.br (not (gB (q66 [.r a0]) 0)) t0 (qLO (jf [.r a0]) (.br (ine (gI (jf [.r a0]) 0) 0) t0 (.br (ieq (qg a0) 0) t0 (.br (ilt c1 0) t0 (.br (ilt 100000 c1) t0 (qLO t1 (.br (ine (gI t1 1) 0) t2 (qLO t3 (.br (jIs t3 0) (.br (ilt 64 (qg (gR t3 3))) t0 (qLO t4 (.br (ine (gI t4 2) 0) t2 (.br (not (beq (gB t4 0) (ile (gI t3 2) (zV .i64 (gI t3 0) (gI t3 0))))) t2 (.br (not (gB t3 1)) t0 (.br (gB t4 0) t0 t2)))))) (qLQ [.b (gB t3 0)]))))))))))))):=by kernel_rfl
theorem qzG:q65 [.i c0]=(.br (ile (-100000) c0) (qLQ [.b (ile c0 100000)]) (qLQ [.b false])):=by kernel_rfl
theorem qsT:q8D [.i c0,.i c1]=(qLO (q65 [.i c0]) (.br (not (gB (q65 [.i c0]) 0)) (qLQ [.i 2]) (qLO (q65 [.i c1]) (.br (not (gB (q65 [.i c1]) 0)) (qLQ [.i 2]) (.br (ilt c1 c0) (qLQ [.i 9]) (qLQ [.i 0])))))):=by kernel_rfl
theorem qvq:qnL [.i c0,.i c1]=(let r0:=q8D [.i c0,.i c1];qLO r0 (.br (ine (gI r0 0) 0) (qLQ [.i (gI r0 0)]) (.br (ilt c0 0) (qLQ [.i 2]) (qLQ [.i 0])))):=by kernel_rfl
end Go.Eng

namespace Go.Eng
variable {n:Nat}
theorem qKE {α:Type}(b:Bool)(t e:Tree α):(Tree.br b t e).run=if b=true then t.run else e.run:=by cases b<;>rfl
theorem qGJ {α:Type}(a:α):(Tree.leaf a).run=some a:=rfl
theorem qFV {α:Type}:(Tree.fail:Tree α).run=none:=rfl
theorem qJ {x y:Int}(h:-9223372036854775808<=x+y/\x+y<=9223372036854775807):qm .i64 x y=x+y:=by unfold qm IntKind.wrap;simp[IntKind.signed,IntKind.bits];omega
theorem zj {x y:Int}(h:-9223372036854775808<=x-y/\x-y<=9223372036854775807):wd .i64 x y=x-y:=by unfold wd IntKind.wrap;simp[IntKind.signed,IntKind.bits];omega
theorem u4 {x y:Int}(h:-9223372036854775808<=x*y/\x*y<=9223372036854775807):zV .i64 x y=x*y:=by unfold zV IntKind.wrap;simp[IntKind.signed,IntKind.bits];omega
theorem qE4 (x y:Int):(ieq x y=true)=(x=y):=by simp[ieq]
theorem qJ3 (x y:Int):(ine x y=true)=(x≠y):=by simp[ine]
theorem qJc (x y:Int):(ilt x y=true)=(x<y):=by simp[ilt]
theorem qEe (x y:Int):(ile x y=true)=(x<=y):=by simp[ile]
theorem qIq (x y:Bool):(Go.Eng.beq x y=true)=(x=y):=by simp[Go.Eng.beq]
theorem qL0 {a b A B:Int}(h1:-A<=a)(h2:a<=A)(h3:-B<=b)(h4:b<=B):-(A*B)<=a*b/\a*b<=A*B:=by have e1:=qND (show 0<=A-a by omega) (show 0<=B-b by omega);have e2:=qND (show 0<=A+a by omega) (show 0<=B+b by omega);have e3:=qND (show 0<=A-a by omega) (show 0<=B+b by omega);have e4:=qND (show 0<=A+a by omega) (show 0<=B-b by omega);simp only[Int.sub_mul,Int.mul_sub,Int.add_mul,Int.mul_add] at e1 e2 e3 e4;omega
theorem qyU {x:Int}(h:-9223372036854775807<=x/\x<=9223372036854775807):wd .i64 0 x=-x:=by rw[zj (by omega)];omega
theorem qw5 {x:Int}(h:-9223372036854775808<=x/\x<=9223372036854775807):q2z .i64 x=x:=by unfold q2z IntKind.wrap;simp[IntKind.signed,IntKind.bits];omega
theorem qG6 (b:Bool):((!b)=true)=¬(b=true):=by cases b<;>simp
theorem qG5 (x y:Bool):(qDs x y=true)=(x=true/\y=true):=by simp[qDs]
theorem qJU (i n:Int):(inb i n=true)=(0<=i/\i<n):=by simp[inb]
theorem qHZ (i n:Int):(q4r i n=true)=(0<=i/\i<=n):=by simp[q4r]
theorem STD:(∀(α:Type) (b:Bool) (t e:Tree α),(Tree.br b t e).run=if b=true then t.run else e.run)/\(∀(α:Type) (a:α),(Tree.leaf a).run=some a)/\(∀(α:Type),(Tree.fail:Tree α).run=none) /\(∀R:TR,okR R=R.run.isSome)/\(∀(α:Type) (a:α),(some a).isSome=true)/\(∀(R:TR) (i:Nat),gI R i=(pR R i).toI)/\(∀(R:TR) (i:Nat),gB R i=(pR R i).toB)/\(∀(R:TR) (i:Nat),gS R i=(pR R i).toS)/\(∀(R:TR) (i:Nat),gR R i=(pR R i).toR) /\(∀(R:TR) (i:Nat),pR R i=R.run.elim (.i 0) fun r=>r.2.getD i (.i 0))/\(∀(α β:Type) (b:β) (f:α->β) (a:α),(some a).elim b f=f a) /\(∀(a:PV) (l:List PV) (d:PV),(a::l).getD 0 d=a)/\(∀(a:PV) (l:List PV) (d:PV) (n:Nat),(a::l).getD (n+1) d=l.getD n d) /\(∀n,(PV.i n).toI=n)/\(∀b,(PV.b b).toB=b)/\(∀s,(PV.s s).toS=s)/\(∀l,(PV.r l).toR=l) /\(∀(α:Type) (h:Decidable True) (a b:α),@ite α True h a b=a)/\(∀(α:Type) (h:Decidable False) (a b:α),@ite α False h a b=b)/\((false=true)=False)/\((true=false)=False)/\((true=true)=True) /\(∀x y,(ieq x y=true)=(x=y))/\(∀x y,(ine x y=true)=(x≠y))/\(∀x y,(ilt x y=true)=(x<y))/\(∀x y,(ile x y=true)=(x<=y))/\(∀x y,(Go.Eng.beq x y=true)=(x=y)) /\(∀x y,(qDs x y=true)=(x=true/\y=true))/\(∀b:Bool,((!b)=true)=¬(b=true))/\(∀i n,(inb i n=true)=(0<=i/\i<n))/\(∀i n,(q4r i n=true)=(0<=i/\i<=n)) /\(∀(p:Prop) (_:Decidable p),(decide p=true)=p)/\(∀(α:Type) (a b:α),(a≠b)=¬(a=b))/\(¬True)=False/\(¬False)=True:=
 ⟨fun _=>qKE,fun _=>qGJ,fun _=>qFV,fun _=>rfl,fun _ _=>rfl,fun _ _=>rfl,fun _ _=>rfl,fun _ _=>rfl,fun _ _=>rfl,fun R i=>by unfold pR;cases R.run<;>rfl,fun _ _ _ _ _=>rfl,
  fun _ _ _=>rfl,fun _ _ _ _=>rfl,fun _=>rfl,fun _=>rfl,fun _=>rfl,fun _=>rfl,fun _ _ _ _=>by simp,fun _ _ _ _=>by simp,by simp,by simp,by simp,qE4,qJ3,qJc,qEe,qIq,
  qG5,qG6,qJU,qHZ,fun _ _=>by simp,fun _ _ _=>rfl,by simp,by simp⟩
theorem zf {R:TR}{j:Nat}{ps:List PV}(h:R.run=some (j,ps))(i:Nat):(jIs R i=true)=(j=i):=by simp[jIs,jR,h]
theorem run_bind {α β:Type}(t:Tree α)(f:α->Tree β):(t.bind f).run=t.run.bind fun a=>(f a).run:=by
 induction t with
 | leaf a=>rfl
 | br b t e iht ihe=>cases b<;>simp[Tree.bind,Tree.run,iht,ihe]
 | fail=>rfl
theorem qur {S:List PV->TR}{ps qs:List PV}(h:(S ps).run=some (0,qs)):(qlZ S (n+1) ps).run=(qlZ S n qs).run:=by simp[qlZ,run_bind,h]
theorem qlG {S:List PV->TR}{n j:Nat}{ps qs:List PV}(h:(S ps).run=some (j+1,qs)):(qlZ S (n+1) ps).run=some (j,qs):=by simp[qlZ,run_bind,h,Tree.run]
def q5P{α:Type}(f:Nat->Option α):Nat->Nat->Option α
 | _,0=>none
 | i,k+1=>match f i with
  | some a=>some a
  | none=>q5P f (i+1) k
theorem qtw{S:List PV->TR}(st:Nat->List PV)(f:Nat->Option (Nat×List PV))(fin:Nat×List PV)(n:Nat)
  (h1:∀i,i<n->f i=none->(S (st i)).run=some (0,st (i+1))) (h2:∀i r,i<n->f i=some r->(S (st i)).run=some (r.1+1,r.2))
  (h3:(S (st n)).run=some (fin.1+1,fin.2)):∀(k i m:Nat),i+k=n->k<m->(qlZ S m (st i)).run=some ((q5P f i k).getD fin)
 | 0,i,m,hi,hm=>by
  obtain⟨m,rfl⟩:∃m',m=m'+1:=⟨m-1,by omega⟩;have:i=n:=by omega
  subst this;rw[qlG h3];rfl
 | k+1,i,m,hi,hm=>by
  obtain⟨m,rfl⟩:∃m',m=m'+1:=⟨m-1,by omega⟩;cases hf:f i with
  | none=>
   rw[qur (h1 i (by omega) hf),qtw st f fin n h1 h2 h3 k (i+1) m (by omega) (by omega)];simp[q5P,hf]
  | some r=>
   rw[qlG (h2 i r (by omega) hf)];simp[q5P,hf]
theorem kT {S:List PV->TR}(st:Nat->List PV)(f:Nat->Option (Nat×List PV))(fin:Nat×List PV)(n:Nat)(hn:n<9223372036854775808)(h1:∀i,i<n->f i=none->(S (st i)).run=some (0,st (i+1))) (h2:∀i r,i<n->f i=some r->(S (st i)).run=some (r.1+1,r.2))(h3:(S (st n)).run=some (fin.1+1,fin.2)):(qf S (st 0)).run=some ((q5P f 0 n).getD fin):=qtw st f fin n h1 h2 h3 n 0 qnM (by omega) (Nat.lt_trans hn (by unfold qnM;decide))
theorem qt {S:List PV->TR}(st:Nat->List PV)(fin:Nat×List PV)(n:Nat)(hn:n<9223372036854775808)(h1:∀i,i<n->(S (st i)).run=some (0,st (i+1))) (h3:(S (st n)).run=some (fin.1+1,fin.2)):(qf S (st 0)).run=some fin:=by
 have h:=kT st (fun _=>none) fin n hn (fun i hi _=>h1 i hi) (fun i r _ h=>by cases h) h3;have e:∀k i,q5P (fun _=>(none:Option (Nat×List PV))) i k=none:=by
  intro k;induction k with
  | zero=>intro i;rfl
  | succ k ih=>intro i;simp[q5P,ih]
 rw[e] at h;exact h
theorem q9i{α:Type}{f:Nat->Option α}:∀{k i:Nat},q5P f i k=none->∀j,i<=j->j<i+k->f j=none
 | 0,i,_,j,h1,h2=>by omega
 | k+1,i,h,j,h1,h2=>by
  simp only[q5P] at h;cases hf:f i with
  | some a=>rw[hf] at h;cases h
  | none=>
   rw[hf] at h;rcases qNt h1 with rfl|h1
   ·exact hf
   ·exact q9i h j h1 (by omega)
theorem qmc{α:Type}{f g:Nat->Option α}:∀{k i:Nat},(∀j,i<=j->j<i+k->f j=g j)->q5P f i k=q5P g i k
 | 0,i,_=>rfl
 | k+1,i,h=>by
  simp only[q5P];rw[h i (by omega) (by omega),qmc (fun j h1 h2=>h j (by omega) (by omega))]
theorem qB8{α β:Type}(g:α->β){f:Nat->Option α}:∀{k i:Nat},q5P (fun j=>(f j).map g) i k=(q5P f i k).map g
 | 0,i=>rfl
 | k+1,i=>by
  simp only[q5P];cases f i with
  | some a=>rfl
  | none=>exact qB8 g
theorem jo {i n:Nat}(h:i<n)(hn:n<9223372036854775808):qm .i64 (i:Int) 1=((i+1:Nat):Int):=by rw[qJ (by omega)];omega
theorem qx4 {α:Type}(n:Nat):∀i,q5P (fun _=>(none:Option α)) i n=none:=by
 induction n with
 | zero=>intro i;rfl
 | succ n ih=>intro i;simp[q5P,ih]
def pick(p:Nat->Bool):Nat->R
 | 0=>[]
 | n+1=>if p n then zE (pick p n) [[.i (n:Int)]] else pick p n
def qal(f:Nat->Int)(i:Nat):Option Int:=if f i=0 then none else some (f i)
theorem qCU {f:Nat->Int}(h:q5P (qal f) 0 n=none)(i:Nat)(hi:i<n):f i=0:=by
 have:=q9i h i (by omega) (by omega);unfold qal at this;split at this
 ·assumption
 ·cases this
theorem quU{f:Nat->Int}:∀{k i:Nat} {e:Int},q5P (qal f) i k=some e->e≠0
 | 0,i,e,h=>by cases h
 | k+1,i,e,h=>by
  simp only[q5P] at h;unfold qal at h;by_cases h0:f i=0
  ·rw[if_pos h0] at h;exact quU h
  ·rw[if_neg h0] at h;simp at h;omega
def q28(e:Nat->Int)(n:Nat):Int:=(q5P (qal e) 0 n).getD 0
theorem qdz {e:Nat->Int}(h:q28 e n=0)(i:Nat)(hi:i<n):e i=0:=by
 unfold q28 at h;cases hs:q5P (qal e) 0 n with
 | none=>exact qCU hs i hi
 | some x=>rw[hs] at h;exact absurd h (quU hs)
theorem qyk {e:Nat->Int}(h:∀i,i<n->e i=0):q28 e n=0:=by unfold q28;rw[qmc (g:=fun _=>none) (fun j _ hj=>by unfold qal;rw[if_pos (h j (by omega))]),qx4];rfl
theorem qoZ {S:List PV->TR}(st:Nat->List PV)(e:Nat->Int)(caps fin:List PV)(n:Nat)(hn:n<9223372036854775808)(h:∀i,i<n->(S (st i)).run=if e i=0 then some (0,st (i+1)) else some (2,.i (e i)::caps)) (h3:(S (st n)).run=some (1,fin)) :(qf S (st 0)).run=some (if q28 e n=0 then (0,fin) else (1,.i (q28 e n)::caps)):=by
 have key:=kT st (fun i=>(qal e i).map fun x=>(1,PV.i x::caps)) (0,fin) n hn (fun i hi hf=>by
  rw[h i hi];unfold qal at hf;split at hf
  ·rename_i h0;rw[if_pos h0]
  ·simp at hf) (fun i r hi hf=>by
  rw[h i hi];unfold qal at hf;split at hf
  ·simp at hf
  ·rename_i h0;simp at hf;rw[if_neg h0,<-hf]) h3
 rw[key,qB8];unfold q28;cases hs:q5P (qal e) 0 n with
 | none=>simp
 | some x=>simp[quU hs]
theorem qwA {l:R}{i:Nat}(h:i<l.length):(i:Int)<qg l:=by unfold qg;omega
theorem qvw (l:R):¬((l.length:Int)<qg l):=by unfold qg;omega
theorem qaK (i:Nat):(0:Int)<=(i:Int):=by omega
end Go.Eng

namespace Go.Eng
variable {n:Nat}
def dch(d:Nat):UInt8:=UInt8.ofNat (48+d)
def dv(c:UInt8):Nat:=c.toNat-48
def q5N(s:qLR):Prop:=∀c,c∈s->48<=c.toNat/\c.toNat<=57
def val(s:qLR):Nat:=s.foldl (fun a c=>10*a+dv c) 0
def tNf:Nat->Nat->List UInt8
 | 0,_=>[]
 | f+1,n=>if n<10 then [dch n] else tNf f (n/10)++[dch (n%10)]
def tN(n:Nat):List UInt8:=tNf (n+1) n
def tI(n:Int):List UInt8:=if n<0 then 45::tN n.natAbs else tN n.natAbs
theorem q1T {d:Nat}(h:d<10):(dch d).toNat=48+d:=by unfold dch;rw[UInt8.toNat_ofNat'];omega
theorem qnS {d:Nat}(h:d<10):dv (dch d)=d:=by unfold dv;rw[q1T h];omega
theorem qHI {c:UInt8}(h1:48<=c.toNat)(h2:c.toNat<=57):dch (dv c)=c:=by apply qNV.1;rw[q1T (by unfold dv;omega)];unfold dv;omega
theorem qkC (s:qLR)(c:UInt8):val (s++[c])=10*val s+dv c:=by simp[val,List.foldl_append]
theorem qqb:∀(t:qLR) (a:Nat),t.foldl (fun a c=>10*a+dv c) a=a*10^t.length+val t
 | [],a=>by simp[val]
 | c::t,a=>by
  have h1:=qqb t (10*a+dv c);have h2:=qqb t (10*0+dv c);have h3:val (c::t)=t.foldl (fun a c=>10*a+dv c) (10*0+dv c):=rfl;rw[h3,h2,qNv,h1,qMn,qNg];grind
theorem qvD (s t:qLR):val (s++t)=val s*10^t.length+val t:=by
 have h:val (s++t)=t.foldl (fun a c=>10*a+dv c) (val s):=by simp[val,List.foldl_append]
 rw[h,qqb]
theorem q5C (c:UInt8)(t:qLR):val (c::t)=dv c*10^t.length+val t:=by have:=qvD [c] t;simpa[val] using this
theorem qdX:val []=0:=rfl
theorem qzL (c:UInt8):val [c]=dv c:=by simp[val]
theorem qp7:q5N []:=fun c h=>by cases h
theorem kw {c:UInt8}{s:qLR}:q5N (c::s)↔(48<=c.toNat/\c.toNat<=57)/\q5N s:=by unfold q5N;simp
theorem q8G {s t:qLR}:q5N (s++t)↔q5N s/\q5N t:=by unfold q5N;simp only[qMi];exact⟨fun h=>⟨fun c hc=>h c (.inl hc),fun c hc=>h c (.inr hc)⟩,fun h c hc=>hc.elim (h.1 c) (h.2 c)⟩
theorem qCx {c:UInt8}(h:48<=c.toNat/\c.toNat<=57):dv c<10:=by unfold dv;omega
theorem q5X:∀{s:qLR},q5N s->val s<10^s.length
 | [],_=>by simp[val]
 | c::s,h=>by
  obtain⟨h1,h2⟩:=kw.1 h;have ih:=q5X h2;have hd:=qCx h1;rw[q5C,qMn,qNg];have:dv c*10^s.length<=9*10^s.length:=qMj _ (by omega);omega
theorem qv9 {d:Nat}(h:d<10):q5N [dch d]:=by intro c hc;simp at hc;subst hc;rw[q1T h];omega
theorem qHO:∀(f g n:Nat),n<f->n<g->tNf f n=tNf g n
 | 0,_,n,h,_=>by omega
 | _,0,n,_,h=>by omega
 | f+1,g+1,n,h1,h2=>by
  unfold tNf;by_cases h:n<10
  ·rw[if_pos h,if_pos h]
  ·rw[if_neg h,if_neg h,qHO f g (n/10) (by omega) (by omega)]
theorem qxx (h:n<10):tN n=[dch n]:=by unfold tN tNf;rw[if_pos h]
theorem qyv (h:10<=n):tN n=tN (n/10)++[dch (n%10)]:=by
 have:tN n=tNf n (n/10)++[dch (n%10)]:=by show tNf (n+1) n=_;rw[tNf,if_neg (by omega)]
 rw[this,qHO n (n/10+1) (n/10) (by omega) (by omega)];rfl
theorem qvh (n:Nat):q5N (tN n)/\tN n≠[]/\val (tN n)=n:=by
 induction n using Nat.strongRecOn with
 | _ n ih=>
  by_cases h:n<10
  ·rw[qxx h];exact⟨qv9 h,by simp,by rw[qzL,qnS h]⟩
  ·rw[qyv (by omega)];obtain⟨h1,h2,h3⟩:=ih (n/10) (by omega);refine⟨q8G.2 ⟨h1,qv9 (by omega)⟩,by simp,?_⟩;rw[qkC,h3,qnS (by omega)];omega
theorem zJ (n:Nat):q5N (tN n):=(qvh n).1
theorem qpA (n:Nat):tN n≠[]:=(qvh n).2.1
theorem kK (n:Nat):val (tN n)=n:=(qvh n).2.2
theorem qjf (n:Nat):0<(tN n).length:=qNx.2 (qpA n)
theorem q1Q:∀(k n:Nat),n<10^(k+1)->(tN n).length<=k+1
 | 0,n,h=>by rw[qxx (by simpa using h)];simp
 | k+1,n,h=>by
  by_cases h10:n<10
  ·rw[qxx h10];simp
  ·rw[qyv (by omega),qMc];have:=q1Q k (n/10) (by rw[qNg] at h;omega);simp;omega
theorem qy5:∀(k n:Nat),10^k<=n->k<(tN n).length
 | 0,n,_=>qjf n
 | k+1,n,h=>by
  have hp:0<10^k:=Nat.pow_pos (by omega);rw[qNg] at h;rw[qyv (by omega),qMc];have:=qy5 k (n/10) (by omega);simp;omega
theorem q5q {k n:Nat}(h:(tN n).length<=k):n<10^k:=by have:=q5X (zJ n);rw[kK] at this;exact qMA this (qNn (by omega) h)
def lead(s:qLR):Prop:=s.length=1\/s.getD 0 0≠48
theorem qB9 {s:qLR}(hd:q5N s)(hn:s≠[])(h:s.getD 0 0≠48):10^(s.length-1)<=val s:=by
 cases s with
 | nil=>exact absurd rfl hn
 | cons c s=>
  obtain⟨h1,h2⟩:=kw.1 hd;simp at h;have hc:1<=dv c:=by unfold dv;have:c.toNat≠48:=fun e=>h (qNV.1 (by simpa using e));omega
  rw[q5C,qMn,qO8];have:1*10^s.length<=dv c*10^s.length:=qMj _ hc;omega
theorem qHy:∀(n:Nat) {s:qLR},s.length=n+1->q5N s->lead s->tN (val s)=s
 | 0,s,hl,hd,_=>by
  match s,hl with
  | [c],_=>
   have h1:=(kw.1 hd).1;rw[qzL,qxx (qCx h1),qHI h1.1 h1.2]
 | n+1,s,hl,hd,hz=>by
  obtain⟨i,c,rfl⟩:∃i c,s=i++[c]:=⟨s.dropLast,s.getLast (by intro h;simp[h] at hl),(List.dropLast_concat_getLast _).symm⟩;have hil:i.length=n+1:=by simpa using hl
  obtain⟨h1,h2⟩:=q8G.1 hd;have hc:=(kw.1 h2).1;have hi:i≠[]:=by intro h;simp[h] at hil
  have hz0:i.getD 0 0≠48:=by
   rcases hz with hz|hz
   ·exact absurd (by simpa using hz) hi
   ·cases i with
    | nil=>exact absurd rfl hi
    | cons a i=>simpa using hz
  have hv:1<=val i:=qLW (Nat.one_le_pow _ _ (by omega)) (qB9 h1 hi hz0);have hd10:=qCx hc;rw[qkC,qyv (n:=10*val i+dv c) (by omega),show (10*val i+dv c)/10=val i by omega,show (10*val i+dv c)%10=dv c by omega,qHI hc.1 hc.2,qHy n hil h1 (.inr hz0)]
theorem qrD {s:qLR}(hd:q5N s)(hn:s≠[])(hz:lead s):s=tN (val s):=(qHy (s.length-1) (by have:=qNx.2 hn;omega) hd hz).symm
theorem qtD {m n:Nat}(h:tN m=tN n):m=n:=by rw[<-kK m,h,kK]
theorem qEw (n:Nat):lead (tN n):=by
 induction n using Nat.strongRecOn with
 | _ n ih=>
  by_cases h:n<10
  ·rw[qxx h];exact .inl rfl
  ·rw[qyv (by omega)];right;by_cases h2:n/10<10
   ·rw[qxx h2];intro e;have:(dch (n/10)).toNat=48:=by
     have e':dch (n/10)=48:=by simpa using e
     rw[e'];rfl
    rw[q1T h2] at this;omega
   ·have h3:(tN (n/10)).length≠1:=by have:=qy5 1 (n/10) (by omega);omega
    rcases ih (n/10) (by omega) with h4|h4
    ·exact absurd h4 h3
    ·cases hq:tN (n/10) with
     | nil=>exact absurd hq (qpA _)
     | cons a i=>rw[hq] at h4;simpa using h4
theorem qIs (t:qLR):slt [] t=!t.isEmpty:=by cases t<;>rfl
theorem qGu (a b:UInt8)(s t:qLR):slt (a::s) (b::t)=(decide (a<b)||(a==b&&slt s t)):=by unfold slt;simp only[Op.bytesLess]
theorem qyw:∀{s t:qLR},q5N s->q5N t->s.length=t.length->((slt s t=true)=(val s<val t))
 | [],[],_,_,_=>by simp[qIs,qdX]
 | a::s,b::t,h1,h2,hl=>by
  obtain⟨ha,hs⟩:=kw.1 h1;obtain⟨hb,ht⟩:=kw.1 h2;have hl':s.length=t.length:=by simpa using hl
  have ih:=qyw hs ht hl';have v1:=q5X hs;have v2:=q5X ht;rw[qGu,q5C,q5C,hl'];rw[hl'] at v1;have hab:(a<b)=(dv a<dv b):=by unfold dv;rw[UInt8.lt_iff_toNat_lt];simp only[eq_iff_iff];omega
  have hab2:(a=b)=(dv a=dv b):=by unfold dv;rw[<-qNV];simp only[eq_iff_iff];omega
  simp only[qNj,decide_eq_true_eq,qM7,beq_iff_eq,eq_iff_iff,ih,hab,hab2];generalize 10^t.length=p at *;generalize dv a=x at *;generalize dv b=y at *;constructor
  ·rintro (h|⟨rfl,h⟩)
   ·have:=qMj p (show x+1<=y by omega);rw[qM9] at this;omega
   ·omega
  ·intro h;rcases Nat.lt_trichotomy x y with h3|h3|h3
   ·exact .inl h3
   ·subst h3;exact .inr ⟨rfl,by omega⟩
   ·have:=qMj p (show y+1<=x by omega);rw[qM9] at this;omega
theorem uv {m n:Nat}(h:m<=n):(tN m).length<=(tN n).length:=by
 rcases qM1 (tN n).length (tN m).length with h1|h1
 ·have h2:=q5q (qLU (tN n).length);have h3:0<(tN n).length:=qjf n;have:=q1Q ((tN n).length-1) m (by rw[Nat.sub_add_cancel h3];omega);omega
 ·exact h1
theorem qzP (m n:Nat):((tN m).length<(tN n).length\/(tN m).length=(tN n).length/\slt (tN m) (tN n)=true)↔m<n:=by
 constructor
 ·rintro (h|⟨h1,h2⟩)
  ·rcases qM1 m n with h3|h3
   ·exact h3
   ·have:=uv h3;omega
  ·rw[qyw (zJ m) (zJ n) h1,kK,kK] at h2;exact h2
 ·intro h;have h1:=uv (Nat.le_of_lt h);rcases qM1 (tN m).length (tN n).length with h3|h3
  ·exact .inl h3
  ·have h4:(tN m).length=(tN n).length:=by omega
   exact .inr ⟨h4,by rw[qyw (zJ m) (zJ n) h4,kK,kK];exact h⟩
theorem qA8 (s:qLR):val (48::s)=val s:=by rw[q5C];simp[dv]
theorem qpF (n:Nat)(s:qLR):val (List.replicate n 48++s)=val s:=by
 induction n with
 | zero=>rfl
 | succ n ih=>rw[qNh,qNi,qA8,ih]
theorem qmN (n:Nat):q5N (List.replicate n 48):=by intro c hc;rw[(qO4.1 hc).2];decide
def rI(l:List Int):R:=l.map fun v=>[.i v]
theorem qfQ (l:List Int):qg (rI l)=l.length:=by simp[qg,rI]
theorem qEp (l:List Int)(i:Int):cI (rI l) i 0=l.getD i.toNat 0:=by unfold cI zy rI;simp only[qLT,qM2];cases l[i.toNat]?<;>rfl
theorem qCe (x v:U):qxN [x] 0 [v]=[v]:=rfl
theorem qxX (l:List Int)(i v:Int):qaa (rI l) i 0 [.i v]=rI (l.set i.toNat v):=by
 unfold qaa rI;apply qML;intro j;by_cases hj:j=i.toNat
 ·subst hj;by_cases hl:i.toNat<l.length
  ·simp[hl,qCe]
  ·rw[qMg (by simp;omega),qMg (by simp;omega)]
 ·rw[qLV (qMl hj),qM2,qM2,qLV (qMl hj)]
theorem qjs (n v:Int):q2P n [.i v]=rI (List.replicate n.toNat v):=by simp[q2P,rI]
theorem qJD (l:List Int):qnk (rI l)=l.map fun v=>UInt8.ofNat v.toNat:=by unfold qnk rI;rw[List.map_map];rfl
theorem qJT (l:List Int)(i:Int)(s:qLR):qyn (rI l) i s=rI (l.take i.toNat++s.map (fun c=>(c.toNat:Int))++l.drop (i.toNat+s.length)):=by unfold qyn rI;simp[List.map_take,List.map_drop]
theorem qmj (s:qLR):qnk (rI (s.map fun c=>(c.toNat:Int)))=s:=by
 rw[qJD,List.map_map];have:((fun v:Int=>UInt8.ofNat v.toNat)∘fun c:UInt8=>(c.toNat:Int))=id:=by funext c;simp
 rw[this,List.map_id]
theorem qps {s:qLR}{i:Nat}(h:i<s.length):sat s (i:Int)=(s[i].toNat:Int):=by unfold sat;simp[h]
theorem zK (s t:qLR):(seq s t=true)=(s=t):=by simp[seq]
theorem qIc {x:Int}(h:48<=x/\x<=255):wd .u8 x 48=x-48:=by unfold wd IntKind.wrap;simp[IntKind.signed,IntKind.bits];omega
theorem qtP {x:Int}(h:0<=x/\x<=255):q2z .u8 x=x:=by unfold q2z IntKind.wrap;simp[IntKind.signed,IntKind.bits];omega
theorem qp0 (a b:Nat):qaf (a:Int) (b:Int)=((a%b:Nat):Int):=by unfold qaf;rw[Int.tmod_eq_emod_of_nonneg (by omega)];rfl
theorem qAC {a b:Nat}(h:a<9223372036854775808):qbe .i64 (a:Int) (b:Int)=((a/b:Nat):Int):=by unfold qbe;rw[Int.tdiv_eq_ediv_of_nonneg (by omega)];have:(a:Int)/(b:Int)=((a/b:Nat):Int):=rfl;have h2:a/b<=a:=qNN a b;rw[this];generalize a/b=q at *;unfold IntKind.wrap;simp[IntKind.signed,IntKind.bits];omega
theorem jc {S:List PV->TR}(I Q:Nat->List PV->Prop)(hn:n<9223372036854775808)(h:∀k ps,k<=n->I k ps->(∃k' qs,k'<k/\(S ps).run=some (0,qs)/\I k' qs)\/∃j qs,(S ps).run=some (j+1,qs)/\Q j qs) {ps:List PV} (h0:I n ps):∃j qs,(qf S ps).run=some (j,qs)/\Q j qs:=by
 have key:∀m k ps,k<=n->k<m->I k ps->∃j qs,(qlZ S m ps).run=some (j,qs)/\Q j qs:=by
  intro m;induction m with
  | zero=>intro k ps _ h;omega
  | succ m ih=>
   intro k ps hk hm hI;rcases h k ps hk hI with⟨k',qs,h1,h2,h3⟩|⟨j,qs,h1,h2⟩
   ·obtain⟨j,rs,g1,g2⟩:=ih k' qs (by omega) (by omega) h3;exact⟨j,rs,by rw[qur h2];exact g1,g2⟩
   ·exact⟨j,qs,qlG h1,h2⟩
 exact key qnM n ps (qLU _) (Nat.lt_trans hn (by unfold qnM;decide)) h0
end Go.Eng

