/- Texts of the proof, merged: what the code computes, and plain laws. No statement stands here. -/
import Derived.WalkSpells
import Derived.KernelRfl
import Derived.Test.YtiohngnhjabaiaaGreatDoorProg
import Derived.Test.YtiohngnhjabaiaaGreatDoorY4
namespace Go.Eng
open Go.RowKit Go.Proofs
open Tryz
theorem qmX{n:Int}(h:-9223372036854775808<=n/\n<=9223372036854775807):wrap64 n=n:=by unfold wrap64;omega
set_option maxHeartbeats 2000000 in
set_option maxRecDepth 100000 in
theorem qKB(i k:Nat)(_:i<=1000)(hk:k<=1000)(w:World) :Calls prog 251 #[.int .i64 i,.int .i64 k] w fun e w'=>e=.returned (q03 (if i=k then [49] else [48]))/\w'=w:=by
 have hs:q03 (if i=k then [49] else [48])=if i=k then .string ⟨#[49]⟩ else .string ⟨#[48]⟩:=by split<;>rfl
 rw[hs]
 go_enter func251,ntmps251
 by_cases h:i=k
 ·subst h
  go_wp2
  go_ret
  exact⟨rfl,rfl⟩
 ·have hb:((i:Int)==(k:Int))=false:=by simp;omega
  go_wp2
  go_ret
  exact⟨rfl,rfl⟩
set_option maxHeartbeats 2000000 in
set_option maxRecDepth 100000 in
theorem qKv(b5 b1 g L cap i n:Nat)(w:World)(h5:w.cell? ⟨b5,2,none⟩=some (.slice (some ⟨g,0,none⟩) L cap))(h1:w.cell? ⟨b1,0,none⟩=some (qmG n))(hi:i<=1000)(hn:0<n)(hn2:n<=1000)(hL:(i+1)*n<=L)(hc:L<=cap) :Calls prog 211 #[.int .i64 i,.pointer (some ⟨b5,0,none⟩),.pointer (some ⟨b1,0,none⟩)] w fun e w'=>e=.returned (.slice (some ⟨g,i*n,none⟩) n (cap-i*n))/\w'=w:=by
 unfold qmG at h1;obtain⟨lo,hlo⟩:∃lo,lo=i*n:=⟨_,rfl⟩;have hm:i*n<=1000*1000:=qM6 hi hn2;have hhi:(i+1)*n=lo+n:=by rw[hlo,qLr,qMM]
 have e1:wrap64 ((i:Int)*(n:Int))=(lo:Int):=by rw[hlo,qmX (by rw[<-qLW];omega)];simp
 have e2:wrap64 (((i:Int)+1)*(n:Int))=((lo+n:Nat):Int):=by
  have:((i:Int)+1)*(n:Int)=((lo+n:Nat):Int):=by rw[<-hhi];simp
  rw[this,qmX (by omega)]
 rw[hhi] at hL;rw[<-hlo];have g1:¬cap=lo:=by omega
 clear hm hhi hlo
 go_enter func211,ntmps211
 go_wp2
 go_ret
 rw[Nat.add_sub_cancel_left];exact⟨rfl,rfl⟩
set_option maxHeartbeats 4000000 in
set_option maxRecDepth 1000000 in
theorem qE1(g:Nat)(hen:qcS prog g)(caps:Array Value)(r c:Nat)(hr:r<=16)(hc:c<=16)(F:Nat->Nat->Bs)(w:World)(hF:∀i k w',i<r->k<c->Below w.heap.size w w'->Calls prog g (#[.int .i64 i,.int .i64 k]++caps) w' fun e w''=>e=.returned (q03 (F i k))/\Below w'.heap.size w' w'') :Calls prog 206 #[.int .i64 r,.int .i64 c,.func (.func g) #[] caps] w fun e w'=>∃v,e=.returned (.agg #[.int .i64 r,.int .i64 c,v])/\Below w.heap.size w w'/\w'.ownsRow w.heap.size 32 1 v (r*c) ((mkL F c r).map q03):=by
 obtain⟨i0,hi,hz0,hz1,hz2⟩:=info_parts (show (prog.info? 32).map (fun i=>(i.zero,i.size,i.bytes))=some (some (.string ⟨#[]⟩),1,16) by kernel_rfl);obtain⟨B,hB⟩:∃B,B=w.heap.size:=⟨_,rfl⟩;have HF:=Lib.hid hF;clear hF
 go_enter func206,ntmps206
 go_wp2
 go_loopg [14] r (fun g i wr=>∃(ii:Nat) (v:Value),ii<=r/\g=r-ii/\i=.int .i64 ii/\MSt w.heap.size (w.heap.size+1) w.heap.size 208 32 w wr r c v (mkL F c ii))
 case atStart=>exact⟨0,.slice none 0 0,by omega,by omega,rfl,MSt.start w 208 32 (by decide) r c _ rfl _ rfl⟩
 case round=>
  obtain⟨ii,v,hii,rfl,rfl,hM⟩:=hrel;by_cases hlt:ii<r
  ·have HM:=Lib.hid hM;clear hM
   go_wp2
   go_loopg [18] c (fun g k wx=>∃(kk:Nat) (v:Value),kk<=c/\g=c-kk/\k=.int .i64 kk/\MSt w.heap.size (w.heap.size+1) w.heap.size 208 32 w wx r c v (mkL F c ii++(List.range kk).map (F ii)))
   case atStart=>exact⟨0,v,by omega,rfl,rfl,by simpa using HM.out⟩
   case round=>
    clear HM;obtain⟨kk,v,hkk,rfl,rfl,hM⟩:=hrel;have HM:=Lib.hid hM;by_cases hk:kk<c
    ·have c2:=hM.cell.2.2;have hW:Below w.heap.size w wr.drew:=hM.below.drew;have key:=Lib.hid (HF.out ii kk wr.drew hlt hk hW);have own:=Lib.hid hM.own;have hsz:w.heap.size<=wr.heap.size:=hM.below.size;have hl:(mkL F c ii++(List.range kk).map (F ii)).length<=1000:=by rw[qLv,qi7,qLh,qLL];have:=qM6 (show ii<=16 by omega) hc;omega
     have key2:=key.out;unfold q03 at key2;clear hM HF
     go_wp2_with fail
     go_region_law (first
      | (refine qDb rfl g caps hen (.tmp 23) #[.tmp 24,.tmp 25] #[3,3] rfl (by simp[Act.eval,Act.put]) (#[.int .i64 ii,.int .i64 kk]++caps) (by simp[Act.eval,Act.put]) (by exact key2) ?_;rintro e w2 ⟨rfl,hb2⟩;have B2:Below wr.heap.size wr w2:=(Below.refl _ wr).drew.trans hb2;have BA:Below wr.heap.size wr (w2.alloc (.cells #[.string ⟨(F ii kk).toArray⟩] 32)):=B2.alloc B2.size _;have k1:=(HM.out.grow B2 hsz).cell.2.2;have k2:=(HM.out.grow BA hsz).cell.2.2;refine⟨_,rfl,?_⟩)
      | (refine qrx rfl (.tmp 22) (.tmp 27) 87 rfl w.heap.size 32 i0 (.string ⟨#[]⟩) 1 16 underlying87 hi hz0 hz1 hz2 rfl (by decide) v _ _ (by simp[Act.eval]) (q0x own.out BA) ⟨w2.heap.size,0,none⟩ 1 1 [.string ⟨(F ii kk).toArray⟩] (by simp[Act.eval]) rfl (qEl (quX w2 _ _)) (fun u hu=>by rw[qLE.1 hu];rfl) (by unfold maxLen;omega) (by omega) (qLd hsz BA.size) ?_;intro v' w3 hown' hgrow _;obtain⟨ao,n',cap',rfl⟩:=q6H hown';obtain⟨k3,k4⟩:=(HM.out.grow BA hsz).keepCell hgrow))
     all_goals
      have MA:=Lib.hid ((HM.out.grow BA hsz).app (ys:=mkL F c ii++(List.range (kk+1)).map (F ii)) hgrow (qLd hsz BA.size) (by rw[qMk,qLy,<-qLH,qLv,qLy];exact hown'));clear k1 k2 k3 k4 c2 hown' hgrow key2
      go_wp2
      go_roundg (c-(kk+1))
      case measure=>go_light;omega
      case rel=>
       go_light
       exact⟨kk+1,_,by omega,rfl,by go_num,MA.out⟩
    ·have hkE:kk=c:=by omega
     subst kk;clear hM
     go_wp2
     go_roundg (r-(ii+1))
     case measure=>go_light;omega
     case rel=>
      go_light
      exact⟨ii+1,v,by omega,rfl,by go_num,HM.out⟩
  ·have hiE:ii=r:=by omega
   subst ii;obtain⟨ao,n',cap',rfl⟩:=q6H hM.own;have c1:=hM.cell;have c2:=hM.cellq;have f20:=hM.freeq 0;have f21:=hM.freeq 1;have f22:=hM.freeq 2;have HM:=Lib.hid hM;clear hM;unfold qmG at c1 c2;obtain⟨c11,c12,c13⟩:=c1;obtain⟨c21,c22,c23⟩:=c2
   go_wp2
   refine bodyPost_ret (by simp[results,results206,go_sem, *];try rfl) rfl ?_;obtain⟨q1,q2⟩:=HM.out.fin (qLb _) (.int .i64 r) (.int .i64 c) (.slice ao n' cap');rw[qi7] at q2;exact⟨_,rfl,q1,q2⟩
end Go.Eng

namespace Go.Eng
open Go.RowKit Go.Proofs
open Tryz
set_option maxHeartbeats 2000000 in
set_option maxRecDepth 100000 in
theorem qFR(ab ao n c:Nat)(hn:0<n)(hn2:n<=1000)(row:List Bs)(hl:row.length=n)(w:World)(hc:∀(j:Nat) x,row[j]?=some x->w.cell? ⟨ab,ao+j,none⟩=some (q03 x)) :Calls prog 94 #[.slice (some ⟨ab,ao,none⟩) n c] w fun e w'=>∃v,e=.returned v/\w'.ownsRow w.heap.size 32 1 v n (row.map q03)/\Below w.heap.size w w':=by
 obtain⟨i0,hi,hz0,hz1,hz2⟩:=info_parts (show (prog.info? 32).map (fun i=>(i.zero,i.size,i.bytes))=some (some (.string ⟨#[]⟩),1,16) by kernel_rfl);have hnil:=Lib.run_eql_slice_nil (P:=prog)
 go_enter func94,ntmps94
 have hnews:∀(j:Nat) (u:Value),(row.map q03)[j]?=some u->(w.alloc (.cells #[] 32)).cell? ((⟨ab,ao,none⟩:Addr).add j)=some u:=fun j u hu=>by
  rw[qLj] at hu;obtain⟨x,hx,rfl⟩:=qMR.1 hu;have h1:=hc j x hx;have h2:(⟨ab,ao,none⟩:Addr).add j=⟨ab,ao+j,none⟩:=by
   unfold Addr.add;split
   ·rename_i h;subst h;rfl
   ·rfl
  rw[h2,World.cell?_alloc_lt _ _ _ (qMh w _ h1)];exact h1
 clear hc
 go_wp2_with (at_builtin;refine wpList_append_own _ rfl _ _ 87 rfl w.heap.size 32 i0 (.string ⟨#[]⟩) 1 16 underlying87 hi hz0 hz1 hz2 rfl (by decide) _ 0 [] rfl (World.ownsRow_made w #[] 0 (qLb _) (by decide) rfl) ⟨ab,ao,none⟩ n c (row.map q03) rfl (by rw[qLh,hl,qMO]) hnews qzY (by unfold maxLen;omega) (by omega) (by rw[je];omega) ?_)
 intro v' w2 hown' hgrow _;obtain⟨ao',n',cap',rfl⟩:=q6H hown'
 go_wp2
 go_ret
 refine⟨_,rfl,hown',((Below.refl w.heap.size w).alloc (qLb _) (.cells #[] 32)).grown hgrow (by rw[je];omega) (fun k hk=>?_)⟩;cases hk;exact qLb _
theorem qIB(i n:Nat)(hi:i<=1000)(hn:n<=1000):wrap64 ((i:Int)*(n:Int))=((i*n:Nat):Int):=by have:=qM6 hi hn;rw[<-qLW];exact qmX ⟨by omega,by omega⟩
theorem qIt(i n:Nat)(hi:i<=1000)(hn:n<=1000):wrap64 (((i:Int)+1)*(n:Int))=((i*n+n:Nat):Int):=by
 have:=qM6 hi hn;have h:((i:Int)+1)*(n:Int)=((i*n+n:Nat):Int):=by rw[Int.add_mul,qMt,<-qLW,<-qN4]
 rw[h];exact qmX ⟨by omega,by omega⟩
noncomputable def row0(F G:Nat->Nat->Bs)(n i:Nat):List Bs:=(List.range n).map (F i)++(List.range n).map (G i)
noncomputable def qKp(B S b2 n:Nat)(vs:Value)(F G:Nat->Nat->Bs)(w0 w:World)(ii:Nat):Prop:=∃vR H,Sch B S 263 87 32 3 ii (2*n) (.int .i64 0) (.int .i64 n) w vR (.slice none 0 0) H ((List.range ii).map (row0 F G n)) [49] []/\Below B w0 w /\
 w.heap[b2]?=some (.cells #[.int .i64 n,.int .i64 n,vs] 208 (0,0))
set_option maxHeartbeats 4000000 in
set_option maxRecDepth 1000000 in
theorem qFV(n:Nat)(hn:n<=16)(F G:Nat->Nat->Bs)(vs:Value)(b5 b1:Nat)(w:World)(hv:0<n->∃ab ao cap,vs=.slice (some ⟨ab,ao,none⟩) (n*n) cap/\n*n<=cap/\∀i k,i<n->k<n->w.cell? ⟨ab,ao+(i*n+k),none⟩=some (q03 (F i k)))(ho:0<n->∃g cap,w.cell? ⟨b5,2,none⟩=some (.slice (some ⟨g,0,none⟩) (n*n) cap)/\n*n<=cap/\∀i k,i<n->k<n->w.cell? ⟨g,i*n+k,none⟩=some (q03 (G i k)))(h1:w.cell? ⟨b1,0,none⟩=some (qmG n)) :Calls prog 252 #[.agg #[.int .i64 n,.int .i64 n,vs],.func (.func 211) #[] #[.pointer (some ⟨b5,0,none⟩),.pointer (some ⟨b1,0,none⟩)]] w fun e w' => e=.returned (.pointer (some ⟨w.heap.size+1,0,none⟩))/\qKp w.heap.size (w.heap.size+1) w.heap.size n vs F G w w' n:=by
  obtain⟨i0,hi,hz0,hz1,hz2⟩:=info_parts (show (prog.info? 32).map (fun i=>(i.zero,i.size,i.bytes))=some (some (.string ⟨#[]⟩),1,16) by kernel_rfl);obtain⟨i1,hi',hy0,hy1,hy2⟩:=info_parts (show (prog.info? 87).map (fun i=>(i.zero,i.size,i.bytes))=some (some (.slice none 0 0),1,24) by kernel_rfl);have HV:=Lib.hid hv;have HO:=Lib.hid ho;clear hv ho
  go_enter func252,ntmps252
  go_wp2
  go_loopg [14] n (fun g i wr=>∃ii:Nat,ii<=n/\g=n-ii/\i=.int .i64 ii/\qKp w.heap.size (w.heap.size+1) w.heap.size n vs F G w wr ii)
  case atStart =>
    refine⟨0,by omega,by omega,rfl,.slice none 0 0,[],?_,?_,?_⟩
    · refine Sch.start (by omega) ?_ (by decide)
      rw[<-je w (.cells #[.int .i64 n,.int .i64 n,vs] 208)];exact heap_alloc_new _ _
    · exact((Below.refl w.heap.size w).alloc (qLb _) _).alloc (by rw[je];omega) _
    · exact qke w _ _
  case round =>
    obtain⟨ii,hii,rfl,rfl,hI⟩:=hrel;by_cases hlt:ii<n
    · obtain⟨vR,H,hS,hB,h2⟩:=hI
      obtain⟨ab,ao,cap,rfl,hcap,hcell⟩:=HV.out (by omega);obtain⟨lo,hlo⟩:∃lo,lo=ii*n:=⟨_,rfl⟩;have hm:ii*n<=16*16:=qM6 (by omega) hn;have hhi:(ii+1)*n=lo+n:=by rw[hlo,qLr,qMM]
      have hle:lo+n<=n*n:=by rw[<-hhi];exact qLB n hlt
      have g1:¬cap=lo:=by omega
      have g2:lo+n<=cap:=by omega
      have q1:ii<=1000:=by omega
      have q2:n<=1000:=by omega
      clear hm hhi hle;have e1:True->wrap64 ((ii:Int)*(n:Int))=(lo:Int):=fun _=>by rw[hlo];exact qIB ii n q1 q2
      have e2:True->wrap64 (((ii:Int)+1)*(n:Int))=((lo+n:Nat):Int):=fun _=>by rw[hlo];exact qIt ii n q1 q2
      have HLO:=Lib.hid hlo;clear hlo;have c2:=q6V h2;obtain⟨c20,c21,c22⟩:=c2;have keyC:=qFR ab (ao+lo) n (cap-lo) (by omega) q2 ((List.range n).map (F ii)) (by simp) wr (fun j x hx=>by
        rw[qLj] at hx;obtain⟨y,hy,rfl⟩:=qMR.1 hx;have hjn:j<n:=by have:=(qMN.1 hy).1;simpa using this
        rw[qLT hjn] at hy;cases hy;rw[qMK,HLO.out,hB.cell (p:=⟨ab,ao+(ii*n+j),none⟩) (qMh w _ (hcell ii j hlt hjn))];exact hcell ii j hlt hjn)
      obtain⟨g,capo,ho5,hcapo,hoc⟩:=HO.out (by omega);have keyI:=Lib.hid fun (W:World) (hW:Below w.heap.size w W)=>qKv b5 b1 g (n*n) capo ii n W (by rw[hW.cell (qMh w _ ho5)];exact ho5) (by rw[hW.cell (qMh w _ h1)];exact h1) q1 (by omega) q2 (qLB n hlt) hcapo;have HC:=Lib.hid hoc;have HH:=Lib.hid (And.intro hS (And.intro hB h2));clear hcell hoc ho5 hcapo hcap hS hB h2
      go_wp2_with (go_at_call 94;refine keyC.mono ?_;rintro e w1 ⟨v1,rfl,hv1,hb1⟩;obtain⟨a1,n1,cap1,rfl⟩:=q6H hv1)
      clear keyC e1 e2 g1 g2 c20 c21 c22;have hsz:=HH.out.2.1.size;have B1:Below wr.heap.size wr w1.drew:=hb1.drew;have k1:=(HH.out.1.grow B1).cell.2.1;have BW:Below w.heap.size w w1.drew:=HH.out.2.1.trans (B1.mono hsz);have key2:=keyI.out w1.drew BW;have own1:=Lib.hid (q0x hv1 (Below.refl _ w1).drew);have LT1:=Lib.hid hv1;have NEW:∀(j:Nat) (u:Value),(((List.range n).map (G ii)).map q03)[j]?=some u->w1.drew.cell? ((⟨g,ii*n,none⟩:Addr).add j)=some u:=fun j u hu=>by
        rw[qLj] at hu;obtain⟨x,hx,rfl⟩:=qMR.1 hu;rw[qLj] at hx;obtain⟨y,hy,rfl⟩:=qMR.1 hx;have hjn:j<n:=by have:=(qMN.1 hy).1;simpa using this
        rw[qLT hjn] at hy;cases hy;have h2:(⟨g,ii*n,none⟩:Addr).add j=⟨g,ii*n+j,none⟩:=by
          unfold Addr.add;split
          · rename_i h;subst h;rfl
          · rfl
        have h3:=HC.out ii j hlt hjn;rw[h2,BW.cell (qMh w _ h3)];exact h3
      clear hv1;have henI:qcS prog 211:=ud func211 (by kernel_rfl) (by kernel_rfl);have stepI:∀(o:Oper) (a:Act) (K:Act->World->Prop) (Q:Exit->Act->World->Prop),o.op=.call { callee:=.value (.tmp 36),args:=#[.tmp 37],argTypes:=#[3] } ->
          a.eval (.tmp 36)=.func (.func 211) #[] #[.pointer (some ⟨b5,0,none⟩),.pointer (some ⟨b1,0,none⟩)]->a.eval (.tmp 37)=.int .i64 ii->K (a.put o.dst (.slice (some ⟨g,ii*n,none⟩) n (capo-ii*n))) w1.drew->Oper.wp prog o a w1.drew K Q :=
        fun o a K Q q1 q2 q3 q4=>qAZ 211 _ henI (.tmp 36) _ _ q1 q2 (#[.int .i64 ii,.pointer (some ⟨b5,0,none⟩),.pointer (some ⟨b1,0,none⟩)]) (by simp[q3]) key2 (fun e w' h=>⟨_,h.1,by rw[h.2];exact q4⟩)
      have stepA:∀(o:Oper) (a:Act) (K:Act->World->Prop) (Q:Exit->Act->World->Prop),o.op=.call { callee:=.builtin .append,args:=#[.tmp 35,.tmp 38],argTypes:=#[87,87] } ->
          a.eval (.tmp 35)=.slice a1 n1 cap1->a.eval (.tmp 38)=.slice (some ⟨g,ii*n,none⟩) n (capo-ii*n) ->
          (∀a2 n2 cap2 w2,w2.ownsRow wr.heap.size 32 1 (.slice a2 n2 cap2) (2*n) ((row0 F G n ii).map q03)->Below wr.heap.size wr w2->K (a.put o.dst (.slice a2 n2 cap2)) w2)->Oper.wp prog o a w1.drew K Q :=
        fun o a K Q q1 q2 q3 q4=>wp_append_own w1.drew _ _ 87 q1 wr.heap.size 32 i0 (.string ⟨#[]⟩) 1 16 underlying87 hi hz0 hz1 hz2 rfl (by decide) _ n _ q2 own1.out ⟨g,ii*n,none⟩ n _ (((List.range n).map (G ii)).map q03) q3 (by simp) NEW qzY (by unfold maxLen;omega) (by omega) B1.size
          (fun v2 w2 h1 h2 _=>by obtain⟨a2,n2,cap2,rfl⟩:=q6H h1;refine q4 _ _ _ _ ?_ (B1.grown h2 B1.size (fun k hk=>(LT1.out.lt k hk).1));rw[Nat.two_mul];unfold row0;rw[qLy];exact h1)
      have stepB:∀(w2:World) (a2:Option Addr) (n2 cap2:Nat) (o:Oper) (a:Act) (K:Act->World->Prop) (Q:Exit->Act->World->Prop),Below wr.heap.size wr w2->o.op=.call { callee:=.builtin .append,args:=#[.tmp 34,.tmp 40],argTypes:=#[220,220] } ->
          a.eval (.tmp 34)=vR->a.eval (.tmp 40)=.slice (some ⟨w2.heap.size,0,none⟩) 1 1 ->
          (∀a3 n3 cap3 w3,w3.ownsRow w.heap.size 87 1 (.slice a3 n3 cap3) (ii+1) (H++[.slice a2 n2 cap2])->(w2.alloc (.cells #[.slice a2 n2 cap2] 87)).grownBy w3 vR.ownBlock->K (a.put o.dst (.slice a3 n3 cap3)) w3)->Oper.wp prog o a (w2.alloc (.cells #[.slice a2 n2 cap2] 87)) K Q :=
        fun w2 a2 n2 cap2 o a K Q hb q1 q2 q3 q4=>by
          have B3:Below wr.heap.size wr (w2.alloc (.cells #[.slice a2 n2 cap2] 87)):=hb.alloc hb.size _;exact wp_append_own _ _ _ 220 q1 w.heap.size 87 i1 (.slice none 0 0) 1 24 underlying220 hi' hy0 hy1 hy2 rfl (by decide) _ ii _ q2 (HH.out.1.grow B3).outer ⟨w2.heap.size,0,none⟩ 1 1 [.slice a2 n2 cap2] q3 rfl (qEl (quX w2 _ _)) (fun u hu=>by rw[qLE.1 hu];rfl) (by unfold maxLen;omega) (by omega) (qLd hsz B3.size)
            (fun v3 w3 h1 h2 _=>by obtain⟨a3,n3,cap3,rfl⟩:=q6H h1;exact q4 _ _ _ _ h1 h2)
      clear key2 NEW
      go_region_law ((try simp only[Act.put,List.setIfInBounds_toArray,qLp,qLs]);(with_reducible refine qEb rfl ?_);first
        | (with_reducible refine stepI _ _ _ _ ?_ ?_ ?_ ?_
           · with_reducible rfl
           · (first|with_reducible rfl|(simp[Act.eval];done))
           · (first|with_reducible rfl|(simp[Act.eval];done)))
        | (with_reducible refine stepA _ _ _ _ ?_ ?_ ?_ ?_
           · with_reducible rfl
           · (first|with_reducible rfl|(simp[Act.eval];done))
           · (first|with_reducible rfl|(simp[Act.eval];done))
           intro a2 n2 cap2 w2 hown2 B2;have B3:Below wr.heap.size wr (w2.alloc (.cells #[.slice a2 n2 cap2] 87)):=B2.alloc B2.size _;have k2:=(HH.out.1.grow B2).cell.2.1;have k3:=(HH.out.1.grow B3).cell.2.1)
        | (with_reducible refine stepB w2 a2 n2 cap2 _ _ _ _ B2 ?_ ?_ ?_ ?_
           · with_reducible rfl
           · (first|with_reducible rfl|(simp[Act.eval];done))
           · (first|with_reducible rfl|(simp[Act.eval];done))
           intro a3 n3 cap3 w3 hown3 hgrow3;obtain⟨k4,k5⟩:=(HH.out.1.grow B3).rowCell hgrow3)
        | fail "NONE")
      all_goals
        have SR:=(HH.out.1.grow B3).addRow (row:=row0 F G n ii) (q5j (q0x hown2 ((Below.refl _ w2).alloc (qLb _) (.cells #[.slice a2 n2 cap2] 87))) hsz) (HH.out.1.heads hown2) hgrow3 hown3;have BL:=((HH.out.2.1.trans (B3.mono hsz)).grown hgrow3 (qLd hsz B3.size) (fun k hk=>((HH.out.1.grow B3).outer.lt k hk).1)).setCell (p:=⟨w.heap.size+1,1,none⟩) (by show w.heap.size<=w.heap.size+1;omega) (.slice a3 n3 cap3);have MK:=qAY (HH.out.1.grow B3).outer (show (w2.alloc (.cells #[.slice a2 n2 cap2] 87)).heap[w.heap.size]?=_ by rw[B3.block _ (qLf.1 HH.out.2.2).1];exact HH.out.2.2) (by decide) hgrow3;have FIN:qKp w.heap.size (w.heap.size+1) w.heap.size n (.slice (some ⟨ab,ao,none⟩) (n*n) cap) F G w (w3.setCell ⟨w.heap.size+1,1,none⟩ (.slice a3 n3 cap3)) (ii+1) :=
          ⟨_,_,by rw[qMk,qLy];exact SR,BL,by rw[heap_setCell_other w3 ⟨w.heap.size+1,1,none⟩ w.heap.size _ (by show w.heap.size≠w.heap.size+1;omega)];exact MK⟩
        have FIN:=Lib.hid FIN;clear SR BL MK k1 k2 k3 k4 k5 hown2 hown3 hgrow3 B2 B3 stepI stepA stepB
        go_wp2
        go_roundg (n-(ii+1))
        case measure=>go_light;omega
        case rel =>
          go_light
          exact⟨ii+1,by omega,rfl,by go_num,FIN.out⟩
    · have hiE:ii=n:=by omega
      subst ii;have HI:=Lib.hid hI;clear hI
      go_wp2
      go_ret
      exact⟨rfl,HI.out⟩
end Go.Eng

namespace Go.Eng
open Go.RowKit Go.Proofs
open Tryz
theorem Sch.base{B B' S:Nat}{tS tR tE tI:TypeId}{N C:Nat}{ek K:Value}{w:World}{vR vL:Value}{H:List Value}{Z:Mx}{det:Bs}{lead:List Nat}(h:Sch B S tS tR tE tI N C ek K w vR vL H Z det lead)(hB:B'<=B) :Sch B' S tS tR tE tI N C ek K w vR vL H Z det lead:=⟨qLd hB h.bs,h.st,h.dim,q5j h.outer hB,fun j a r e1 e2=>q5j (h.inner j a r e1 e2) hB,q5j h.own hB,h.ap,h.ne⟩
set_option maxHeartbeats 4000000 in
set_option maxRecDepth 1000000 in
theorem qIS(ml dv sb:Op2)(gl:World->Prop)(n:Nat)(hn:n<=16)(F G:Nat->Nat->Bs)(vs:Value)(b5 b1:Nat)(w:World)(hgl:∀w',Below w.heap.size w w'->gl w')(hml:qBp prog gl 221 ml) (hdv:qBp prog gl 233 dv) (hsb:qBp prog gl 165 sb)(hv:0<n->∃ab ao cap,vs=.slice (some ⟨ab,ao,none⟩) (n*n) cap/\n*n<=cap/\∀i k,i<n->k<n->w.cell? ⟨ab,ao+(i*n+k),none⟩=some (q03 (F i k)))(ho:0<n->∃g cap,w.cell? ⟨b5,2,none⟩=some (.slice (some ⟨g,0,none⟩) (n*n) cap)/\n*n<=cap/\∀i k,i<n->k<n->w.cell? ⟨g,i*n+k,none⟩=some (q03 (G i k)))(h1:w.cell? ⟨b1,0,none⟩=some (qmG n)) (fin:RS) (hf:qwr ml dv sb n n (2*n) n ⟨(List.range n).map (row0 F G n),[49],[],0⟩=some fin) :Calls prog 210 #[.agg #[.int .i64 n,.int .i64 n,vs],.func (.func 211) #[] #[.pointer (some ⟨b5,0,none⟩),.pointer (some ⟨b1,0,none⟩)]] w fun e w'=> ∃S,e=.returned (.tuple #[.pointer (some ⟨S,0,none⟩),.int .i64 0])/\(∃vR vL H,Sch w.heap.size S 263 87 32 3 n (2*n) (.int .i64 0) (.int .i64 n) w' vR vL H fin.Z fin.det fin.lead)/\Below w.heap.size w w':=by
 have hB1:Below w.heap.size w (w.alloc (.cells #[.int .i64 n,.int .i64 n,vs] 208)):=(Below.refl w.heap.size w).alloc (qLb _) _;have keyB:=qFV n hn F G vs b5 b1 (w.alloc (.cells #[.int .i64 n,.int .i64 n,vs] 208))
  (fun h=>by obtain⟨ab,ao,cap,q1,q2,q3⟩:=hv h;exact⟨ab,ao,cap,q1,q2,fun i k hi hk=>by rw[hB1.cell (qMh w _ (q3 i k hi hk))];exact q3 i k hi hk⟩)
  (fun h=>by obtain⟨g,cap,q1,q2,q3⟩:=ho h;exact⟨g,cap,by rw[hB1.cell (qMh w _ q1)];exact q1,q2,fun i k hi hk=>by rw[hB1.cell (qMh w _ (q3 i k hi hk))];exact q3 i k hi hk⟩)
  (by rw[hB1.cell (qMh w _ h1)];exact h1)
 have HG:=Lib.hid hgl;have HF:=Lib.hid hf;clear hv ho hf hgl
 go_enter func210,ntmps210
 go_wp2_with (go_at_call 252;refine keyB.mono ?_;rintro e w1 ⟨rfl,hI⟩)
 have hs1:w.heap.size<=w.heap.size+1:=by omega
 rw[je] at hI;obtain⟨vR,H,hS,hB,_⟩:=hI;have hB2:Below w.heap.size w w1:=hB1.trans (hB.mono hs1);have keyR:=qJP w.heap.size _ n n (2*n) w1 ml dv sb gl (fun w' hw'=>HG.out w' (hB2.trans hw')) hml hdv hsb hB2.size (qLb _) (by omega) (by omega) (by omega) _ fin ⟨_,_,_,hS.base hs1,Below.refl _ _⟩ rfl rfl HF.out;refine keyR.mono ?_;rintro e w2 ⟨rfl,hR⟩;obtain⟨vR2,vL2,H2,hS2,hB3⟩:=hR;have k0:=hS2.cell.1;clear keyR keyB
 go_wp2_with fail
 go_region_with (fail)
 all_goals
  go_wp2
  refine bodyPost_ret (results_tmp2 rfl _ _ _) rfl ?_;exact⟨_,rfl,⟨_,_,_,hS2.grow (Below.refl _ _).drew⟩,hB2.trans hB3.drew⟩
noncomputable def qlC(i k:Nat):Bs:=if i=k then [49] else [48]
set_option maxHeartbeats 4000000 in
set_option maxRecDepth 1000000 in
theorem qIf(n:Nat)(hn:n<=16)(w:World) :Calls prog 209 #[.int .i64 n] w fun e w'=>∃v,e=.returned (.agg #[.int .i64 n,.int .i64 n,v])/\Below w.heap.size w w'/\w'.ownsRow w.heap.size 32 1 v (n*n) ((mkL qlC n n).map q03):=by
 have hB1:Below w.heap.size w (w.alloc (.cells #[.int .i64 0,.int .i64 0,.slice none 0 0] 208)):=(Below.refl w.heap.size w).alloc (qLb _) _;have key:=qE1 251 (ud func251 (by kernel_rfl) (by kernel_rfl)) #[] n n hn hn qlC (w.alloc (.cells #[.int .i64 0,.int .i64 0,.slice none 0 0] 208)) (fun i k w' hi hk _=>(qKB i k (by omega) (by omega) w').mono fun e w'' h=>⟨h.1,by rw[h.2];exact Below.refl _ _⟩);have hq:=heap_alloc_new w (.cells #[.int .i64 0,.int .i64 0,.slice none 0 0] 208);rw[je] at key
 go_enter func209,ntmps209
 go_wp2_with (go_at_call 206;refine key.mono ?_;rintro e w1 ⟨v,rfl,hb,ho⟩;obtain⟨ao,n1,cap,rfl⟩:=q6H ho;have hq2:w1.heap[w.heap.size]?=some (.cells #[.int .i64 0,.int .i64 0,.slice none 0 0] 208 (0,0)):=(hb.block _ (by omega)).trans hq;obtain⟨c0,c1,c2⟩:=q6V hq2;have f0:=frozen_of_row w1 w.heap.size 0 _ 208 hq2;have f1:=frozen_of_row w1 w.heap.size 1 _ 208 hq2;have f2:=frozen_of_row w1 w.heap.size 2 _ 208 hq2)
 refine bodyPost_ret (by simp[results,results209,go_sem, *];try rfl) rfl ?_;have hn0:(Value.slice ao n1 cap).ownBlock≠some w.heap.size:=fun hv=>by obtain⟨c',hc'⟩:=zn ho hv;exact qce hq2 hc' (by decide) rfl
 have hle:w.heap.size<=w.heap.size:=qLb _;exact⟨_,rfl,(((hB1.trans (hb.mono (by omega))).setCell (p:=⟨w.heap.size,0,none⟩) hle _).setCell (p:=⟨w.heap.size,1,none⟩) hle _).setCell (p:=⟨w.heap.size,2,none⟩) hle _,
  qE (qE (qE (q5j ho (by omega)) hn0 _) hn0 _) hn0 _⟩
end Go.Eng

namespace Go.Eng
open Go.RowKit Go.Proofs
open Tryz
theorem qBL{w:World}{B:Nat}{e:TypeId}{z n:Nat}{v:Value}{xs:List Value}(h:w.ownsRow B e z v n xs):∃ao cap,v=.slice ao n cap:=by
 rcases h.2 with⟨hv,h0⟩|⟨g,cap,cur,hv,_⟩
 ·exact⟨none,0,by rw[hv,h0]⟩
 ·exact⟨_,_,hv⟩
set_option maxHeartbeats 4000000 in
set_option maxRecDepth 1000000 in
theorem qKU(b6 b1 S n:Nat)(w:World){B:Nat}{vR vL:Value}{H:List Value}{Z:Mx}{det:Bs}{lead:List Nat}{ek K:Value}(h6:w.cell? ⟨b6,0,none⟩=some (.pointer (some ⟨S,0,none⟩)))(h1:w.cell? ⟨b1,1,none⟩=some (qmG n))(hS:Sch B S 263 87 32 3 n (2*n) ek K w vR vL H Z det lead) (hn:n<=16) (i k:Nat) (hi:i<n) (hk:k<n) :Calls prog 212 #[.int .i64 i,.int .i64 k,.pointer (some ⟨b6,0,none⟩),.pointer (some ⟨b1,0,none⟩)] w fun e w'=>e=.returned (q03 (q7X Z i (n+k)))/\w'=w.drew:=by
 obtain⟨O,cO,rfl,bO,ltO,rO,fO,tO⟩:=hS.rows (by omega);obtain⟨G,cG,eH,bG,ltG,zG,fG,tG⟩:=hS.head hi (by omega);have c1:=hS.cell.2.1;have c2:=rO i _ eH;have c3:=zG (n+k) (by omega);have hlt:n+k<2*n:=by omega
 generalize 2*n=C at *;have hlt2:(n:Int)+(k:Int)<(C:Int):=by omega
 have hlt3:((n:Int)+(k:Int)).toNat=n+k:=by omega
 unfold qmG at h1;unfold q03 at c3 ⊢;clear rO zG fO fG tO tG eH
 go_enter func212,ntmps212
 go_wp2_with fail
 go_big_region
 go_wp2
 go_ret
 exact⟨rfl,rfl⟩
set_option maxHeartbeats 4000000 in
set_option maxRecDepth 1000000 in
theorem qJG(ml dv sb:Op2)(gl:World->Prop)(n:Nat)(hn:n<=16)(F:Nat->Nat->Bs)(vs:Value)(w:World)(hgl:∀w',Below w.heap.size w w'->gl w')(hml:qBp prog gl 221 ml) (hdv:qBp prog gl 233 dv) (hsb:qBp prog gl 165 sb)(hck:∀w',Below w.heap.size w w'->Calls prog 208 #[.agg #[.int .i64 n,.int .i64 n,vs]] w' fun e w''=>e=.returned (.int .i64 0)/\Below w'.heap.size w' w'')(hv:0<n->∃ab ao cap,vs=.slice (some ⟨ab,ao,none⟩) (n*n) cap/\n*n<=cap/\∀i k,i<n->k<n->w.cell? ⟨ab,ao+(i*n+k),none⟩=some (q03 (F i k)))(fin:RS) (hf:qwr ml dv sb n n (2*n) n ⟨(List.range n).map (row0 F qlC n),[49],[],0⟩=some fin) (hvs:∃a l c,vs=.slice a l c) :Calls prog 162 #[.agg #[.int .i64 n,.int .i64 n,vs]] w fun e w'=>Below w.heap.size w w' /\((fin.lead.length < n /\ e = .returned (.tuple #[.agg #[.int .i64 0, .int .i64 0, .slice none 0 0], .int .i64 14])) \/(n<=fin.lead.length/\∃v,e=.returned (.tuple #[.agg #[.int .i64 n,.int .i64 n,v],.int .i64 0])/\w'.ownsRow w.heap.size 32 1 v (n*n) ((mkL (fun i k=>q7X fin.Z i (n+k)) n n).map q03))):=by
  obtain⟨a0,l0,c0,rfl⟩:=hvs;obtain⟨W0,hW0⟩:∃W0,W0=(w.alloc (.cells #[.int .i64 n,.int .i64 n,.slice a0 l0 c0] 208)).alloc (.cells #[.int .i64 0,.int .i64 0,.slice none 0 0] 208):=⟨_,rfl⟩;have hb0:Below w.heap.size w W0:=by rw[hW0];exact((Below.refl w.heap.size w).alloc (qLb _) _).alloc (by rw[je];omega) _
  have h1:W0.heap[w.heap.size]?=some (.cells #[.int .i64 n,.int .i64 n,.slice a0 l0 c0] 208 (0,0)):=by rw[hW0];exact qke w _ _
  have h2:W0.heap[w.heap.size+1]?=some (.cells #[.int .i64 0,.int .i64 0,.slice none 0 0] 208 (0,0)):=by rw[hW0,<-je w (.cells #[.int .i64 n,.int .i64 n,.slice a0 l0 c0] 208)];exact heap_alloc_new _ _
  have hs0:W0.heap.size=w.heap.size+1+1:=by rw[hW0,je,je]
  have keyC:=hck W0 hb0;obtain⟨c10,c11,c12⟩:=q6V h1;have HV:=Lib.hid hv;have HF:=Lib.hid hf;have HG:=Lib.hid hgl;clear hv hf hgl hck
  go_enter func162,ntmps162
  go_wp2_with fail
  rw[<-hW0];refine keyC.mono ?_;rintro e w1 ⟨rfl,hb1⟩;have B1:Below w.heap.size w w1:=hb0.trans (hb1.mono hb0.size);have g1:=(hb1.block _ (qLf.1 h1).1).trans h1;have g2:=(hb1.block _ (qLf.1 h2).1).trans h2;have hs1:w.heap.size+1+1<=w1.heap.size:=by have:=hb1.size;omega
  clear keyC h1 h2 c10 c11 c12 hW0 hb0 hb1 hs0;clear W0;obtain⟨c10,c11,c12⟩:=q6V g1
  go_wp2_with fail
  refine(qIf n hn w1).mono ?_;rintro e w2 ⟨vo,rfl,hb2,hou⟩;obtain⟨ao,no,co,rfl⟩:=q6H hou;have B2:Below w.heap.size w w2:=B1.trans (hb2.mono B1.size);have k1:=(hb2.block _ (qLf.1 g1).1).trans g1;have k2:=(hb2.block _ (qLf.1 g2).1).trans g2;have hs2:w.heap.size+1+1<=w2.heap.size:=by have:=hb2.size;omega
  clear g1 g2 c10 c11 c12;obtain⟨c10,c11,c12⟩:=q6V k1;have HU:=Lib.hid hou;clear hou hb2;have B3:Below w2.heap.size w2 (w2.alloc (.cells #[.int .i64 n,.int .i64 n,.slice ao no co] 208)):=(Below.refl _ w2).alloc (qLb _) _;have l1:=(B3.block _ (qLf.1 k1).1).trans k1;have l2:=(B3.block _ (qLf.1 k2).1).trans k2;obtain⟨d10,d11,d12⟩:=q6V l1
  go_wp2_with fail
  obtain⟨W3,hW3⟩:∃W3,W3=w2.alloc (.cells #[.int .i64 n,.int .i64 n,.slice ao no co] 208):=⟨_,rfl⟩;have m5:W3.heap[w2.heap.size]?=some (.cells #[.int .i64 n,.int .i64 n,.slice ao no co] 208 (0,0)):=by rw[hW3];exact heap_alloc_new _ _
  have hs3:W3.heap.size=w2.heap.size+1:=by rw[hW3,je]
  rw[<-hW3] at B3 l1 l2 d10 d11 d12 ⊢;clear hW3 c10 c11 c12;have B13:Below w.heap.size w W3:=B2.trans (B3.mono B2.size);have keyE:=qIS ml dv sb gl n hn F qlC (.slice a0 l0 c0) w2.heap.size w.heap.size W3 (fun w' hw'=>HG.out w' (B13.trans (hw'.mono B13.size))) hml hdv hsb
    (fun h=>by obtain⟨ab,ao,cap,q1,q2,q3⟩:=HV.out h;exact⟨ab,ao,cap,q1,q2,fun i k hi hk=>by rw[B13.cell (qMh w _ (q3 i k hi hk))];exact q3 i k hi hk⟩)
    (fun h=>by
      have ho3:=q0x HU.out B3;obtain⟨g,c,q1,_,_,_⟩:=qfJ ho3 (Nat.mul_pos h h);have hcap:n*n<=c:=by
        rcases ho3.2 with⟨z,_⟩|⟨g',cap',cur,z,_,_,z2,_⟩
        · rw[q1] at z;cases z
        · rw[q1] at z;cases z;exact z2
      refine⟨g,c,by rw[<-q1];exact(q6V m5).2.2,hcap,fun i k hi hk=>?_⟩;rw[q1] at ho3;have hik:i*n+k<n*n:=by have:=qLB n (show i+1<=n by omega);rw[qLr] at this;omega
      rw[ho3.cellAt (i*n+k) (by omega),qLj,qym qlC n n i k hi hk];rfl)
    d10 fin HF.out
  refine keyE.mono ?_;rintro e w4 ⟨S,rfl,⟨vR,vL,H,hS⟩,hb4⟩;have B4:Below w.heap.size w w4:=B13.trans (hb4.mono B13.size);have k1:=(hb4.block _ (qLf.1 l1).1).trans l1;have k2:=(hb4.block _ (qLf.1 l2).1).trans l2;have hs4:w2.heap.size+1<=w4.heap.size:=by have:=hb4.size;omega
  have B5:Below w4.heap.size w4 (w4.alloc (.cells #[.pointer (some ⟨S,0,none⟩)] 256)):=(Below.refl _ w4).alloc (qLb _) _;have HS:=Lib.hid (hS.grow B5);have l1:=(B5.block _ (qLf.1 k1).1).trans k1;have l2:=(B5.block _ (qLf.1 k2).1).trans k2;clear keyE HU HV HF HG hS k1 k2 d10 d11 d12 m5;obtain⟨vl0,vlc,rfl⟩:=qBL HS.out.own;obtain⟨d10,d11,d12⟩:=q6V l1;have s3:=HS.out.cell.2.2.2.1
  go_wp2_with fail
  go_big_region
  have B6:Below w4.heap.size w4 (w4.alloc (.cells #[.pointer (some ⟨S,0,none⟩)] 256)).drew:=B5.drew;have n6:=quX w4 (.pointer (some ⟨S,0,none⟩)) 256;have SZ:(w4.alloc (.cells #[.pointer (some ⟨S,0,none⟩)] 256)).heap.size=w4.heap.size+1:=je _ _;obtain⟨W6,hW6⟩:∃W6,W6=(w4.alloc (.cells #[.pointer (some ⟨S,0,none⟩)] 256)).drew:=⟨_,rfl⟩;have l1:W6.heap[w.heap.size]?=some (.cells #[.int .i64 n,.int .i64 n,.slice a0 l0 c0] 208 (0,0)):=by rw[hW6];exact l1
  have l2:W6.heap[w.heap.size+1]?=some (.cells #[.int .i64 0,.int .i64 0,.slice none 0 0] 208 (0,0)):=by rw[hW6];exact l2
  have n6:W6.cell? ⟨w4.heap.size,0,none⟩=some (.pointer (some ⟨S,0,none⟩)):=by rw[hW6];exact n6
  have SZ:W6.heap.size=w4.heap.size+1:=by rw[hW6];exact SZ
  have HS:=Lib.hid (HS.out.grow (Below.refl _ _).drew);rw[<-hW6] at B6 HS ⊢;clear hW6 B5 d10 d11 d12 s3;have B7:Below w.heap.size w W6:=B4.trans (B6.mono B4.size);obtain⟨d10,d11,d12⟩:=q6V l1;obtain⟨d20,d21,d22⟩:=q6V l2;have f20:=frozen_of_row W6 (w.heap.size+1) 0 _ 208 l2;have f21:=frozen_of_row W6 (w.heap.size+1) 1 _ 208 l2;have f22:=frozen_of_row W6 (w.heap.size+1) 2 _ 208 l2;have hle:w.heap.size<=w.heap.size+1:=by omega
  by_cases hl:fin.lead.length<n
  · have hl2:((fin.lead.length:Int)<(n:Int)):=by omega
    go_wp2_with fail
    refine bodyPost_ret (by simp[results,results162,go_sem, *];try rfl) rfl ?_;exact⟨((B7.setCell (p:=⟨w.heap.size+1,0,none⟩) hle _).setCell (p:=⟨w.heap.size+1,1,none⟩) hle _).setCell (p:=⟨w.heap.size+1,2,none⟩) hle _,.inl ⟨hl,rfl⟩⟩
  · have hl2:¬((fin.lead.length:Int)<(n:Int)):=by omega
    have keyM:=qE1 212 (ud func212 (by kernel_rfl) (by kernel_rfl)) #[.pointer (some ⟨w4.heap.size,0,none⟩),.pointer (some ⟨w.heap.size,0,none⟩)] n n hn hn (fun i k=>q7X fin.Z i (n+k)) W6 (fun i k w' hi hk hb =>
      (qKU w4.heap.size w.heap.size S n w' (by rw[hb.cell (qMh W6 _ n6)];exact n6) (by rw[hb.cell (qMh W6 _ d11)];exact d11) (HS.out.grow hb) hn i k hi hk).mono
        fun e w'' h=>⟨h.1,by rw[h.2];exact(Below.refl _ _).drew⟩)
    go_wp2_with fail
    refine keyM.mono ?_;rintro e w7 ⟨v,rfl,hb7,ho7⟩;obtain⟨a7,n7,c7,rfl⟩:=q6H ho7;have q2:=(hb7.block _ (qLf.1 l2).1).trans l2;obtain⟨e20,e21,e22⟩:=q6V q2;have f20:=frozen_of_row w7 (w.heap.size+1) 0 _ 208 q2;have f21:=frozen_of_row w7 (w.heap.size+1) 1 _ 208 q2;have f22:=frozen_of_row w7 (w.heap.size+1) 2 _ 208 q2;clear keyM d10 d11 d12 d20 d21 d22
    go_wp2_with fail
    refine bodyPost_ret (by simp[results,results162,go_sem, *];try rfl) rfl ?_;have hn0:(Value.slice a7 n7 c7).ownBlock≠some (w.heap.size+1):=fun hv=>by obtain⟨c',hc'⟩:=zn ho7 hv;exact qce q2 hc' (by decide) rfl
    exact⟨(((B7.trans (hb7.mono B7.size)).setCell (p:=⟨w.heap.size+1,0,none⟩) hle _).setCell (p:=⟨w.heap.size+1,1,none⟩) hle _).setCell (p:=⟨w.heap.size+1,2,none⟩) hle _,
      .inr ⟨by omega,_,rfl,qE (qE (qE (q5j ho7 B7.size) hn0 _) hn0 _) hn0 _⟩⟩
end Go.Eng

namespace Go.Eng
open Go.RowKit Go.Proofs
open Tryz
noncomputable def qIN(t:TR):Bool:=match t.run with
 | some (0,[.i e])=>decide (e=0)
 | _=>false
theorem qFN{t:TR}(h:qIN t=true):t.run=some (0,[.i 0]):=by
 unfold qIN at h;split at h
 ·rename_i e he;have:e=0:=by simpa using h
  subst this;exact he
 ·cases h
noncomputable def qIQ(ck ml dv sb:List PV->TR):List PV->TR
 | [.i r,.i c,.r l]=>if r=c/\0<=r/\r<=16/\l.length=r.toNat*r.toNat/\qIN (ck [.i r,.i c,.r l])=true then
   (match qwr (opF ml) (opF dv) (opF sb) r.toNat r.toNat (2*r.toNat) r.toNat ⟨(List.range r.toNat).map (row0 (fun i k=>cS l ((i*r.toNat+k:Nat):Int) 0) qlC r.toNat),[49],[],0⟩ with
   | some fin=>if fin.lead.length<r.toNat then .leaf (0,[.i 0,.i 0,.r [],.i 14]) else .leaf (0,[.i r,.i r,.r ((mkL (fun i k=>q7X fin.Z i (r.toNat+k)) r.toNat r.toNat).map fun x=>[.s x]),.i 0])
   | none=>.fail) else .fail
 | _=>.fail
theorem qFh{ps:List PV}(h:ps.map PV.kind=[.i,.i,.r]):∃a b c,ps=[.i a,.i b,.r c]:=by
 match ps,h with
 | [.i a,.i b,.r c],_=>exact⟨a,b,c,rfl⟩
theorem qGE{T:List PV->TR}{a b:Int}{l:R}(h:(T [.i a,.i b,.r l]).run=some (0,[.i 0])) :(q9 ⟨[.agg [.int .i64,.int .i64,.imm [.str]]],[]⟩ [⟨.int .i64,[],none⟩] T [.agg [.int .i64 a,.int .i64 b,.imm [.str] l]] []).run=some (.int .i64 0,[]):=by unfold q9;have ht:(FIn.mk [.agg [.int .i64,.int .i64,.imm [.str]]] []).take [.agg [.int .i64 a,.int .i64 b,.imm [.str] l]] []=some [.i a,.i b,.r l]:=rfl;rw[ht];simp only[Tree.run,okR,h,qNs];simp[qCw,FOut.kinds,AP.kinds,BP.kindsL,qmy,gI,pR,h,PV.toI,FOut.make,AP.make,BP.makeL,Tree.run]
theorem qCc{w:World}{B:Nat}{e:TypeId}{M:Nat->Prop}{v:Value}{n:Nat}{xs:List Bs}(h:w.ownsRow B e 1 v n (xs.map q03))(hM:∀b,v.ownBlock=some b->M b):qfW w M [.str] (xs.map fun x=>[U.s x]) v:=by
 have hl:xs.length=n:=by have:=h.1;rw[qLh] at this;omega
 rcases h.2 with⟨rfl,h0⟩|⟨g,cap,cur,rfl,_,_,hc,_⟩
 ·exact .inl ⟨rfl,qMI (by rw[qLh];omega)⟩
 ·refine .inr ⟨⟨g,0,none⟩,cap,by rw[qLh,hl],fun _=>rfl,by rw[qLh,hl];exact hc,fun r j hj hr=>?_⟩;have hj0:j=0:=by simp at hj;exact hj
  subst hj0;rw[qLh] at hr;refine⟨hM g rfl,q03 xs[r],?_,?_⟩
  ·have:=h.cellAt r (by omega);rw[qLj,qLg hr] at this;simpa using this
  ·have:RepU w M .str (U.s xs[r]) (q03 xs[r]):=.str (U.s xs[r]);have e:zI (xs.map fun x=>[U.s x]) (r:Int) 0=U.s xs[r]:=by simp[zI,hr]
   rw[e];exact this
theorem qG0{X:Ctx}{a b:Int}{l:R}{vargs:List Value}(h:RepL X [.agg [.int .i64 a,.int .i64 b,.imm [.str] l]] vargs):∃v,vargs=[.agg #[.int .i64 a,.int .i64 b,v]]/\qfW X.w X.M [.str] l v:=by
 cases h with
 | cons h1 t=>
  cases t;cases h1 with
  | agg _ vs h2=>
   cases h2 with
   | cons q1 t1=>
    cases q1;cases t1 with
    | cons q2 t2=>
     cases q2;cases t2 with
     | cons q3 t3=>
      cases t3;cases q3 with
      | imm _ _ _ hv=>exact⟨_,rfl,hv⟩
theorem qCo{gl:List (Nat×AV)}{ck ml dv sb:List PV->TR}(hck:qJ prog gl 208 (q9 ⟨[.agg [.int .i64,.int .i64,.imm [.str]]],[]⟩ [⟨.int .i64,[],none⟩] ck))(hml:qJ prog gl 221 (q9 ⟨[.str,.str],[]⟩ [⟨.tuple [.str,.int .i64],[],none⟩] ml)) (hdv:qJ prog gl 233 (q9 ⟨[.str,.str],[]⟩ [⟨.tuple [.str,.int .i64],[],none⟩] dv))(hsb:qJ prog gl 165 (q9 ⟨[.str,.str],[]⟩ [⟨.tuple [.str,.int .i64],[],none⟩] sb)) :qJ prog gl 162 (q9 ⟨[.agg [.int .i64,.int .i64,.imm [.str]]],[]⟩ [⟨.tuple [.agg [.int .i64,.int .i64,.imm [.str]],.int .i64],[],none⟩] (qIQ ck ml dv sb)):=by
 refine qDN (ud func162 (by kernel_rfl) (by kernel_rfl)) rfl fun B X ps j qs vargs hs hgl hX ha hk hT=>?_;obtain⟨r,c,l,rfl⟩:=qFh hk;have ha:RepL X [.agg [.int .i64 r,.int .i64 c,.imm [.str] l]] vargs:=ha;simp only[qIQ] at hT;split at hT
 ·rename_i hc;obtain⟨rfl,hr0,hr16,hl,hok⟩:=hc;obtain⟨n,rfl⟩:∃n:Nat,r=(n:Int):=⟨r.toNat,by omega⟩;rw[qLk] at hT hl;split at hT
  ·rename_i fin hf;obtain⟨v,rfl,hv⟩:=qG0 ha;have hgY:∀w',Below X.w.heap.size X.w w'->q44 gl (qGI w' X.y):=fun w' hb=>qKL hs hX hgl hb;have op:∀{f:FuncId} {T:List PV->TR},qJ prog gl f (q9 ⟨[.str,.str],[]⟩ [⟨.tuple [.str,.int .i64],[],none⟩] T)->qBp prog (fun w'=>Below X.w.heap.size X.w w') f (opF T):=
    fun hT w' hb a b r h=>qFj hT (hgY w' hb) h
   have key:=qJG (opF ml) (opF dv) (opF sb) (fun w'=>Below X.w.heap.size X.w w') n (by omega) (fun i k=>cS l ((i*n+k:Nat):Int) 0) v X.w (fun _ h=>h) (op hml) (op hdv) (op hsb)
    (fun w' hb=>by
     have m:=qJ8 hs hX hb;refine(qxs hck (hgY w' hb) (args:=[.agg [.int .i64 n,.int .i64 n,.imm [.str] l]]) (vargs:=[.agg #[.int .i64 n,.int .i64 n,v]]) ?_ (qGE (qFN hok))).mono ?_
     ·exact ha.ext0 m
     ·rintro e w'' ⟨u,X',rfl,rfl,hu,_,_,hb'⟩;cases hu;exact⟨rfl,hb'⟩)
    (fun hn=>by
     rcases hv with⟨_,h0⟩|⟨a,cap,rfl,hsp,hcap,hrows⟩
     ·rw[h0] at hl;have:=Nat.mul_pos hn hn;simp at hl;omega
     ·have hpos:0<l.length:=by rw[hl];exact Nat.mul_pos hn hn
      obtain⟨ab,ao,sp⟩:=a;have:sp=none:=hsp hpos;subst this;refine⟨ab,ao,cap,by rw[hl],by omega,fun i k hi hk=>?_⟩;have hik:i*n+k<l.length:=by have:=qLB n (show i+1<=n by omega);rw[qLr] at this;omega
      obtain⟨_,u,q1,q2⟩:=hrows (i*n+k) 0 (by simp) hik;cases q2;simp only[List.length_singleton,qMO,qM3] at q1;rw[q1];rfl)
    fin hf (by
     rcases hv with⟨rfl,_⟩|⟨a,cap,rfl,_⟩
     ·exact⟨_,_,_,rfl⟩
     ·exact⟨_,_,_,rfl⟩)
   split at hT
   ·rename_i hlt;cases hT;refine⟨rfl,rfl,key.mono ?_⟩;rintro e w' ⟨hb,⟨_,rfl⟩|⟨h,_⟩⟩
    ·refine⟨_,X.M,rfl,hb,fun _ h=>h,fun _ h=>.inl h,?_⟩;exact .tuple _ [_,_] (.cons (.agg _ [_,_,_] (.cons (.int _ _) (.cons (.int _ _) (.cons (.imm _ _ _ (.inl ⟨rfl,rfl⟩)) .nil)))) (.cons (.int _ _) .nil))
    ·omega
   ·rename_i hge;cases hT;refine⟨rfl,rfl,key.mono ?_⟩;rintro e w' ⟨hb,⟨h,_⟩|⟨_,u,rfl,ho⟩⟩
    ·exact absurd h hge
    ·refine⟨_,fun m=>X.M m\/u.ownBlock=some m,rfl,hb,fun _ h=>.inl h,fun m h=>?_,?_⟩
     ·rcases h with h|h
      ·exact .inl h
      ·exact .inr (ho.lt m h)
     ·exact .tuple _ [_,_] (.cons (.agg _ [_,_,_] (.cons (.int _ _) (.cons (.int _ _) (.cons (.imm _ _ _ (qCc ho fun b hb=>.inr hb)) .nil)))) (.cons (.int _ _) .nil))
  ·cases hT
 ·cases hT
end Go.Eng

namespace Go.Eng
open Go.Proofs
open Tryz
noncomputable def qd4:List (TypeId×TI):=[(1,(.mk .func 1 [.nilFunc] 8 false false)),(2,(.mk (.int .i64) 1 [(.int .i64 0)] 8 false false)),(3,(.mk (.int .i64) 1 [(.int .i64 0)] 8 false false)),(4,(.mk .bool 1 [(.bool false)] 1 false false)),(5,(.mk (.int .u8) 1 [(.int .u8 0)] 1 false false)),(6,(.mk (.int .u8) 1 [(.int .u8 0)] 1 false false)),(8,(.mk (.struct [(0,(2,1)),(1,(3,1)),(2,(4,1)),(3,(6,1))]) 4 [(.int .i64 0),(.int .i64 0),(.bool false),(.int .u8 0)] 24 true true)),(9,(.mk .str 1 [(.string (.mk (.mk [])))] 16 false false)),(10,(.mk .str 1 [(.string (.mk (.mk [])))] 16 false false)),(11,(.mk .str 1 [(.string (.mk (.mk [])))] 16 false false)),(12,(.mk (.int .u64) 1 [(.int .u64 0)] 8 false false)),(13,(.mk (.struct [(0,(9,1)),(1,(12,1))]) 2 [(.string (.mk (.mk []))),(.int .u64 0)] 24 false true)),(14,(.mk (.struct [(0,(9,1)),(1,(12,1))]) 2 [(.string (.mk (.mk []))),(.int .u64 0)] 24 false true)),(16,(.mk (.ptr 362) 1 [(.pointer .none)] 8 false false)),(17,(.mk (.ptr 370) 1 [(.pointer .none)] 8 false false)),(18,(.mk (.struct [(0,(17,1))]) 1 [(.pointer .none)] 8 false true)),(22,(.mk (.slice 28 2) 1 [(.slice .none 0 0)] 24 false false)),(23,(.mk (.slice 29 1) 1 [(.slice .none 0 0)] 24 false false)),(26,(.mk (.slice 31 3) 1 [(.slice .none 0 0)] 24 false false)),(28,(.mk (.struct [(0,(3,1)),(1,(3,1))]) 2 [(.int .i64 0),(.int .i64 0)] 16 true true)),(29,(.mk (.int .i8) 1 [(.int .i8 0)] 1 false false)),(30,(.mk (.struct [(0,(3,1)),(1,(3,1)),(2,(3,1))]) 3 [(.int .i64 0),(.int .i64 0),(.int .i64 0)] 24 true true)),(31,(.mk (.struct [(0,(3,1)),(1,(3,1)),(2,(3,1))]) 3 [(.int .i64 0),(.int .i64 0),(.int .i64 0)] 24 true true)),(32,(.mk .str 1 [(.string (.mk (.mk [])))] 16 false false)),(34,(.mk (.struct [(0,(32,1)),(1,(32,1))]) 2 [(.string (.mk (.mk []))),(.string (.mk (.mk [])))] 32 true true)),(35,(.mk (.slice 3 1) 1 [(.slice .none 0 0)] 24 false false)),(36,(.mk (.int .i64) 1 [(.int .i64 0)] 8 false false)),(39,(.mk (.array 3 32 1) 3 [(.string (.mk (.mk []))),(.string (.mk (.mk []))),(.string (.mk (.mk [])))] 48 false false)),(42,(.mk (.slice 35 1) 1 [(.slice .none 0 0)] 24 false false)),(45,(.mk .func 1 [.nilFunc] 8 false false)),(46,(.mk .func 1 [.nilFunc] 8 false false)),(47,(.mk .func 1 [.nilFunc] 8 false false)),(48,(.mk .func 1 [.nilFunc] 8 false false)),(50,(.mk .func 1 [.nilFunc] 8 false false)),(52,(.mk .func 1 [.nilFunc] 8 false false)),(54,(.mk .func 1 [.nilFunc] 8 false false)),(55,(.mk .func 1 [.nilFunc] 8 false false)),(56,(.mk (.struct [(0,(39,3)),(3,(32,1)),(4,(35,1))]) 5 [(.string (.mk (.mk []))),(.string (.mk (.mk []))),(.string (.mk (.mk []))),(.string (.mk (.mk []))),(.slice .none 0 0)] 88 true true)),(57,(.mk (.struct [(0,(39,3)),(3,(32,1)),(4,(35,1))]) 5 [(.string (.mk (.mk []))),(.string (.mk (.mk []))),(.string (.mk (.mk []))),(.string (.mk (.mk []))),(.slice .none 0 0)] 88 true true)),(58,(.mk .func 1 [.nilFunc] 8 false false)),(64,(.mk .func 1 [.nilFunc] 8 false false)),(77,(.mk .func 1 [.nilFunc] 8 false false)),(84,(.mk .func 1 [.nilFunc] 8 false false)),(87,(.mk (.slice 32 1) 1 [(.slice .none 0 0)] 24 false false)),(88,(.mk .func 1 [.nilFunc] 8 false false)),(93,(.mk .func 1 [.nilFunc] 8 false false)),(94,(.mk (.slice 96 3) 1 [(.slice .none 0 0)] 24 false false)),(96,(.mk (.struct [(0,(34,2)),(2,(32,1))]) 3 [(.string (.mk (.mk []))),(.string (.mk (.mk []))),(.string (.mk (.mk [])))] 48 true true)),(97,(.mk .func 1 [.nilFunc] 8 false false)),(99,(.mk (.struct [(0,(3,1)),(1,(3,1)),(2,(3,1))]) 3 [(.int .i64 0),(.int .i64 0),(.int .i64 0)] 24 true true)),(101,(.mk .func 1 [.nilFunc] 8 false false)),(105,(.mk (.int .u16) 1 [(.int .u16 0)] 2 false false)),(108,(.mk .func 1 [.nilFunc] 8 false false)),(109,(.mk .func 1 [.nilFunc] 8 false false)),(110,(.mk .func 1 [.nilFunc] 8 false false)),(112,(.mk (.struct [(0,(39,3)),(3,(32,1)),(4,(87,1))]) 5 [(.string (.mk (.mk []))),(.string (.mk (.mk []))),(.string (.mk (.mk []))),(.string (.mk (.mk []))),(.slice .none 0 0)] 88 true true)),(115,(.mk .func 1 [.nilFunc] 8 false false)),(116,(.mk .func 1 [.nilFunc] 8 false false)),(117,(.mk .str 1 [(.string (.mk (.mk [])))] 16 false false)),(120,(.mk .func 1 [.nilFunc] 8 false false)),(121,(.mk .func 1 [.nilFunc] 8 false false)),(123,(.mk (.slice 117 1) 1 [(.slice .none 0 0)] 24 false false)),(139,(.mk (.ptr 141) 1 [(.pointer .none)] 8 false false)),(141,(.mk (.struct [(0,(36,1))]) 1 [(.int .i64 0)] 8 true true)),(146,(.mk (.array 3 3 1) 3 [(.int .i64 0),(.int .i64 0),(.int .i64 0)] 24 false false)),(153,(.mk (.ptr 155) 1 [(.pointer .none)] 8 false false)),(155,(.mk (.struct [(0,(36,1))]) 1 [(.int .i64 0)] 8 true true)),(161,(.mk .func 1 [.nilFunc] 8 false false)),(163,(.mk .func 1 [.nilFunc] 8 false false)),(164,(.mk .func 1 [.nilFunc] 8 false false)),(182,(.mk .func 1 [.nilFunc] 8 false false)),(183,(.mk .func 1 [.nilFunc] 8 false false)),(188,(.mk (.slice 5 1) 1 [(.slice .none 0 0)] 24 false false)),(191,(.mk .func 1 [.nilFunc] 8 false false)),(192,(.mk .func 1 [.nilFunc] 8 false false)),(200,(.mk .func 1 [.nilFunc] 8 false false)),(208,(.mk (.struct [(0,(3,1)),(1,(3,1)),(2,(87,1))]) 3 [(.int .i64 0),(.int .i64 0),(.slice .none 0 0)] 40 true true)),(216,(.mk .func 1 [.nilFunc] 8 false false)),(220,(.mk (.slice 87 1) 1 [(.slice .none 0 0)] 24 false false)),(227,(.mk (.ptr 244) 1 [(.pointer .none)] 8 false false)),(233,(.mk .func 1 [.nilFunc] 8 false false)),(235,(.mk (.struct [(0,(34,2)),(2,(34,2)),(4,(32,1))]) 5 [(.string (.mk (.mk []))),(.string (.mk (.mk []))),(.string (.mk (.mk []))),(.string (.mk (.mk []))),(.string (.mk (.mk [])))] 80 true true)),(239,(.mk .func 1 [.nilFunc] 8 false false)),(242,(.mk (.array 232 3 1) 232 (List.replicate 232 (.int .i64 0)) 1856 false false)),(244,(.mk (.struct [(0,(4,1)),(1,(3,1)),(2,(242,232))]) 234 (List.append [(.bool false)] (List.replicate 233 (.int .i64 0))) 1872 true true)),(261,(.mk (.struct [(0,(36,1))]) 1 [(.int .i64 0)] 8 true true)),(265,(.mk (.ptr 261) 1 [(.pointer .none)] 8 false false)),(302,(.mk .func 1 [.nilFunc] 8 false false)),(311,(.mk .func 1 [.nilFunc] 8 false false)),(312,(.mk (.ptr 5) 1 [(.pointer .none)] 8 false false)),(314,(.mk (.int .u32) 1 [(.int .u32 0)] 4 false false)),(329,(.mk (.int .u64) 1 [(.int .u64 0)] 8 false false)),(352,(.mk (.array 20 329 1) 20 [(.int .u64 0),(.int .u64 0),(.int .u64 0),(.int .u64 0),(.int .u64 0),(.int .u64 0),(.int .u64 0),(.int .u64 0),(.int .u64 0),(.int .u64 0),(.int .u64 0),(.int .u64 0),(.int .u64 0),(.int .u64 0),(.int .u64 0),(.int .u64 0),(.int .u64 0),(.int .u64 0),(.int .u64 0),(.int .u64 0)] 160 false false)),(360,(.mk (.array 0 16 1) 0 [] 0 false false)),(362,(.mk (.struct [(0,(360,0))]) 0 [] 0 false true)),(364,(.mk (.int .u8) 1 [(.int .u8 0)] 1 false false)),(365,(.mk (.int .u8) 1 [(.int .u8 0)] 1 false false)),(366,(.mk .func 1 [.nilFunc] 8 false false)),(367,(.mk (.int .i32) 1 [(.int .i32 0)] 4 false false)),(368,(.mk (.int .i32) 1 [(.int .i32 0)] 4 false false)),(370,(.mk (.struct [(0,(12,1)),(1,(12,1)),(2,(314,1)),(3,(364,1)),(4,(5,1)),(5,(5,1)),(6,(365,1)),(7,(366,1)),(8,(312,1)),(9,(367,1)),(10,(368,1))]) 11 [(.int .u64 0),(.int .u64 0),(.int .u32 0),(.int .u8 0),(.int .u8 0),(.int .u8 0),(.int .u8 0),.nilFunc,(.pointer .none),(.int .i32 0),(.int .i32 0)] 48 false true))]
noncomputable def qa:List (Nat×AV):=[(5,(.eptr [.int .u64,.int .u64,.int .u64,.int .u64,.int .u64,.int .u64,.int .u64,.int .u64,.int .u64,.int .u64,.int .u64,.int .u64,.int .u64,.int .u64,.int .u64,.int .u64,.int .u64,.int .u64,.int .u64,.int .u64] [[.i 1,.i 10,.i 100,.i 1000,.i 10000,.i 100000,.i 1000000,.i 10000000,.i 100000000,.i 1000000000,.i 10000000000,.i 100000000000,.i 1000000000000,.i 10000000000000,.i 100000000000000,.i 1000000000000000,.i 10000000000000000,.i 100000000000000000,.i 1000000000000000000,.i 10000000000000000000]] 0 0))]
theorem q8:qd4.map (fun x=>qwy prog x.1)=qd4.map (·.2):=by kernel_rfl
theorem qc:prog.follows .mixedOrders=true:=by kernel_rfl
noncomputable def qe(s:List (FuncId×(List AV->List Blk->Tree (AV×List Blk))))(b:List (FuncId×Func))(l:List ((FuncId×Nat)×(St->Tree (Ex×St))))(n:Nat):Env:=⟨qd4,qa,s,b,l,n,[],[],[]⟩
noncomputable def q5D:FIn:=⟨[(.int .i64)],[]⟩
noncomputable def q6k:List FOut:=[⟨.bool,[],none⟩]
noncomputable def qho:=qe [] [(200,f200)] [] 0
noncomputable def z6:=qm qho 200 f200 true q5D q6k
theorem qcr:qJ prog qa 200 (q9 q5D q6k z6):=sk qho qc q8 aln aln (b1 func200) func200
noncomputable def q3g:FIn:=⟨[(.agg [(.int .i64),(.int .i64)])],[]⟩
noncomputable def q3i:List FOut:=[⟨.bool,[],none⟩]
noncomputable def qma:=qe [(200,q9 q5D q6k z6)] [(148,f148)] [] 0
noncomputable def kv:=qm qma 148 f148 true q3g q3i
theorem q4i:qJ prog qa 148 (q9 q3g q3i kv):=sk qma qc q8 (alc qcr aln) aln (b1 func148) func148
noncomputable def q1L:FIn:=⟨[(.fn 148 [] []),(.imm [(.int .i64),(.int .i64)])],[]⟩
noncomputable def q1w:List FOut:=[⟨(.int .i64),[],none⟩]
noncomputable def q06:Tmpl:={ t:=((.fn 148 [] [])::qy 6 ((.imm [(.int .i64),(.int .i64)])::(.int .i64)::(.int .i64)::qy 8 [])),h:=[] }
noncomputable def q0l:List Out:=[⟨(.exit 0),{ t:=(qy 18 []),h:=[] }⟩,⟨.ret,{ t:=(qy 4 ((.int .i64)::qy 13 [])),h:=[] }⟩]
noncomputable def jU:=qe [(148,q9 q3g q3i kv)] [(199,f199)] [] 0
noncomputable def zo:=zM jU 199 f199 3 q06 q0l
theorem qbk:qk prog qa jU.nimp (qx prog jU.iter 199) (z8 f199 3) (qj q06 q0l (qf zo)):=gk jU qc q8 (alc q4i aln) aln (b1 func199) func199
noncomputable def q7d:=qe [(148,q9 q3g q3i kv)] [(199,f199)] [((199,3),qj q06 q0l (qf zo))] 0
noncomputable def jb:=qm q7d 199 f199 true q1L q1w
theorem qdE:qJ prog qa 199 (q9 q1L q1w jb):=sk q7d qc q8 (alc q4i aln) (alc (lk func199 qbk) aln) (b1 func199) func199
noncomputable def uF:FIn:=⟨[(.imm [(.int .i64),(.int .i64)]),(.fn 148 [] [])],[]⟩
noncomputable def uG:List FOut:=[⟨(.int .i64),[],none⟩]
noncomputable def q3o:=qe [(148,q9 q3g q3i kv),(199,q9 q1L q1w jb)] [(147,f147)] [] 0
noncomputable def wi:=qm q3o 147 f147 true uF uG
theorem q99:qJ prog qa 147 (q9 uF uG wi):=sk q3o qc q8 (alc q4i (alc qdE aln)) aln (b1 func147) func147
noncomputable def qef:FIn:=⟨[(.imm [(.int .i64),(.int .i64)])],[]⟩
noncomputable def qdt:List FOut:=[⟨(.int .i64),[],none⟩]
noncomputable def qjS:=qe [(147,q9 uF uG wi),(148,q9 q3g q3i kv)] [(111,f111)] [] 0
noncomputable def q3L:=qm qjS 111 f111 true qef qdt
theorem qou:qJ prog qa 111 (q9 qef qdt q3L):=sk qjS qc q8 (alc q99 (alc q4i aln)) aln (b1 func111) func111
noncomputable def q8a:FIn:=⟨[(.int .i64)],[]⟩
noncomputable def q8c:List FOut:=[⟨(.int .i64),[],none⟩]
noncomputable def qk3:=qe [] [(112,f112)] [] 0
noncomputable def kG:=qm qk3 112 f112 true q8a q8c
theorem qeu:qJ prog qa 112 (q9 q8a q8c kG):=sk qk3 qc q8 aln aln (b1 func112) func112
noncomputable def q4c:FIn:=⟨[(.imm [(.int .i64),(.int .i64)])],[]⟩
noncomputable def q3X:List FOut:=[⟨(.int .i64),[],none⟩]
noncomputable def qjU:=qe [(111,q9 qef qdt q3L),(112,q9 q8a q8c kG)] [(65,f65)] [] 0
noncomputable def jw:=qm qjU 65 f65 true q4c q3X
theorem q7w:qJ prog qa 65 (q9 q4c q3X jw):=sk qjU qc q8 (alc qou (alc qeu aln)) aln (b1 func65) func65
noncomputable def q1D:FIn:=⟨[(.imm [(.int .i64)])],[]⟩
noncomputable def q1I:List FOut:=[⟨(.vec 0),[.vec 3 [(.int .i64)]],none⟩]
noncomputable def qhg:=qe [] [(150,f150)] [] 0
noncomputable abbrev q5l:=q1D
noncomputable abbrev q58:=q1I
noncomputable abbrev q5i:=qhg
noncomputable def q5g:=qm q5i 150 f150 false q5l q58
theorem qbo:qJ prog qa 150 (q9 q5l q58 q5g):=qla (E:=q5i) qc ⟨q8A q8,⟨aln,aln⟩,aln,(b1 func150)⟩ func150 (by kernel_rfl) (by kernel_rfl) (fun _=>rfl)
theorem qdH(x0:R):q5g [.r x0]=(.br (ilt 0 (qg x0)) (.br (ile ((qg [])+(qg x0)) 17592186044416) (.leaf (0,[(.r (jo [] x0))])) .fail) .fail):=by kernel_rfl
noncomputable def qeI:Go.Shelf.Ren:=⟨fun|41=>150|n=>n,fun|4=>4|22=>35|23=>3|n=>n,fun n=>n⟩
noncomputable def wA:=qFq
theorem qdR:qJ prog qa 150 (q9 q1D q1I wA):=qB1 (ρ:=qeI) ⟨by kernel_rfl,⟨ "slices.Clone[[]int,int]",by decide,func150.trans (congrArg some (by kernel_rfl))⟩,underlying4,isAgg4,sizeOf4,zeroValue4,underlying35,isAgg35,sizeOf35,zeroValue35,underlying3,isAgg3,sizeOf3,zeroValue3,by kernel_rfl⟩ qbo (qGf qdH)
noncomputable def wV:FIn:=⟨[(.agg [(.int .i64),(.int .i64),(.int .i64)])],[]⟩
noncomputable def wU:List FOut:=[⟨(.agg [(.int .i64),(.int .i64),(.int .i64)]),[],none⟩]
noncomputable def q8o:=qe [] [(166,f166)] [] 0
noncomputable def qI:=qm q8o 166 f166 true wV wU
theorem jN:qJ prog qa 166 (q9 wV wU qI):=sk q8o qc q8 aln aln (b1 func166) func166
noncomputable def qfz:FIn:=⟨[(.agg [(.int .i64),(.int .i64),(.int .i64)]),(.agg [(.int .i64),(.int .i64),(.int .i64)]),(.agg [(.int .i64),(.int .i64),(.int .i64)])],[]⟩
noncomputable def qgj:List FOut:=[⟨(.int .i64),[],none⟩]
noncomputable def qb4:Tmpl:={ t:=(qy 7 ((.ptr 3 0)::(.ptr 4 0)::(.ptr 5 0)::(.int .i64)::qy 7 ((.int .i64)::qy 21 []))),h:=[.dead,.dead,.dead,.cells [(.int .i64),(.int .i64),(.int .i64)],.cells [(.int .i64),(.int .i64),(.int .i64)],.cells [(.int .i64),(.int .i64),(.int .i64)]] }
noncomputable def qbA:List Out:=[⟨(.exit 0),{ t:=(qy 10 ((.int .i64)::qy 29 [])),h:=[] }⟩]
noncomputable def q5T:=qe [(166,q9 wV wU qI)] [(159,f159)] [] 0
noncomputable def q0u:=zM q5T 159 f159 5 qb4 qbA
theorem qm3:qk prog qa q5T.nimp (qx prog q5T.iter 159) (z8 f159 5) (qj qb4 qbA (qf q0u)):=gk q5T qc q8 (alc jN aln) aln (b1 func159) func159
noncomputable def qnb:=qe [(166,q9 wV wU qI)] [(159,f159)] [((159,5),qj qb4 qbA (qf q0u))] 0
noncomputable def q0I:=qm qnb 159 f159 true qfz qgj
theorem qpS:qJ prog qa 159 (q9 qfz qgj q0I):=sk qnb qc q8 (alc jN aln) (alc (lk func159 qm3) aln) (b1 func159) func159
noncomputable def qk8:FIn:=⟨[(.int .i64)],[]⟩
noncomputable def qkh:List FOut:=[⟨.str,[],none⟩]
noncomputable def q4b:List PV->TR:=qCB
set_option maxRecDepth 100000 in
theorem qoe:qJ prog qa 242 (q9 qk8 qkh q4b):=qB6 laysM171 (ud func242 (by kernel_rfl) (by kernel_rfl)) (by kernel_rfl) (by unfold qa;exact qLu)
noncomputable def qaR:FIn:=⟨[(.int .i64)],[]⟩
noncomputable def qaP:List FOut:=[⟨.str,[],none⟩]
noncomputable def qut:=qe [(242,q9 qk8 qkh q4b)] [(194,f194)] [] 0
noncomputable def wB:=qm qut 194 f194 true qaR qaP
theorem qaq:qJ prog qa 194 (q9 qaR qaP wB):=sk qut qc q8 (alc qoe aln) aln (b1 func194) func194
noncomputable def q6T:FIn:=⟨[(.int .i64)],[]⟩
noncomputable def q6K:List FOut:=[⟨.str,[],none⟩]
noncomputable def qnA:=qe [(194,q9 qaR qaP wB)] [(160,f160)] [] 0
noncomputable def jB:=qm qnA 160 f160 true q6T q6K
theorem q9G:qJ prog qa 160 (q9 q6T q6K jB):=sk qnA qc q8 (alc qaq aln) aln (b1 func160) func160
noncomputable def qa5:FIn:=⟨[(.int .i64)],[]⟩
noncomputable def qaI:List FOut:=[⟨.bool,[],none⟩]
noncomputable def qmp:=qe [] [(205,f205)] [] 0
noncomputable def vu:=qm qmp 205 f205 true qa5 qaI
theorem qh2:qJ prog qa 205 (q9 qa5 qaI vu):=sk qmp qc q8 aln aln (b1 func205) func205
noncomputable def q2N:FIn:=⟨[(.int .i64),(.int .i64),(.ptr 0 0),(.ptr 1 0)],[.cells [(.imm [(.int .i64)])],.cells [(.int .i64)]]⟩
noncomputable def q30:List FOut:=[⟨.str,[.cells [(.imm [(.int .i64)])],.cells [(.int .i64)]],none⟩]
noncomputable def qnh:=qe [(160,q9 q6T q6K jB)] [(207,f207)] [] 2
noncomputable def kf:=qm qnh 207 f207 true q2N q30
theorem q4s:qJ prog qa 207 (q9 q2N q30 kf):=sk qnh qc q8 (alc q9G aln) aln (b1 func207) func207
noncomputable def qfT:FIn:=⟨[(.int .i64),(.int .i64),(.fn 207 [] [(.ptr 0 0),(.ptr 1 0)])],[.cells [(.imm [(.int .i64)])],.cells [(.int .i64)]]⟩
noncomputable def qfS:List FOut:=[⟨(.agg [(.int .i64),(.int .i64),(.imm [.str])]),[.cells [(.imm [(.int .i64)])],.cells [(.int .i64)]],none⟩]
noncomputable def q90:Tmpl:={ t:=(.any::(.int .i64)::(.fn 207 [] [(.ptr 0 0),(.ptr 1 0)])::.any::.any::.any::(.ptr 2 0)::(.ptr 3 0)::(.int .i64)::qy 4 ((.int .i64)::(.int .i64)::.any::.any::(.int .i64)::(.int .i64)::qy 14 [])),h:=[.cells [(.imm [(.int .i64)])],.cells [(.int .i64)],.cells [(.int .i64),(.int .i64),.nils],.cells [(.int .i64),(.int .i64),(.vec 4)],.vec 32 [.str]] }
noncomputable def q9l:List Out:=[⟨(.exit 2),{ t:=(.any::(.int .i64)::(.fn 207 [] [(.ptr 0 0),(.ptr 1 0)])::.any::.any::.any::(.ptr 2 0)::(.ptr 3 0)::qy 5 ((.int .i64)::(.int .i64)::qy 18 [])),h:=[.cells [(.imm [(.int .i64)])],.cells [(.int .i64)],.cells [(.int .i64),(.int .i64),.nils],.cells [(.int .i64),(.int .i64),(.vec 4)],.vec 32 [.str]] }⟩]
noncomputable def q4r:=qe [(207,q9 q2N q30 kf)] [(206,f206)] [] 2
noncomputable def uK:=zM q4r 206 f206 10 q90 q9l
theorem qkS:qk prog qa q4r.nimp (qx prog q4r.iter 206) (z8 f206 10) (qj q90 q9l (qf uK)):=gk q4r qc q8 (alc q4s aln) aln (b1 func206) func206
noncomputable def qbL:Tmpl:={ t:=(.any::(.int .i64)::(.fn 207 [] [(.ptr 0 0),(.ptr 1 0)])::.any::.any::.any::(.ptr 2 0)::(.ptr 3 0)::qy 5 ((.int .i64)::(.int .i64)::qy 18 [])),h:=[.cells [(.imm [(.int .i64)])],.cells [(.int .i64)],.cells [(.int .i64),(.int .i64),.nils],.cells [(.int .i64),(.int .i64),(.vec 4)],.vec 32 [.str]],prc:=[(7,2,32,[.str])] }
noncomputable def qaT:List Out:=[⟨(.exit 0),{ t:=(qy 6 ((.ptr 2 0)::(.ptr 3 0)::qy 25 [])),h:=[.cells [(.imm [(.int .i64)])],.cells [(.int .i64)],.cells [(.int .i64),(.int .i64),.nils],.cells [(.int .i64),(.int .i64),(.vec 4)],.vec 32 [.str]] }⟩]
noncomputable def q6Q:=qe [(207,q9 q2N q30 kf)] [(206,f206)] [((206,10),qj q90 q9l (qf uK))] 2
noncomputable def q08:=zM q6Q 206 f206 4 qbL qaT
theorem qmf:qk prog qa q6Q.nimp (qx prog q6Q.iter 206) (z8 f206 4) (qj qbL qaT (qf q08)):=gk q6Q qc q8 (alc q4s aln) (alc (lk func206 qkS) aln) (b1 func206) func206
noncomputable def qnn:=qe [(207,q9 q2N q30 kf)] [(206,f206)] [((206,4),qj qbL qaT (qf q08))] 2
noncomputable def q5L:=qm qnn 206 f206 true qfT qfS
theorem qpV:qJ prog qa 206 (q9 qfT qfS q5L):=sk qnn qc q8 (alc q4s aln) (alc (lk func206 qmf) aln) (b1 func206) func206
noncomputable def qkJ:FIn:=⟨[(.int .i64),(.int .i64),(.imm [(.int .i64)])],[]⟩
noncomputable def qlo:List FOut:=[⟨(.tuple [(.agg [(.int .i64),(.int .i64),(.imm [.str])]),(.int .i64)]),[],none⟩]
noncomputable def qql:=qe [(205,q9 qa5 qaI vu),(206,q9 qfT qfS q5L),(207,q9 q2N q30 kf)] [(161,f161)] [] 0
noncomputable def qb8:=qm qql 161 f161 true qkJ qlo
theorem qt6:qJ prog qa 161 (q9 qkJ qlo qb8):=sk qql qc q8 (alc qh2 (alc qpV (alc q4s aln))) aln (b1 func161) func161
noncomputable def q1T:FIn:=⟨[.str,.str],[]⟩
noncomputable def q26:List FOut:=[⟨(.int .i64),[],none⟩]
noncomputable def ve:List PV->TR:=qy9
set_option maxRecDepth 100000 in
theorem q7L:qJ prog qa 225 (q9 q1T q26 ve):=qzC lays219 (ud func225 (by kernel_rfl) (by kernel_rfl))
noncomputable def uI:FIn:=⟨[.str,.str],[]⟩
noncomputable def uH:List FOut:=[⟨(.tuple [.str,.str,.bool]),[],none⟩]
noncomputable def q3n:=qe [(225,q9 q1T q26 ve)] [(175,f175)] [] 0
noncomputable def wg:=qm q3n 175 f175 true uI uH
theorem q93:qJ prog qa 175 (q9 uI uH wg):=sk q3n qc q8 (alc q7L aln) aln (b1 func175) func175
noncomputable def qfu:FIn:=⟨[.str,.str],[]⟩
noncomputable def qg1:List FOut:=[⟨(.tuple [.str,.str,.bool]),[],none⟩]
noncomputable def qlO:=qe [(175,q9 uI uH wg)] [(128,f128)] [] 0
noncomputable def q60:=qm qlO 128 f128 true qfu qg1
theorem qpQ:qJ prog qa 128 (q9 qfu qg1 q60):=sk qlO qc q8 (alc q93 aln) aln (b1 func128) func128
noncomputable def q0O:FIn:=⟨[.str],[]⟩
noncomputable def q0Q:List FOut:=[⟨(.tuple [.str,.str,.bool]),[],none⟩]
noncomputable def qqj:=qe [(128,q9 qfu qg1 q60)] [(90,f90)] [] 0
noncomputable def za:=qm qqj 90 f90 true q0O q0Q
theorem kC:qJ prog qa 90 (q9 q0O q0Q za):=sk qqj qc q8 (alc qpQ aln) aln (b1 func90) func90
noncomputable def zP:FIn:=⟨[.str,.str],[]⟩
noncomputable def zO:List FOut:=[⟨.bool,[],none⟩]
noncomputable def kS:=qe [] [(230,f230)] [] 0
noncomputable def qN:=qm kS 230 f230 true zP zO
theorem ue:qJ prog qa 230 (q9 zP zO qN):=sk kS qc q8 aln aln (b1 func230) func230
noncomputable def vC:FIn:=⟨[.str,.str],[]⟩
noncomputable def vB:List FOut:=[⟨.str,[],none⟩]
noncomputable def kd:=qe [(230,q9 zP zO qN)] [(182,f182)] [] 0
noncomputable def zg:=qm kd 182 f182 true vC vB
theorem q43:qJ prog qa 182 (q9 vC vB zg):=sk kd qc q8 (alc ue aln) aln (b1 func182) func182
noncomputable def yt:FIn:=⟨[.str,.str],[]⟩
noncomputable def yp:List FOut:=[⟨.str,[],none⟩]
noncomputable def q9N:=qe [(182,q9 vC vB zg)] [(134,f134)] [] 0
noncomputable def ze:=qm q9N 134 f134 true yt yp
theorem q12:qJ prog qa 134 (q9 yt yp ze):=sk q9N qc q8 (alc q43 aln) aln (b1 func134) func134
noncomputable def qk5:FIn:=⟨[.str,.str],[]⟩
noncomputable def qko:List FOut:=[⟨.str,[],none⟩]
noncomputable def q8h:List PV->TR:=qEr
set_option maxRecDepth 100000 in
theorem qom:qJ prog qa 193 (q9 qk5 qko q8h):=qBm lays160 (ud func193 (by kernel_rfl) (by kernel_rfl)) (by kernel_rfl)
noncomputable def ki:FIn:=⟨[.str],[]⟩
noncomputable def kt:List FOut:=[⟨(.int .i64),[],none⟩]
noncomputable def qmK:=qe [(134,q9 yt yp ze),(193,q9 qk5 qko q8h)] [(141,f141)] [] 0
noncomputable def zd:=qm qmK 141 f141 true ki kt
theorem uR:qJ prog qa 141 (q9 ki kt zd):=sk qmK qc q8 (alc q12 (alc qom aln)) aln (b1 func141) func141
noncomputable def q2b:FIn:=⟨[(.imm [.str])],[]⟩
noncomputable def q29:List FOut:=[⟨(.int .i64),[],none⟩]
noncomputable def qfR:Tmpl:={ t:=(qy 6 ((.imm [.str])::(.int .i64)::(.int .i64)::qy 9 [])),h:=[] }
noncomputable def qfl:List Out:=[⟨(.exit 0),{ t:=(qy 18 []),h:=[] }⟩,⟨.ret,{ t:=(.any::.any::(.int .i64)::qy 15 []),h:=[] }⟩]
noncomputable def qar:=qe [(141,q9 ki kt zd)] [(131,f131)] [] 0
noncomputable def q65:=zM qar 131 f131 3 qfR qfl
theorem qpF:qk prog qa qar.nimp (qx prog qar.iter 131) (z8 f131 3) (qj qfR qfl (qf q65)):=gk qar qc q8 (alc uR aln) aln (b1 func131) func131
noncomputable def qqS:=qe [(141,q9 ki kt zd)] [(131,f131)] [((131,3),qj qfR qfl (qf q65))] 0
noncomputable def wo:=qm qqS 131 f131 true q2b q29
theorem q1p:qJ prog qa 131 (q9 q2b q29 wo):=sk qqS qc q8 (alc uR aln) (alc (lk func131 qpF) aln) (b1 func131) func131
noncomputable def q8w:FIn:=⟨[.str],[]⟩
noncomputable def q8E:List FOut:=[⟨(.int .i64),[],none⟩]
noncomputable def qpi:=qe [] [(132,f132)] [] 0
noncomputable def yJ:=qm qpi 132 f132 true q8w q8E
theorem qb0:qJ prog qa 132 (q9 q8w q8E yJ):=sk qpi qc q8 aln aln (b1 func132) func132
noncomputable def qeF:FIn:=⟨[.str,.str],[]⟩
noncomputable def qf8:List FOut:=[⟨(.int .i64),[],none⟩]
noncomputable def q33:List PV->TR:=qqe
set_option maxRecDepth 100000 in
theorem qjI:qJ prog qa 181 (q9 qeF qf8 q33):=quL lays106 (ud func181 (by kernel_rfl) (by kernel_rfl))
noncomputable def qgd:FIn:=⟨[.str,.str],[]⟩
noncomputable def qfw:List FOut:=[⟨(.int .i64),[],none⟩]
noncomputable def qnB:=qe [(181,q9 qeF qf8 q33)] [(133,f133)] [] 0
noncomputable def q5H:=qm qnB 133 f133 true qgd qfw
theorem qpT:qJ prog qa 133 (q9 qgd qfw q5H):=sk qnB qc q8 (alc qjI aln) aln (b1 func133) func133
noncomputable def q5B:FIn:=⟨[.str,.str],[]⟩
noncomputable def q5y:List FOut:=[⟨(.tuple [(.int .i64),(.int .i64)]),[],none⟩]
noncomputable def qi8:=qe [(131,q9 q2b q29 wo),(132,q9 q8w q8E yJ),(133,q9 qgd qfw q5H),(134,q9 yt yp ze)] [(92,f92)] [] 0
noncomputable def ug:=qm qi8 92 f92 true q5B q5y
theorem qd2:qJ prog qa 92 (q9 q5B q5y ug):=sk qi8 qc q8 (alc q1p (alc qb0 (alc qpT (alc q12 aln)))) aln (b1 func92) func92
noncomputable def qe4:FIn:=⟨[.str],[]⟩
noncomputable def qdM:List FOut:=[⟨(.tuple [(.int .i64),.any]),[],none⟩]
noncomputable def jA:List PV->TR:=qCr
set_option maxRecDepth 100000 in
theorem qeo:qJ prog qa 226 (q9 qe4 qdM jA):=qBy lays172 (ud func226 (by kernel_rfl) (by kernel_rfl))
noncomputable def vU:FIn:=⟨[(.ptr 0 0)],[.big [.bool,(.int .i64)] .i64 232]⟩
noncomputable def vS:List FOut:=[⟨(.ptr 0 0),[.big [.bool,(.int .i64)] .i64 232],none⟩]
noncomputable def q1B:Tmpl:={ t:=((.ptr 0 0)::qy 28 []),h:=[.big [.bool,(.int .i64)] .i64 232] }
noncomputable def q1K:List Out:=[⟨(.exit 0),{ t:=((.ptr 0 0)::qy 28 []),h:=[.big [.bool,(.int .i64)] .i64 232] }⟩]
noncomputable def ur:=qe [] [(227,f227)] [] 1
noncomputable def ja:=zM ur 227 f227 2 q1B q1K
theorem qdW:qk prog qa ur.nimp (qx prog ur.iter 227) (z8 f227 2) (qj q1B q1K (qf ja)):=gk ur qc q8 aln aln (b1 func227) func227
noncomputable def q9R:=qe [] [(227,f227)] [((227,2),qj q1B q1K (qf ja))] 1
noncomputable def qU:=qm q9R 227 f227 false vU vS
theorem yE:qJ prog qa 227 (q9 vU vS qU):=qla (E:=q9R) qc ⟨q8A q8,⟨aln,aln⟩,(alc (lk func227 qdW) aln),(b1 func227)⟩ func227 (by kernel_rfl) (by kernel_rfl) (fun _=>rfl)
noncomputable def q51:FIn:=⟨[.str],[]⟩
noncomputable def q5d:List FOut:=[⟨(.ptr 0 0),[.big [.bool,(.int .i64)] .i64 232],none⟩]
noncomputable def qd9:Tmpl:={ t:=(.any::.any::.any::.str::(.ptr 0 0)::qy 43 []),h:=[.big [.bool,(.int .i64)] .i64 232] }
noncomputable def qdh:List Out:=[⟨(.exit 0),{ t:=(qy 4 ((.ptr 0 0)::qy 43 [])),h:=[.big [.bool,(.int .i64)] .i64 232] }⟩]
noncomputable def qg2:List (FuncId×zr):=[(134,q9 yt yp ze),(226,q9 qe4 qdM jA),(227,q9 vU vS qU)]
theorem qks:∀x,x∈qg2->qJ prog qa x.1 x.2:=(alc q12 (alc qeo (alc yE aln)))
noncomputable def q81:=qe qg2 [(178,f178)] [] 0
noncomputable def q3P:=zM q81 178 f178 5 qd9 qdh
theorem qnX:qk prog qa q81.nimp (qx prog q81.iter 178) (z8 f178 5) (qj qd9 qdh (qf q3P)):=gk q81 qc q8 qks aln (b1 func178) func178
noncomputable def qp3:=qe qg2 [(178,f178)] [((178,5),qj qd9 qdh (qf q3P))] 0
noncomputable def wu:=qm qp3 178 f178 false q51 q5d
theorem q5v:qJ prog qa 178 (q9 q51 q5d wu):=qla (E:=qp3) qc ⟨q8A q8,⟨qks,aln⟩,(alc (lk func178 qnX) aln),(b1 func178)⟩ func178 (by kernel_rfl) (by kernel_rfl) (fun _=>rfl)
noncomputable def jW:FIn:=⟨[(.ptr 0 0),(.ptr 1 0),(.int .i64),(.int .i64)],[.big [.bool,(.int .i64)] .i64 232,.big [.bool,(.int .i64)] .i64 232]⟩
noncomputable def jP:List FOut:=[⟨(.tuple []),[.big [.bool,(.int .i64)] .i64 232,.big [.bool,(.int .i64)] .i64 232],none⟩]
noncomputable def q3t:Tmpl:={ t:=((.ptr 0 0)::(.ptr 1 0)::(.int .i64)::(.int .i64)::qy 4 ((.int .i64)::(.int .i64)::qy 73 [])),h:=[.big [.bool,(.int .i64)] .i64 232,.big [.bool,(.int .i64)] .i64 232] }
noncomputable def q3z:List Out:=[⟨(.exit 0),{ t:=((.ptr 0 0)::qy 82 []),h:=[.big [.bool,(.int .i64)] .i64 232,.big [.bool,(.int .i64)] .i64 232] }⟩]
noncomputable def kW:=qe [(227,q9 vU vS qU)] [(228,f228)] [] 2
noncomputable def vW:=zM kW 228 f228 3 q3t q3z
theorem qfs:qk prog qa kW.nimp (qx prog kW.iter 228) (z8 f228 3) (qj q3t q3z (qf vW)):=gk kW qc q8 (alc yE aln) aln (b1 func228) func228
noncomputable def qcR:=qe [(227,q9 vU vS qU)] [(228,f228)] [((228,3),qj q3t q3z (qf vW))] 2
noncomputable def qZ:=qm qcR 228 f228 true jW jP
theorem km:qJ prog qa 228 (q9 jW jP qZ):=sk qcR qc q8 (alc yE aln) (alc (lk func228 qfs) aln) (b1 func228) func228
noncomputable def q0G:FIn:=⟨[(.ptr 0 0),(.ptr 1 0)],[.big [.bool,(.int .i64)] .i64 232,.big [.bool,(.int .i64)] .i64 232]⟩
noncomputable def q0S:List FOut:=[⟨(.int .i64),[.big [.bool,(.int .i64)] .i64 232,.big [.bool,(.int .i64)] .i64 232],none⟩]
noncomputable def q2D:Tmpl:={ t:=((.ptr 0 0)::(.ptr 1 0)::.any::.any::.any::(.int .i64)::qy 53 []),h:=[.big [.bool,(.int .i64)] .i64 232,.big [.bool,(.int .i64)] .i64 232] }
noncomputable def q2a:List Out:=[⟨(.exit 0),{ t:=(qy 59 []),h:=[.big [.bool,(.int .i64)] .i64 232,.big [.bool,(.int .i64)] .i64 232] }⟩,⟨.ret,{ t:=(qy 4 ((.int .i64)::qy 54 [])),h:=[.big [.bool,(.int .i64)] .i64 232,.big [.bool,(.int .i64)] .i64 232] }⟩]
noncomputable def kq:=qe [] [(243,f243)] [] 2
noncomputable def jF:=zM kq 243 f243 6 q2D q2a
theorem qf2:qk prog qa kq.nimp (qx prog kq.iter 243) (z8 f243 6) (qj q2D q2a (qf jF)):=gk kq qc q8 aln aln (b1 func243) func243
noncomputable def qbt:=qe [] [(243,f243)] [((243,6),qj q2D q2a (qf jF))] 2
noncomputable def wT:=qm qbt 243 f243 true q0G q0S
theorem q7b:qJ prog qa 243 (q9 q0G q0S wT):=sk qbt qc q8 aln (alc (lk func243 qf2) aln) (b1 func243) func243
noncomputable def q9D:FIn:=⟨[(.ptr 0 0),(.ptr 1 0)],[.big [.bool,(.int .i64)] .i64 232,.big [.bool,(.int .i64)] .i64 232]⟩
noncomputable def q8M:List FOut:=[⟨(.int .i64),[.big [.bool,(.int .i64)] .i64 232,.big [.bool,(.int .i64)] .i64 232],none⟩]
noncomputable def qgT:=qe [] [(244,f244),(273,f273)] [] 2
noncomputable def q1e:=qm qgT 244 f244 true q9D q8M
theorem qlf:qJ prog qa 244 (q9 q9D q8M q1e):=sk qgT qc q8 aln aln (alc (bk func244) (alc (bk func273) aln)) func244
noncomputable def q6x:FIn:=⟨[(.ptr 0 0),(.ptr 1 0)],[.big [.bool,(.int .i64)] .i64 232,.big [.bool,(.int .i64)] .i64 232]⟩
noncomputable def q5N:List FOut:=[⟨(.tuple [(.ptr 2 0),(.ptr 3 0)]),[.big [.bool,(.int .i64)] .i64 232,.big [.bool,(.int .i64)] .i64 232,.big [.bool,(.int .i64)] .i64 232,.big [.bool,(.int .i64)] .i64 232],none⟩]
noncomputable def q5J:Tmpl:={ t:=((.ptr 0 0)::(.ptr 1 0)::qy 4 ((.ptr 2 0)::(.ptr 3 0)::(.int .i64)::(.int .i64)::qy 80 [])),h:=[.big [.bool,(.int .i64)] .i64 232,.big [.bool,(.int .i64)] .i64 232,.big [.bool,(.int .i64)] .i64 232,.big [.bool,(.int .i64)] .i64 232] }
noncomputable def q6D:List Out:=[⟨(.exit 2),{ t:=((.ptr 0 0)::(.ptr 1 0)::qy 4 ((.ptr 2 0)::(.ptr 3 0)::(.int .i64)::(.int .i64)::qy 80 [])),h:=[.big [.bool,(.int .i64)] .i64 232,.big [.bool,(.int .i64)] .i64 232,.big [.bool,(.int .i64)] .i64 232,.big [.bool,(.int .i64)] .i64 232] }⟩]
noncomputable def q4o:List (FuncId×zr):=[(227,q9 vU vS qU),(228,q9 jW jP qZ),(243,q9 q0G q0S wT),(244,q9 q9D q8M q1e)]
theorem q7p:∀x,x∈q4o->qJ prog qa x.1 x.2:=(alc yE (alc km (alc q7b (alc qlf aln))))
noncomputable def q1S:=qe q4o [(195,f195)] [] 2
noncomputable def jZ:=zM q1S 195 f195 14 q5J q6D
theorem qhN:qk prog qa q1S.nimp (qx prog q1S.iter 195) (z8 f195 14) (qj q5J q6D (qf jZ)):=gk q1S qc q8 q7p aln (b1 func195) func195
noncomputable def q7O:Tmpl:={ t:=((.ptr 0 0)::(.ptr 1 0)::qy 4 ((.ptr 2 0)::(.ptr 3 0)::(.int .i64)::qy 81 [])),h:=[.big [.bool,(.int .i64)] .i64 232,.big [.bool,(.int .i64)] .i64 232,.big [.bool,(.int .i64)] .i64 232,.big [.bool,(.int .i64)] .i64 232] }
noncomputable def q7g:List Out:=[⟨(.exit 0),{ t:=(qy 6 ((.ptr 2 0)::(.ptr 3 0)::qy 82 [])),h:=[.big [.bool,(.int .i64)] .i64 232,.big [.bool,(.int .i64)] .i64 232,.big [.bool,(.int .i64)] .i64 232,.big [.bool,(.int .i64)] .i64 232] }⟩]
noncomputable def q2K:=qe q4o [(195,f195)] [((195,14),qj q5J q6D (qf jZ))] 2
noncomputable def q0d:=zM q2K 195 f195 4 q7O q7g
theorem qjG:qk prog qa q2K.nimp (qx prog q2K.iter 195) (z8 f195 4) (qj q7O q7g (qf q0d)):=gk q2K qc q8 q7p (alc (lk func195 qhN) aln) (b1 func195) func195
noncomputable def qit:=qe q4o [(195,f195)] [((195,4),qj q7O q7g (qf q0d))] 2
noncomputable def uf:=qm qit 195 f195 false q6x q5N
theorem qcP:qJ prog qa 195 (q9 q6x q5N uf):=qla (E:=qit) qc ⟨q8A q8,⟨q7p,aln⟩,(alc (lk func195 qjG) aln),(b1 func195)⟩ func195 (by kernel_rfl) (by kernel_rfl) (fun _=>rfl)
noncomputable def q3m:FIn:=⟨[(.ptr 0 0)],[.big [.bool,(.int .i64)] .i64 232]⟩
noncomputable def q3a:List FOut:=[⟨.str,[.big [.bool,(.int .i64)] .i64 232],none⟩]
noncomputable def zp:List PV->TR:=qDX
theorem q3F:qJ prog qa 196 (q9 q3m q3a zp):=qBW (by unfold qa;exact qLu)
noncomputable def qb2:FIn:=⟨[.str,.str],[]⟩
noncomputable def qbw:List FOut:=[⟨(.tuple [.str,(.int .i64)]),[],none⟩]
noncomputable def qdz:Tmpl:={ t:=(qy 9 ((.int .i64)::(.int .i64)::qy 61 [])),h:=[] }
noncomputable def qdQ:List Out:=[⟨(.exit 2),{ t:=(qy 9 ((.int .i64)::qy 62 [])),h:=[] }⟩]
noncomputable def qcy:List (FuncId×zr):=[(131,q9 q2b q29 wo),(178,q9 q51 q5d wu),(194,q9 qaR qaP wB),(195,q9 q6x q5N uf),(196,q9 q3m q3a zp)]
theorem qg9:∀x,x∈qcy->qJ prog qa x.1 x.2:=(alc q1p (alc q5v (alc qaq (alc qcP (alc q3F aln)))))
noncomputable def q7S:=qe qcy [(142,f142)] [] 0
noncomputable def q1s:=zM q7S 142 f142 14 qdz qdQ
theorem qoI:qk prog qa q7S.nimp (qx prog q7S.iter 142) (z8 f142 14) (qj qdz qdQ (qf q1s)):=gk q7S qc q8 qg9 aln (b1 func142) func142
noncomputable def qg6:Tmpl:={ t:=(qy 7 ((.ptr 1 0)::(.ptr 2 0)::qy 63 [])),h:=[.dead,.big [.bool,(.int .i64)] .i64 232,.big [.bool,(.int .i64)] .i64 232],sw:=[(7,1),(8,2)],swn:=0 }
noncomputable def qfk:List Out:=[⟨(.exit 0),{ t:=(qy 7 ((.ptr 1 0)::qy 64 [])),h:=[.dead,.big [.bool,(.int .i64)] .i64 232] }⟩,⟨.ret,{ t:=(qy 4 (.str::(.int .i64)::qy 66 [])),h:=[] }⟩]
noncomputable def qas:=qe qcy [(142,f142)] [((142,14),qj qdz qdQ (qf q1s))] 0
noncomputable def q5x:=zM qas 142 f142 7 qg6 qfk
theorem qpP:qk prog qa qas.nimp (qx prog qas.iter 142) (z8 f142 7) (qj qg6 qfk (qf q5x)):=gk qas qc q8 qg9 (alc (lk func142 qoI) aln) (b1 func142) func142
noncomputable def qqt:=qe qcy [(142,f142)] [((142,7),qj qg6 qfk (qf q5x))] 0
noncomputable def q2n:=qm qqt 142 f142 true qb2 qbw
theorem qd8:qJ prog qa 142 (q9 qb2 qbw q2n):=sk qqt qc q8 qg9 (alc (lk func142 qpP) aln) (b1 func142) func142
noncomputable def kh:FIn:=⟨[.str],[]⟩
noncomputable def uZ:List FOut:=[⟨(.int .i64),[],none⟩]
noncomputable def qlX:=qe [(90,q9 q0O q0Q za),(92,q9 q5B q5y ug),(141,q9 ki kt zd),(142,q9 qb2 qbw q2n)] [(106,f106)] [] 0
noncomputable def zh:=qm qlX 106 f106 true kh uZ
theorem uO:qJ prog qa 106 (q9 kh uZ zh):=sk qlX qc q8 (alc kC (alc qd2 (alc uR (alc qd8 aln)))) aln (b1 func106) func106
noncomputable def q4z:FIn:=⟨[(.imm [.str])],[]⟩
noncomputable def q4v:List FOut:=[⟨(.int .i64),[],none⟩]
noncomputable def q64:Tmpl:={ t:=(qy 6 ((.imm [.str])::(.int .i64)::(.int .i64)::qy 9 [])),h:=[] }
noncomputable def q5t:List Out:=[⟨(.exit 0),{ t:=(qy 18 []),h:=[] }⟩,⟨.ret,{ t:=(.any::.any::(.int .i64)::qy 15 []),h:=[] }⟩]
noncomputable def q1W:=qe [(106,q9 kh uZ zh)] [(213,f213)] [] 0
noncomputable def jM:=zM q1W 213 f213 3 q64 q5t
theorem qiA:qk prog qa q1W.nimp (qx prog q1W.iter 213) (z8 f213 3) (qj q64 q5t (qf jM)):=gk q1W qc q8 (alc uO aln) aln (b1 func213) func213
noncomputable def qgF:=qe [(106,q9 kh uZ zh)] [(213,f213)] [((213,3),qj q64 q5t (qf jM))] 0
noncomputable def vY:=qm qgF 213 f213 true q4z q4v
theorem qba:qJ prog qa 213 (q9 q4z q4v vY):=sk qgF qc q8 (alc uO aln) (alc (lk func213 qiA) aln) (b1 func213) func213
noncomputable def qde:FIn:=⟨[(.agg [(.int .i64),(.int .i64),(.imm [.str])])],[]⟩
noncomputable def qdB:List FOut:=[⟨(.int .i64),[],none⟩]
noncomputable def qk2:=qe [(205,q9 qa5 qaI vu),(213,q9 q4z q4v vY)] [(208,f208)] [] 0
noncomputable def jt:=qm qk2 208 f208 true qde qdB
theorem qeH:qJ prog qa 208 (q9 qde qdB jt):=sk qk2 qc q8 (alc qh2 (alc qba aln)) aln (b1 func208) func208
noncomputable def q68:FIn:=⟨[.str,.str],[]⟩
noncomputable def q5q:List FOut:=[⟨(.tuple [(.int .i64),(.int .i64),.bool]),[],none⟩]
noncomputable def qmM:=qe [(226,q9 qe4 qdM jA)] [(176,f176)] [] 0
noncomputable def yC:=qm qmM 176 f176 true q68 q5q
theorem q9C:qJ prog qa 176 (q9 q68 q5q yC):=sk qmM qc q8 (alc qeo aln) aln (b1 func176) func176
noncomputable def q7Y:FIn:=⟨[(.int .i64)],[]⟩
noncomputable def q7U:List FOut:=[⟨(.tuple [.str,(.int .i64)]),[],none⟩]
noncomputable def qk7:=qe [(194,q9 qaR qaP wB)] [(177,f177)] [] 0
noncomputable def kx:=qm qk7 177 f177 true q7Y q7U
theorem qek:qJ prog qa 177 (q9 q7Y q7U kx):=sk qk7 qc q8 (alc qaq aln) aln (b1 func177) func177
noncomputable def q6r:FIn:=⟨[(.ptr 0 0),(.ptr 1 0)],[.big [.bool,(.int .i64)] .i64 232,.big [.bool,(.int .i64)] .i64 232]⟩
noncomputable def q5S:List FOut:=[⟨(.ptr 2 0),[.big [.bool,(.int .i64)] .i64 232,.big [.bool,(.int .i64)] .i64 232,.big [.bool,(.int .i64)] .i64 232],none⟩]
noncomputable def q3B:Tmpl:={ t:=((.ptr 0 0)::(.ptr 1 0)::.any::.any::.any::(.ptr 2 0)::qy 15 ((.int .i64)::(.int .i64)::qy 14 [])),h:=[.big [.bool,(.int .i64)] .i64 232,.big [.bool,(.int .i64)] .i64 232,.big [.bool,(.int .i64)] .i64 232] }
noncomputable def q3A:List Out:=[⟨(.exit 0),{ t:=(qy 5 ((.ptr 2 0)::qy 31 [])),h:=[.big [.bool,(.int .i64)] .i64 232,.big [.bool,(.int .i64)] .i64 232,.big [.bool,(.int .i64)] .i64 232] }⟩]
noncomputable def kZ:=qe [(228,q9 jW jP qZ)] [(179,f179)] [] 2
noncomputable def ym:=zM kZ 179 f179 4 q3B q3A
theorem qfO:qk prog qa kZ.nimp (qx prog kZ.iter 179) (z8 f179 4) (qj q3B q3A (qf ym)):=gk kZ qc q8 (alc km aln) aln (b1 func179) func179
noncomputable def qcN:=qe [(228,q9 jW jP qZ)] [(179,f179)] [((179,4),qj q3B q3A (qf ym))] 2
noncomputable def kp:=qm qcN 179 f179 false q6r q5S
theorem qhm:qJ prog qa 179 (q9 q6r q5S kp):=qla (E:=qcN) qc ⟨q8A q8,⟨(alc km aln),aln⟩,(alc (lk func179 qfO) aln),(b1 func179)⟩ func179 (by kernel_rfl) (by kernel_rfl) (fun _=>rfl)
noncomputable def kV:FIn:=⟨[(.ptr 0 0)],[.big [.bool,(.int .i64)] .i64 232]⟩
noncomputable def q02:List FOut:=[⟨(.tuple [.str,(.int .i64)]),[.big [.bool,(.int .i64)] .i64 232],none⟩]
noncomputable def q9M:=qe [(141,q9 ki kt zd),(196,q9 q3m q3a zp)] [(180,f180)] [] 1
noncomputable def wn:=qm q9M 180 f180 true kV q02
theorem q69:qJ prog qa 180 (q9 kV q02 wn):=sk q9M qc q8 (alc uR (alc q3F aln)) aln (b1 func180) func180
noncomputable def qbm:FIn:=⟨[.str,.str],[]⟩
noncomputable def qc0:List FOut:=[⟨(.tuple [.str,(.int .i64)]),[],none⟩]
noncomputable def qrR:=qe [(131,q9 q2b q29 wo),(176,q9 q68 q5q yC),(177,q9 q7Y q7U kx),(178,q9 q51 q5d wu),(179,q9 q6r q5S kp),(180,q9 kV q02 wn)] [(130,f130)] [] 0
noncomputable def q4M:=qm qrR 130 f130 true qbm qc0
theorem qdZ:qJ prog qa 130 (q9 qbm qc0 q4M):=sk qrR qc q8 (alc q1p (alc q9C (alc qek (alc q5v (alc qhm (alc q69 aln)))))) aln (b1 func130) func130
noncomputable def jx:FIn:=⟨[(.ptr 0 0),(.fn 130 [] []),.str,.str],[.cells [(.int .i64)]]⟩
noncomputable def jC:List FOut:=[⟨.str,[.cells [(.int .i64)]],none⟩]
noncomputable def q4a:=qe [(130,q9 qbm qc0 q4M)] [(129,f129)] [] 1
noncomputable def zB:=qm q4a 129 f129 true jx jC
theorem q1Y:qJ prog qa 129 (q9 jx jC zB):=sk q4a qc q8 (alc qdZ aln) aln (b1 func129) func129
noncomputable def yg:FIn:=⟨[(.ptr 0 0),(.imm [.str])],[.cells [(.int .i64)]]⟩
noncomputable def ya:List FOut:=[⟨.str,[.cells [(.int .i64)]],none⟩]
noncomputable def q5V:Tmpl:={ t:=(qy 5 (.str::(.fn 129 [(.ptr 0 0)] [])::qy 4 ((.imm [.str])::(.int .i64)::(.int .i64)::qy 9 []))),h:=[.cells [(.int .i64)]] }
noncomputable def q5Y:List Out:=[⟨(.exit 0),{ t:=(qy 5 (.str::qy 17 [])),h:=[.cells [(.int .i64)]] }⟩]
noncomputable def q1R:=qe [(130,q9 qbm qc0 q4M),(129,q9 jx jC zB)] [(91,f91)] [] 1
noncomputable def jT:=zM q1R 91 f91 4 q5V q5Y
theorem qhJ:qk prog qa q1R.nimp (qx prog q1R.iter 91) (z8 f91 4) (qj q5V q5Y (qf jT)):=gk q1R qc q8 (alc qdZ (alc q1Y aln)) aln (b1 func91) func91
noncomputable def qgO:=qe [(130,q9 qbm qc0 q4M),(129,q9 jx jC zB)] [(91,f91)] [((91,4),qj q5V q5Y (qf jT))] 1
noncomputable def qv:=qm qgO 91 f91 true yg ya
theorem yZ:qJ prog qa 91 (q9 yg ya qv):=sk qgO qc q8 (alc qdZ (alc q1Y aln)) (alc (lk func91 qhJ) aln) (b1 func91) func91
noncomputable def qam:FIn:=⟨[(.ptr 0 0),.str,.str,.str,.str],[.cells [(.int .i64)]]⟩
noncomputable def qag:List FOut:=[⟨(.tuple [.str,.str]),[.cells [(.int .i64)]],none⟩]
noncomputable def qns:=qe [(91,q9 yg ya qv)] [(259,f259)] [] 1
noncomputable def q2T:=qm qns 259 f259 true qam qag
theorem qgZ:qJ prog qa 259 (q9 qam qag q2T):=sk qns qc q8 (alc yZ aln) aln (b1 func259) func259
noncomputable def vn:FIn:=⟨[(.imm [.str])],[]⟩
noncomputable def vq:List FOut:=[⟨(.int .i64),[],none⟩]
noncomputable def q8Y:Tmpl:={ t:=(qy 6 ((.imm [.str])::(.int .i64)::(.int .i64)::qy 9 [])),h:=[] }
noncomputable def q8O:List Out:=[⟨(.exit 0),{ t:=(qy 18 []),h:=[] }⟩,⟨.ret,{ t:=(.any::.any::(.int .i64)::qy 15 []),h:=[] }⟩]
noncomputable def q4l:=qe [(106,q9 kh uZ zh)] [(89,f89)] [] 0
noncomputable def q1a:=zM q4l 89 f89 3 q8Y q8O
theorem qlv:qk prog qa q4l.nimp (qx prog q4l.iter 89) (z8 f89 3) (qj q8Y q8O (qf q1a)):=gk q4l qc q8 (alc uO aln) aln (b1 func89) func89
noncomputable def qk4:=qe [(106,q9 kh uZ zh)] [(89,f89)] [((89,3),qj q8Y q8O (qf q1a))] 0
noncomputable def qF:=qm qk4 89 f89 true vn vq
theorem v6:qJ prog qa 89 (q9 vn vq qF):=sk qk4 qc q8 (alc uO aln) (alc (lk func89 qlv) aln) (b1 func89) func89
noncomputable def q3j:FIn:=⟨[(.ptr 0 0),(.ptr 1 0)],[.big [.bool,(.int .i64)] .i64 232,.big [.bool,(.int .i64)] .i64 232]⟩
noncomputable def q2L:List FOut:=[⟨(.tuple []),[.big [.bool,(.int .i64)] .i64 232,.big [.bool,(.int .i64)] .i64 232],none⟩]
noncomputable def qf5:=qe [(228,q9 jW jP qZ),(243,q9 q0G q0S wT)] [(307,f307)] [] 2
noncomputable def v7:=qm qf5 307 f307 true q3j q2L
theorem q9O:qJ prog qa 307 (q9 q3j q2L v7):=sk qf5 qc q8 (alc km (alc q7b aln)) aln (b1 func307) func307
noncomputable def qli:FIn:=⟨[(.imm [.str])],[]⟩
noncomputable def ql6:List FOut:=[⟨(.tuple [.str,(.int .i64)]),[],none⟩]
noncomputable def qff:Tmpl:={ t:=(qy 4 ((.ptr 0 0)::qy 4 ((.imm [.str])::(.int .i64)::(.int .i64)::qy 12 []))),h:=[.big [.bool,(.int .i64)] .i64 232] }
noncomputable def qfv:List Out:=[⟨(.exit 0),{ t:=(qy 4 ((.ptr 0 0)::qy 19 [])),h:=[.big [.bool,(.int .i64)] .i64 232] }⟩]
noncomputable def qii:List (FuncId×zr):=[(178,q9 q51 q5d wu),(180,q9 kV q02 wn),(307,q9 q3j q2L v7)]
theorem qmR:∀x,x∈qii->qJ prog qa x.1 x.2:=(alc q5v (alc q69 (alc q9O aln)))
noncomputable def q9Y:=qe qii [(296,f296)] [] 0
noncomputable def q6j:=zM q9Y 296 f296 4 qff qfv
theorem qpD:qk prog qa q9Y.nimp (qx prog q9Y.iter 296) (z8 f296 4) (qj qff qfv (qf q6j)):=gk q9Y qc q8 qmR aln (b1 func296) func296
noncomputable def qrL:=qe qii [(296,f296)] [((296,4),qj qff qfv (qf q6j))] 0
noncomputable def qbv:=qm qrL 296 f296 true qli ql6
theorem qsG:qJ prog qa 296 (q9 qli ql6 qbv):=sk qrL qc q8 qmR (alc (lk func296 qpD) aln) (b1 func296) func296
noncomputable def qaY:FIn:=⟨[.str,.str],[]⟩
noncomputable def qbl:List FOut:=[⟨(.tuple [.str,(.int .i64)]),[],none⟩]
noncomputable def qqk:=qe [(131,q9 q2b q29 wo),(176,q9 q68 q5q yC),(177,q9 q7Y q7U kx),(296,q9 qli ql6 qbv)] [(279,f279)] [] 0
noncomputable def q2A:=qm qqk 279 f279 true qaY qbl
theorem qdk:qJ prog qa 279 (q9 qaY qbl q2A):=sk qqk qc q8 (alc q1p (alc q9C (alc qek (alc qsG aln)))) aln (b1 func279) func279
noncomputable def q9g:FIn:=⟨[.str],[]⟩
noncomputable def q9i:List FOut:=[⟨.str,[],none⟩]
noncomputable def qgv:=qe [(132,q9 q8w q8E yJ)] [(283,f283)] [] 0
noncomputable def q15:=qm qgv 283 f283 true q9g q9i
theorem ql3:qJ prog qa 283 (q9 q9g q9i q15):=sk qgv qc q8 (alc qb0 aln) aln (b1 func283) func283
noncomputable def qg0:FIn:=⟨[.str,.str],[]⟩
noncomputable def qg5:List FOut:=[⟨(.tuple [.str,(.int .i64)]),[],none⟩]
noncomputable def qrb:=qe [(131,q9 q2b q29 wo),(279,q9 qaY qbl q2A),(283,q9 q9g q9i q15)] [(258,f258)] [] 0
noncomputable def q7f:=qm qrb 258 f258 true qg0 qg5
theorem qkz:qJ prog qa 258 (q9 qg0 qg5 q7f):=sk qrb qc q8 (alc q1p (alc qdk (alc ql3 aln))) aln (b1 func258) func258
noncomputable def kR:FIn:=⟨[(.ptr 0 0),(.fn 258 [] []),.str,.str],[.cells [(.int .i64)]]⟩
noncomputable def kO:List FOut:=[⟨.str,[.cells [(.int .i64)]],none⟩]
noncomputable def q3K:=qe [(258,q9 qg0 qg5 q7f)] [(129,f129)] [] 1
noncomputable def wE:=qm q3K 129 f129 true kR kO
theorem qaE:qJ prog qa 129 (q9 kR kO wE):=sk q3K qc q8 (alc qkz aln) aln (b1 func129) func129
noncomputable def q4A:FIn:=⟨[(.ptr 0 0),.str,.str],[.cells [(.int .i64)]]⟩
noncomputable def q4u:List FOut:=[⟨.str,[.cells [(.int .i64)]],none⟩]
noncomputable def qgX:=qe [(258,q9 qg0 qg5 q7f),(129,q9 kR kO wE)] [(220,f220)] [] 1
noncomputable def j5:=qm qgX 220 f220 true q4A q4u
theorem qbP:qJ prog qa 220 (q9 q4A q4u j5):=sk qgX qc q8 (alc qkz (alc qaE aln)) aln (b1 func220) func220
noncomputable def q4J:FIn:=⟨[.str,.str],[]⟩
noncomputable def q4F:List FOut:=[⟨.bool,[],none⟩]
noncomputable def qbC:=qe [(230,q9 zP zO qN)] [(280,f280)] [] 0
noncomputable def ua:=qm qbC 280 f280 true q4J q4F
theorem qh9:qJ prog qa 280 (q9 q4J q4F ua):=sk qbC qc q8 (alc ue aln) aln (b1 func280) func280
noncomputable def qdj:FIn:=⟨[.str,.str],[]⟩
noncomputable def qe1:List FOut:=[⟨.str,[],none⟩]
noncomputable def qkC:=qe [] [(281,f281)] [] 0
noncomputable def q1n:=qm qkC 281 f281 true qdj qe1
theorem qnP:qJ prog qa 281 (q9 qdj qe1 q1n):=sk qkC qc q8 aln aln (b1 func281) func281
noncomputable def qea:FIn:=⟨[.str,.str],[]⟩
noncomputable def qdJ:List FOut:=[⟨(.tuple [.str,.str,(.int .i64)]),[],none⟩]
noncomputable def qjQ:=qe [(131,q9 q2b q29 wo),(176,q9 q68 q5q yC),(178,q9 q51 q5d wu),(194,q9 qaR qaP wB),(195,q9 q6x q5N uf),(196,q9 q3m q3a zp),(307,q9 q3j q2L v7)] [(297,f297)] [] 0
noncomputable def q3Z:=qm qjQ 297 f297 true qea qdJ
theorem qnI:qJ prog qa 297 (q9 qea qdJ q3Z):=sk qjQ qc q8 (alc q1p (alc q9C (alc q5v (alc qaq (alc qcP (alc q3F (alc q9O aln))))))) aln (b1 func297) func297
noncomputable def qfU:FIn:=⟨[.str,.str],[]⟩
noncomputable def qgh:List FOut:=[⟨(.tuple [.str,(.int .i64)]),[],none⟩]
noncomputable def qrj:=qe [(141,q9 ki kt zd),(297,q9 qea qdJ q3Z)] [(282,f282)] [] 0
noncomputable def q7s:=qm qrj 282 f282 true qfU qgh
theorem qkg:qJ prog qa 282 (q9 qfU qgh q7s):=sk qrj qc q8 (alc uR (alc qnI aln)) aln (b1 func282) func282
noncomputable def js:FIn:=⟨[(.ptr 0 0),(.fn 142 [] []),.str,.str],[.cells [(.int .i64)]]⟩
noncomputable def ky:List FOut:=[⟨.str,[.cells [(.int .i64)]],none⟩]
noncomputable def q3N:=qe [(142,q9 qb2 qbw q2n)] [(129,f129)] [] 1
noncomputable def wN:=qm q3N 129 f129 true js ky
theorem qa9:qJ prog qa 129 (q9 js ky wN):=sk q3N qc q8 (alc qd8 aln) aln (b1 func129) func129
noncomputable def ju:FIn:=⟨[(.ptr 0 0),(.fn 282 [] []),.str,.str],[.cells [(.int .i64)]]⟩
noncomputable def kL:List FOut:=[⟨.str,[.cells [(.int .i64)]],none⟩]
noncomputable def q3I:=qe [(282,q9 qfU qgh q7s)] [(129,f129)] [] 1
noncomputable def qX:=qm q3I 129 f129 true ju kL
theorem qad:qJ prog qa 129 (q9 ju kL qX):=sk q3I qc q8 (alc qkg aln) aln (b1 func129) func129
noncomputable def jg:FIn:=⟨[(.ptr 0 0),.str,.str],[.cells [(.int .i64)]]⟩
noncomputable def jl:List FOut:=[⟨.str,[.cells [(.int .i64)]],none⟩]
noncomputable def qbs:=qe [(142,q9 qb2 qbw q2n),(220,q9 q4A q4u j5),(280,q9 q4J q4F ua),(281,q9 qdj qe1 q1n),(282,q9 qfU qgh q7s),(129,qKy [(js,q9 js ky wN),(ju,q9 ju kL qX)])] [(257,f257)] [] 1
noncomputable def zb:=qm qbs 257 f257 true jg jl
theorem uq:qJ prog qa 257 (q9 jg jl zb):=sk qbs qc q8 (alc qd8 (alc qbP (alc qh9 (alc qnP (alc qkg (alc (qGO (ud func129 (by kernel_rfl) (by kernel_rfl)) (qAD qa9 (qAD qad qHX))) aln)))))) aln (b1 func257) func257
noncomputable def q05:FIn:=⟨[.str,.str,(.fn 259 [] [])],[]⟩
noncomputable def q0i:List FOut:=[⟨(.tuple [.str,(.int .i64)]),[],none⟩]
noncomputable def q59:=qe [(89,q9 vn vq qF),(90,q9 q0O q0Q za),(257,q9 jg jl zb),(259,q9 qam qag q2T)] [(218,f218)] [] 0
noncomputable def vd:=qm q59 218 f218 true q05 q0i
theorem qc7:qJ prog qa 218 (q9 q05 q0i vd):=sk q59 qc q8 (alc v6 (alc kC (alc uq (alc qgZ aln)))) aln (b1 func218) func218
noncomputable def qbR:FIn:=⟨[.str,.str],[]⟩
noncomputable def qbi:List FOut:=[⟨(.tuple [.str,(.int .i64)]),[],none⟩]
noncomputable def qqZ:=qe [(259,q9 qam qag q2T),(218,q9 q05 q0i vd)] [(221,f221)] [] 0
noncomputable def ye:=qm qqZ 221 f221 true qbR qbi
theorem q7Q:qJ prog qa 221 (q9 qbR qbi ye):=sk qqZ qc q8 (alc qgZ (alc qc7 aln)) aln (b1 func221) func221
noncomputable def qa1:FIn:=⟨[(.ptr 0 0),.str,.str,.str,.str],[.cells [(.int .i64)]]⟩
noncomputable def qaJ:List FOut:=[⟨(.tuple [.str,.str]),[.cells [(.int .i64)]],none⟩]
noncomputable def qn8:=qe [(91,q9 yg ya qv)] [(267,f267)] [] 1
noncomputable def q2Q:=qm qn8 267 f267 true qa1 qaJ
theorem qgC:qJ prog qa 267 (q9 qa1 qaJ q2Q):=sk qn8 qc q8 (alc yZ aln) aln (b1 func267) func267
noncomputable def q0r:FIn:=⟨[.str,.str,(.fn 267 [] [])],[]⟩
noncomputable def q0m:List FOut:=[⟨(.tuple [.str,(.int .i64)]),[],none⟩]
noncomputable def q53:=qe [(89,q9 vn vq qF),(90,q9 q0O q0Q za),(257,q9 jg jl zb),(267,q9 qa1 qaJ q2Q)] [(218,f218)] [] 0
noncomputable def vb:=qm q53 218 f218 true q0r q0m
theorem qbf:qJ prog qa 218 (q9 q0r q0m vb):=sk q53 qc q8 (alc v6 (alc kC (alc uq (alc qgC aln)))) aln (b1 func218) func218
noncomputable def qsj:FIn:=⟨[.str,.str],[]⟩
noncomputable def qs5:List FOut:=[⟨(.tuple [.str,(.int .i64)]),[],none⟩]
noncomputable def qrF:=qe [(89,q9 vn vq qF),(267,q9 qa1 qaJ q2Q),(218,q9 q0r q0m vb)] [(233,f233)] [] 0
noncomputable def q4Q:=qm qrF 233 f233 true qsj qs5
theorem qtg:qJ prog qa 233 (q9 qsj qs5 q4Q):=sk qrF qc q8 (alc v6 (alc qgC (alc qbf aln))) aln (b1 func233) func233
noncomputable def qau:FIn:=⟨[(.ptr 0 0),.str,.str,.str,.str],[.cells [(.int .i64)]]⟩
noncomputable def qaB:List FOut:=[⟨(.tuple [.str,.str]),[.cells [(.int .i64)]],none⟩]
noncomputable def qnC:=qe [(91,q9 yg ya qv),(220,q9 q4A q4u j5)] [(219,f219)] [] 1
noncomputable def q34:=qm qnC 219 f219 true qau qaB
theorem qgG:qJ prog qa 219 (q9 qau qaB q34):=sk qnC qc q8 (alc yZ (alc qbP aln)) aln (b1 func219) func219
noncomputable def q0f:FIn:=⟨[.str,.str,(.fn 219 [] [])],[]⟩
noncomputable def q0c:List FOut:=[⟨(.tuple [.str,(.int .i64)]),[],none⟩]
noncomputable def q5e:=qe [(89,q9 vn vq qF),(90,q9 q0O q0Q za),(219,q9 qau qaB q34),(257,q9 jg jl zb)] [(218,f218)] [] 0
noncomputable def v8:=qm q5e 218 f218 true q0f q0c
theorem qaZ:qJ prog qa 218 (q9 q0f q0c v8):=sk q5e qc q8 (alc v6 (alc kC (alc qgG (alc uq aln)))) aln (b1 func218) func218
noncomputable def qfE:FIn:=⟨[.str,.str],[]⟩
noncomputable def qfV:List FOut:=[⟨(.tuple [.str,(.int .i64)]),[],none⟩]
noncomputable def qro:=qe [(219,q9 qau qaB q34),(218,q9 q0f q0c v8)] [(165,f165)] [] 0
noncomputable def wk:=qm qro 165 f165 true qfE qfV
theorem qds:qJ prog qa 165 (q9 qfE qfV wk):=sk qro qc q8 (alc qgG (alc qaZ aln)) aln (b1 func165) func165
noncomputable def qh4:FIn:=⟨[(.agg [(.int .i64),(.int .i64),(.imm [.str])])],[]⟩
noncomputable def qgU:List FOut:=[⟨(.tuple [(.agg [(.int .i64),(.int .i64),(.imm [.str])]),(.int .i64)]),[],none⟩]
noncomputable def yj:List PV->TR:=qIQ jt ye q4Q wk
theorem qkM:qJ prog qa 162 (q9 qh4 qgU yj):=qCo qeH q7Q qtg qds
noncomputable def kF:FIn:=⟨[(.ptr 0 0),(.fn 279 [] []),.str,.str],[.cells [(.int .i64)]]⟩
noncomputable def kJ:List FOut:=[⟨.str,[.cells [(.int .i64)]],none⟩]
noncomputable def q3J:=qe [(279,q9 qaY qbl q2A)] [(129,f129)] [] 1
noncomputable def wK:=qm q3J 129 f129 true kF kJ
theorem q9X:qJ prog qa 129 (q9 kF kJ wK):=sk q3J qc q8 (alc qdk aln) aln (b1 func129) func129
noncomputable def q9E:FIn:=⟨[(.ptr 0 0),.str,.str],[.cells [(.int .i64)]]⟩
noncomputable def q9b:List FOut:=[⟨.str,[.cells [(.int .i64)]],none⟩]
noncomputable def qgt:=qe [(279,q9 qaY qbl q2A),(129,q9 kF kJ wK)] [(256,f256)] [] 1
noncomputable def q17:=qm qgt 256 f256 true q9E q9b
theorem qlk:qJ prog qa 256 (q9 q9E q9b q17):=sk qgt qc q8 (alc qdk (alc q9X aln)) aln (b1 func256) func256
noncomputable def q9Z:FIn:=⟨[(.ptr 0 0),.str,.str,.str,.str],[.cells [(.int .i64)]]⟩
noncomputable def q9V:List FOut:=[⟨(.tuple [.str,.str]),[.cells [(.int .i64)]],none⟩]
noncomputable def qmc:=qe [(91,q9 yg ya qv),(256,q9 q9E q9b q17)] [(255,f255)] [] 1
noncomputable def q32:=qm qmc 255 f255 true q9Z q9V
theorem qgP:qJ prog qa 255 (q9 q9Z q9V q32):=sk qmc qc q8 (alc yZ (alc qlk aln)) aln (b1 func255) func255
noncomputable def q0e:FIn:=⟨[.str,.str,(.fn 255 [] [])],[]⟩
noncomputable def q0b:List FOut:=[⟨(.tuple [.str,(.int .i64)]),[],none⟩]
noncomputable def q5b:=qe [(89,q9 vn vq qF),(90,q9 q0O q0Q za),(255,q9 q9Z q9V q32),(257,q9 jg jl zb)] [(218,f218)] [] 0
noncomputable def wY:=qm q5b 218 f218 true q0e q0b
theorem qbU:qJ prog qa 218 (q9 q0e q0b wY):=sk q5b qc q8 (alc v6 (alc kC (alc qgP (alc uq aln)))) aln (b1 func218) func218
noncomputable def q4C:FIn:=⟨[.str,.str],[]⟩
noncomputable def q4D:List FOut:=[⟨(.tuple [.str,(.int .i64)]),[],none⟩]
noncomputable def qrv:=qe [(255,q9 q9Z q9V q32),(218,q9 q0e q0b wY)] [(217,f217)] [] 0
noncomputable def u7:=qm qrv 217 f217 true q4C q4D
theorem q3Q:qJ prog qa 217 (q9 q4C q4D u7):=sk qrv qc q8 (alc qgP (alc qbU aln)) aln (b1 func217) func217
noncomputable def q0z:FIn:=⟨[(.ptr 0 0),.str,(.int .i64)],[.cells [(.int .i64)]]⟩
noncomputable def q0T:List FOut:=[⟨.str,[.cells [(.int .i64)]],none⟩]
noncomputable def qbj:=qe [] [(254,f254)] [] 1
noncomputable def wS:=qm qbj 254 f254 true q0z q0T
theorem q76:qJ prog qa 254 (q9 q0z q0T wS):=sk qbj qc q8 aln aln (b1 func254) func254
noncomputable def q6M:FIn:=⟨[(.ptr 0 0),.str,.str],[.cells [(.int .i64)]]⟩
noncomputable def q5A:List FOut:=[⟨.str,[.cells [(.int .i64)]],none⟩]
noncomputable def qcm:=qe [(217,q9 q4C q4D u7),(254,q9 q0z q0T wS)] [(214,f214)] [] 1
noncomputable def ke:=qm qcm 214 f214 true q6M q5A
theorem qiw:qJ prog qa 214 (q9 q6M q5A ke):=sk qcm qc q8 (alc q3Q (alc q76 aln)) aln (b1 func214) func214
noncomputable def q6f:FIn:=⟨[(.ptr 0 0),.str,.str],[.cells [(.int .i64)]]⟩
noncomputable def q6I:List FOut:=[⟨.str,[.cells [(.int .i64)]],none⟩]
noncomputable def qd3:=qe [(221,q9 qbR qbi ye),(254,q9 q0z q0T wS)] [(215,f215)] [] 1
noncomputable def uY:=qm qd3 215 f215 true q6f q6I
theorem qiU:qJ prog qa 215 (q9 q6f q6I uY):=sk qd3 qc q8 (alc q7Q (alc q76 aln)) aln (b1 func215) func215
noncomputable def qdg:FIn:=⟨[(.agg [(.int .i64),(.int .i64),(.imm [.str])]),(.int .i64),(.int .i64)],[]⟩
noncomputable def qdv:List FOut:=[⟨.str,[],none⟩]
noncomputable def qkA:=qe [] [(216,f216)] [] 0
noncomputable def q48:=qm qkA 216 f216 true qdg qdv
theorem qox:qJ prog qa 216 (q9 qdg qdv q48):=sk qkA qc q8 aln aln (b1 func216) func216
noncomputable def qdi:FIn:=⟨[(.agg [(.int .i64),(.int .i64),(.imm [.str])]),(.imm [.str])],[]⟩
noncomputable def qdI:List FOut:=[⟨(.tuple [(.imm [.str]),(.int .i64)]),[],none⟩]
noncomputable def q7H:Tmpl:={ t:=(.any::(.imm [.str])::(.ptr 0 0)::qy 5 ((.ptr 1 0)::(.vec 2)::(.int .i64)::.str::qy 20 ((.int .i64)::(.int .i64)::.any::.any::(.imm [.str])::(.int .i64)::(.int .i64)::qy 30 []))),h:=[.cells [(.int .i64),(.int .i64),(.imm [.str])],.cells [(.int .i64)],.vec 32 [.str]] }
noncomputable def q7r:List Out:=[⟨(.exit 2),{ t:=(.any::(.imm [.str])::(.ptr 0 0)::qy 5 ((.ptr 1 0)::(.vec 2)::.any::.str::qy 20 ((.int .i64)::(.int .i64)::qy 35 []))),h:=[.cells [(.int .i64),(.int .i64),(.imm [.str])],.cells [(.int .i64)],.vec 32 [.str]] }⟩]
noncomputable def q5U:List (FuncId×zr):=[(208,q9 qde qdB jt),(213,q9 q4z q4v vY),(214,q9 q6M q5A ke),(215,q9 q6f q6I uY),(216,q9 qdg qdv q48)]
theorem q9n:∀x,x∈q5U->qJ prog qa x.1 x.2:=(alc qeH (alc qba (alc qiw (alc qiU (alc qox aln)))))
noncomputable def q39:=qe q5U [(163,f163)] [] 0
noncomputable def yO:=zM q39 163 f163 24 q7H q7r
theorem qjF:qk prog qa q39.nimp (qx prog q39.iter 163) (z8 f163 24) (qj q7H q7r (qf yO)):=gk q39 qc q8 q9n aln (b1 func163) func163
noncomputable def q7C:Tmpl:={ t:=(.any::(.imm [.str])::(.ptr 0 0)::qy 5 ((.ptr 1 0)::(.vec 2)::qy 22 ((.int .i64)::(.int .i64)::qy 35 []))),h:=[.cells [(.int .i64),(.int .i64),(.imm [.str])],.cells [(.int .i64)],.vec 32 [.str]],pro:=[(9,32,[.str])] }
noncomputable def q7l:List Out:=[⟨(.exit 0),{ t:=(qy 8 ((.ptr 1 0)::(.vec 2)::qy 59 [])),h:=[.dead,.cells [(.int .i64)],.vec 32 [.str]] }⟩]
noncomputable def q3d:=qe q5U [(163,f163)] [((163,24),qj q7H q7r (qf yO))] 0
noncomputable def yT:=zM q3d 163 f163 16 q7C q7l
theorem qjH:qk prog qa q3d.nimp (qx prog q3d.iter 163) (z8 f163 16) (qj q7C q7l (qf yT)):=gk q3d qc q8 q9n (alc (lk func163 qjF) aln) (b1 func163) func163
noncomputable def qkB:=qe q5U [(163,f163)] [((163,16),qj q7C q7l (qf yT))] 0
noncomputable def q3O:=qm qkB 163 f163 true qdi qdI
theorem qop:qJ prog qa 163 (q9 qdi qdI q3O):=sk qkB qc q8 q9n (alc (lk func163 qjH) aln) (b1 func163) func163
noncomputable def qll:FIn:=⟨[(.imm [.str])],[]⟩
noncomputable def qlB:List FOut:=[⟨(.tuple [.str,(.int .i64)]),[],none⟩]
noncomputable def qdD:Tmpl:={ t:=(qy 5 (.str::qy 12 ((.imm [.str])::(.int .i64)::(.int .i64)::qy 15 []))),h:=[] }
noncomputable def qe7:List Out:=[⟨(.exit 0),{ t:=(qy 5 (.str::qy 30 [])),h:=[] }⟩,⟨.ret,{ t:=(.any::.any::.str::(.int .i64)::qy 32 []),h:=[] }⟩]
noncomputable def q8e:=qe [(89,q9 vn vq qF),(217,q9 q4C q4D u7)] [(164,f164)] [] 0
noncomputable def q1q:=zM q8e 164 f164 11 qdD qe7
theorem qob:qk prog qa q8e.nimp (qx prog q8e.iter 164) (z8 f164 11) (qj qdD qe7 (qf q1q)):=gk q8e qc q8 (alc v6 (alc q3Q aln)) aln (b1 func164) func164
noncomputable def qrM:=qe [(89,q9 vn vq qF),(217,q9 q4C q4D u7)] [(164,f164)] [((164,11),qj qdD qe7 (qf q1q))] 0
noncomputable def qb5:=qm qrM 164 f164 true qll qlB
theorem qt2:qJ prog qa 164 (q9 qll qlB qb5):=sk qrM qc q8 (alc v6 (alc q3Q aln)) (alc (lk func164 qob) aln) (b1 func164) func164
noncomputable def zZ:FIn:=⟨[(.imm [.str]),(.imm [.str])],[]⟩
noncomputable def we:List FOut:=[⟨(.tuple [.str,(.int .i64)]),[],none⟩]
noncomputable def vD:Tmpl:={ t:=(.any::(.imm [.str])::qy 4 (.str::qy 4 ((.imm [.str])::(.int .i64)::(.int .i64)::qy 27 []))),h:=[] }
noncomputable def vN:List Out:=[⟨(.exit 0),{ t:=(qy 6 (.str::qy 34 [])),h:=[] }⟩,⟨.ret,{ t:=(qy 4 (.str::(.int .i64)::qy 35 [])),h:=[] }⟩]
noncomputable def zD:=qe [(217,q9 q4C q4D u7),(221,q9 qbR qbi ye)] [(167,f167)] [] 0
noncomputable def qT:=zM zD 167 f167 4 vD vN
theorem q45:qk prog qa zD.nimp (qx prog zD.iter 167) (z8 f167 4) (qj vD vN (qf qT)):=gk zD qc q8 (alc q3Q (alc q7Q aln)) aln (b1 func167) func167
noncomputable def q07:=qe [(217,q9 q4C q4D u7),(221,q9 qbR qbi ye)] [(167,f167)] [((167,4),qj vD vN (qf qT))] 0
noncomputable def qC:=qm q07 167 f167 true zZ we
theorem uB:qJ prog qa 167 (q9 zZ we qC):=sk q07 qc q8 (alc q3Q (alc q7Q aln)) (alc (lk func167 q45) aln) (b1 func167) func167
noncomputable def q40:FIn:=⟨[(.agg [.str,.str,.str]),(.agg [(.int .i64),(.int .i64),(.int .i64)])],[]⟩
noncomputable def q3Y:List FOut:=[⟨(.tuple [.str,(.int .i64)]),[],none⟩]
noncomputable def q8N:Tmpl:={ t:=(.any::.any::(.ptr 0 0)::.any::.any::.any::(.vec 2)::qy 5 ((.agg [(.int .i64),(.int .i64),(.int .i64)])::(.int .i64)::qy 25 [])),h:=[.cells [.str,.str,.str],.dead,.vec 32 [.str]],pro:=[(6,32,[.str])] }
noncomputable def q8K:List Out:=[⟨(.exit 0),{ t:=(qy 6 ((.vec 2)::qy 32 [])),h:=[.dead,.dead,.vec 32 [.str]] }⟩,⟨.ret,{ t:=(qy 4 (.str::(.int .i64)::qy 33 [])),h:=[] }⟩]
noncomputable def qbY:List (FuncId×zr):=[(160,q9 q6T q6K jB),(165,q9 qfE qfV wk),(166,q9 wV wU qI),(167,q9 zZ we qC)]
theorem qgz:∀x,x∈qbY->qJ prog qa x.1 x.2:=(alc q9G (alc qds (alc jN (alc uB aln))))
noncomputable def q4h:=qe qbY [(168,f168)] [] 0
noncomputable def uP:=zM q4h 168 f168 4 q8N q8K
theorem qkZ:qk prog qa q4h.nimp (qx prog q4h.iter 168) (z8 f168 4) (qj q8N q8K (qf uP)):=gk q4h qc q8 qgz aln (b1 func168) func168
noncomputable def qjX:=qe qbY [(168,f168)] [((168,4),qj q8N q8K (qf uP))] 0
noncomputable def vl:=qm qjX 168 f168 true q40 q3Y
theorem q7h:qJ prog qa 168 (q9 q40 q3Y vl):=sk qjX qc q8 qgz (alc (lk func168 qkZ) aln) (b1 func168) func168
noncomputable def q4q:FIn:=⟨[(.imm [(.int .i64),(.int .i64),(.int .i64)])],[]⟩
noncomputable def q4x:List FOut:=[⟨(.tuple [(.agg [.str,.str,.str,.str,(.imm [.str])]),.bool,(.int .i64)]),[],none⟩]
noncomputable def q4V:Tmpl:={ t:=((.imm [(.int .i64),(.int .i64),(.int .i64)])::.any::(.ptr 0 0)::.any::.any::(.int .i64)::(.vec 1)::(.vec 2)::(.int .i64)::qy 15 ((.int .i64)::(.int .i64)::.any::.any::(.int .i64)::(.int .i64)::qy 141 [])),h:=[.cells [.str,.str,.str,.str,.nils],.vec 3 [(.int .i64)],.vec 32 [.str]] }
noncomputable def q4R:List Out:=[⟨(.exit 2),{ t:=((.imm [(.int .i64),(.int .i64),(.int .i64)])::.any::(.ptr 0 0)::.any::.any::(.int .i64)::(.vec 1)::(.vec 2)::(.int .i64)::qy 15 ((.int .i64)::(.int .i64)::qy 145 [])),h:=[.cells [.str,.str,.str,.str,.nils],.vec 3 [(.int .i64)],.vec 32 [.str]] }⟩]
noncomputable def yW:List (FuncId×zr):=[(159,q9 qfz qgj q0I),(160,q9 q6T q6K jB),(161,q9 qkJ qlo qb8),(162,q9 qh4 qgU yj),(163,q9 qdi qdI q3O),(164,q9 qll qlB qb5),(165,q9 qfE qfV wk),(166,q9 wV wU qI),(167,q9 zZ we qC),(168,q9 q40 q3Y vl)]
theorem uU:∀x,x∈yW->qJ prog qa x.1 x.2:=(alc qpS (alc q9G (alc qt6 (alc qkM (alc qop (alc qt2 (alc qds (alc jN (alc uB (alc q7h aln))))))))))
noncomputable def q14:=qe yW [(123,f123)] [] 0
noncomputable def jm:=zM q14 123 f123 13 q4V q4R
theorem qhi:qk prog qa q14.nimp (qx prog q14.iter 123) (z8 f123 13) (qj q4V q4R (qf jm)):=gk q14 qc q8 uU aln (b1 func123) func123
noncomputable def q6n:Tmpl:={ t:=((.imm [(.int .i64),(.int .i64),(.int .i64)])::.any::(.ptr 0 0)::.any::.any::(.int .i64)::(.vec 1)::(.vec 2)::qy 16 ((.int .i64)::(.int .i64)::qy 145 [])),h:=[.cells [.str,.str,.str,.str,.nils],.vec 3 [(.int .i64)],.vec 32 [.str]],pro:=[(6,3,[(.int .i64)]),(7,32,[.str])] }
noncomputable def q5C:List Out:=[⟨(.exit 0),{ t:=((.imm [(.int .i64),(.int .i64),(.int .i64)])::.any::(.ptr 0 0)::.any::.any::(.int .i64)::(.vec 1)::(.vec 2)::qy 163 []),h:=[.cells [.str,.str,.str,.str,.nils],.vec 3 [(.int .i64)],.vec 32 [.str]] }⟩]
noncomputable def q1X:=qe yW [(123,f123)] [((123,13),qj q4V q4R (qf jm))] 0
noncomputable def jS:=zM q1X 123 f123 6 q6n q5C
theorem qin:qk prog qa q1X.nimp (qx prog q1X.iter 123) (z8 f123 6) (qj q6n q5C (qf jS)):=gk q1X qc q8 uU (alc (lk func123 qhi) aln) (b1 func123) func123
noncomputable def q4P:Tmpl:={ t:=((.imm [(.int .i64),(.int .i64),(.int .i64)])::.any::(.ptr 0 0)::qy 13 ((.ptr 6 0)::(.int .i64)::(.vec 7)::qy 107 ((.int .i64)::.any::.any::(.imm [(.int .i64),(.int .i64),(.int .i64)])::(.int .i64)::(.int .i64)::qy 39 []))),h:=[.cells [.str,.str,.str,.str,.nils],.dead,.dead,.dead,.dead,.frz 32 [.str],.cells [.str,.str,.str,.str,(.vec 5)],.vec 32 [.str]],pro:=[(18,32,[.str])] }
noncomputable def q4G:List Out:=[⟨(.exit 6),{ t:=((.imm [(.int .i64),(.int .i64),(.int .i64)])::.any::(.ptr 0 0)::qy 13 ((.ptr 6 0)::(.int .i64)::(.vec 7)::qy 107 ((.int .i64)::qy 44 []))),h:=[.cells [.str,.str,.str,.str,.nils],.dead,.dead,.dead,.dead,.frz 32 [.str],.cells [.str,.str,.str,.str,(.vec 5)],.vec 32 [.str]] }⟩]
noncomputable def q0C:=qe yW [(123,f123)] [] 0
noncomputable def jk:=zM q0C 123 f123 52 q4P q4G
theorem qh8:qk prog qa q0C.nimp (qx prog q0C.iter 123) (z8 f123 52) (qj q4P q4G (qf jk)):=gk q0C qc q8 uU aln (b1 func123) func123
noncomputable def q4N:Tmpl:={ t:=((.imm [(.int .i64),(.int .i64),(.int .i64)])::.any::(.ptr 0 0)::qy 13 ((.ptr 6 0)::qy 109 ((.int .i64)::qy 44 []))),h:=[.cells [.str,.str,.str,.str,.nils],.dead,.dead,.dead,.dead,.frz 32 [.str],.cells [.str,.str,.str,.str,(.vec 5)]],fz:=[5] }
noncomputable def q4W:List Out:=[⟨(.exit 4),{ t:=((.imm [(.int .i64),(.int .i64),(.int .i64)])::.any::(.ptr 0 0)::qy 13 ((.ptr 6 0)::qy 154 [])),h:=[.cells [.str,.str,.str,.str,.nils],.dead,.dead,.dead,.dead,.frz 32 [.str],.cells [.str,.str,.str,.str,(.vec 5)]] }⟩,⟨.ret,{ t:=(.any::.any::(.ptr 0 0)::.bool::(.int .i64)::qy 166 []),h:=[.cells [.str,.str,.str,.str,.nils]] }⟩]
noncomputable def q0J:=qe yW [(123,f123)] [((123,52),qj q4P q4G (qf jk))] 0
noncomputable def jj:=zM q0J 123 f123 44 q4N q4W
theorem qhh:qk prog qa q0J.nimp (qx prog q0J.iter 123) (z8 f123 44) (qj q4N q4W (qf jj)):=gk q0J qc q8 uU (alc (lk func123 qh8) aln) (b1 func123) func123
noncomputable def qgk:=qe yW [(123,f123)] [((123,6),qj q6n q5C (qf jS)),((123,44),qj q4N q4W (qf jj))] 0
noncomputable def vZ:=qm qgk 123 f123 true q4q q4x
theorem qb3:qJ prog qa 123 (q9 q4q q4x vZ):=sk qgk qc q8 uU (alc (lk func123 qin) (alc (lk func123 qhh) aln)) (b1 func123) func123
noncomputable def q98:FIn:=⟨[(.imm [(.int .i64),(.int .i64),(.int .i64)]),(.imm [(.int .i64)])],[]⟩
noncomputable def q8R:List FOut:=[⟨(.imm [(.int .i64),(.int .i64),(.int .i64)]),[],none⟩]
noncomputable def q6B:Tmpl:={ t:=((.imm [(.int .i64),(.int .i64),(.int .i64)])::qy 4 ((.vec 0)::.any::.any::(.imm [(.int .i64)])::(.int .i64)::(.int .i64)::qy 12 [])),h:=[.vec 31 [(.int .i64),(.int .i64),(.int .i64)]],pro:=[(5,31,[(.int .i64),(.int .i64),(.int .i64)])] }
noncomputable def q6u:List Out:=[⟨(.exit 0),{ t:=(qy 5 ((.vec 0)::qy 17 [])),h:=[.vec 31 [(.int .i64),(.int .i64),(.int .i64)]] }⟩]
noncomputable def q23:=qe [] [(151,f151)] [] 0
noncomputable def jO:=zM q23 151 f151 4 q6B q6u
theorem qi9:qk prog qa q23.nimp (qx prog q23.iter 151) (z8 f151 4) (qj q6B q6u (qf jO)):=gk q23 qc q8 aln aln (b1 func151) func151
noncomputable def qgm:=qe [] [(151,f151)] [((151,4),qj q6B q6u (qf jO))] 0
noncomputable def q1h:=qm qgm 151 f151 true q98 q8R
theorem qlc:qJ prog qa 151 (q9 q98 q8R q1h):=sk qgm qc q8 aln (alc (lk func151 qi9) aln) (b1 func151) func151
noncomputable def qfr:FIn:=⟨[.str],[]⟩
noncomputable def qfD:List FOut:=[⟨(.tuple [.str,.str,(.int .i64)]),[],none⟩]
noncomputable def qnf:=qe [(90,q9 q0O q0Q za),(106,q9 kh uZ zh)] [(249,f249)] [] 0
noncomputable def q5E:=qm qnf 249 f249 true qfr qfD
theorem qpq:qJ prog qa 249 (q9 qfr qfD q5E):=sk qnf qc q8 (alc kC (alc uO aln)) aln (b1 func249) func249
noncomputable def qig:FIn:=⟨[.str],[]⟩
noncomputable def qiM:List FOut:=[⟨(.tuple [(.int .i64),(.int .i64)]),[],none⟩]
noncomputable def qoP:=qe [(132,q9 q8w q8E yJ),(141,q9 ki kt zd)] [(250,f250)] [] 0
noncomputable def q8u:=qm qoP 250 f250 true qig qiM
theorem qqO:qJ prog qa 250 (q9 qig qiM q8u):=sk qoP qc q8 (alc qb0 (alc uR aln)) aln (b1 func250) func250
noncomputable def qhS:FIn:=⟨[.str],[]⟩
noncomputable def qhr:List FOut:=[⟨(.tuple [(.int .i64),(.int .i64)]),[],none⟩]
noncomputable def qpj:=qe [(249,q9 qfr qfD q5E),(250,q9 qig qiM q8u)] [(202,f202)] [] 0
noncomputable def q5m:=qm qpj 202 f202 true qhS qhr
theorem qrG:qJ prog qa 202 (q9 qhS qhr q5m):=sk qpj qc q8 (alc qpq (alc qqO aln)) aln (b1 func202) func202
noncomputable def wM:FIn:=⟨[.str],[]⟩
noncomputable def wF:List FOut:=[⟨.bool,[],none⟩]
noncomputable def q3R:=qe [(202,q9 qhS qhr q5m)] [(201,f201)] [] 0
noncomputable def zk:=qm q3R 201 f201 true wM wF
theorem yA:qJ prog qa 201 (q9 wM wF zk):=sk q3R qc q8 (alc qrG aln) aln (b1 func201) func201
noncomputable def qM:FIn:=⟨[(.imm [.str]),(.fn 201 [] [])],[]⟩
noncomputable def qL:List FOut:=[⟨.bool,[],none⟩]
noncomputable def qB:Tmpl:={ t:=((.imm [.str])::(.fn 201 [] [])::qy 5 ((.int .i64)::(.int .i64)::qy 10 [])),h:=[],fs:=[[(.imm [.str]),(.fn 201 [] []),.any,.any,(.blit false),(.imm [.str]),(.fn 201 [] []),.any,.any],[]] }
noncomputable def qD:List Out:=[⟨(.exit 0),{ t:=(qy 19 []),h:=[],fs:=[[(.imm [.str]),(.fn 201 [] []),.any,.any,(.blit false),(.imm [.str]),(.fn 201 [] []),.any,.any],[]] }⟩,⟨.ret,{ t:=(qy 4 ((.int .i64)::qy 14 [])),h:=[],fs:=[[(.imm [.str]),(.fn 201 [] []),.any,.any,(.blit false),(.imm [.str]),(.fn 201 [] []),.any,.any],[]] }⟩]
noncomputable def qq:=qe [(201,q9 wM wF zk)] [(48,f48),(99,f99)] [] 0
noncomputable def qh:=zM qq 99 f99 3 qB qD
theorem wG:qk prog qa qq.nimp (qx prog qq.iter 99) (z8 f99 3) (qj qB qD (qf qh)):=gk qq qc q8 (alc yA aln) aln (alc (bk func48) (alc (bk func99) aln)) func99
noncomputable def zm:=qe [(201,q9 wM wF zk)] [(48,f48),(99,f99)] [((99,3),qj qB qD (qf qh))] 0
noncomputable def qo:=qm zm 48 f48 true qM qL
theorem vj:qJ prog qa 48 (q9 qM qL qo):=sk zm qc q8 (alc yA aln) (alc (lk func99 wG) aln) (alc (bk func48) (alc (bk func99) aln)) func48
noncomputable def q0K:FIn:=⟨[(.agg [.str,.str,.str,.str,(.imm [.str])])],[]⟩
noncomputable def q0Y:List FOut:=[⟨.bool,[],none⟩]
noncomputable def q5w:=qe [(201,q9 wM wF zk),(48,q9 qM qL qo)] [(152,f152)] [] 0
noncomputable def vw:=qm q5w 152 f152 true q0K q0Y
theorem qc9:qJ prog qa 152 (q9 q0K q0Y vw):=sk q5w qc q8 (alc yA (alc vj aln)) aln (b1 func152) func152
noncomputable def q6w:FIn:=⟨[.str,.str],[]⟩
noncomputable def q5F:List FOut:=[⟨(.tuple [(.int .i64),(.int .i64)]),[],none⟩]
noncomputable def qhD:=qe [(89,q9 vn vq qF),(90,q9 q0O q0Q za),(91,q9 yg ya qv),(92,q9 q5B q5y ug)] [(34,f34)] [] 0
noncomputable def uk:=qm qhD 34 f34 true q6w q5F
theorem qcW:qJ prog qa 34 (q9 q6w q5F uk):=sk qhD qc q8 (alc v6 (alc kC (alc yZ (alc qd2 aln)))) aln (b1 func34) func34
noncomputable def kQ:FIn:=⟨[(.agg [.str,.str,.str,.str,(.imm [.str])]),(.imm [(.int .i64),(.int .i64),(.int .i64)])],[]⟩
noncomputable def kE:List FOut:=[⟨(.tuple [.bool,(.int .i64)]),[],none⟩]
noncomputable def yX:Tmpl:={ t:=(.any::.any::(.ptr 0 0)::qy 9 ((.imm [(.int .i64),(.int .i64),(.int .i64)])::(.int .i64)::(.int .i64)::qy 28 [])),h:=[.cells [.str,.str,.str,.str,(.imm [.str])]] }
noncomputable def u4:List Out:=[⟨(.exit 0),{ t:=(qy 43 []),h:=[] }⟩,⟨.ret,{ t:=(qy 4 (.bool::(.int .i64)::qy 37 [])),h:=[] }⟩]
noncomputable def vG:=qe [(34,q9 q6w q5F uk),(168,q9 q40 q3Y vl)] [(153,f153)] [] 0
noncomputable def z7:=zM vG 153 f153 3 yX u4
theorem q8v:qk prog qa vG.nimp (qx prog vG.iter 153) (z8 f153 3) (qj yX u4 (qf z7)):=gk vG qc q8 (alc qcW (alc q7h aln)) aln (b1 func153) func153
noncomputable def q49:=qe [(34,q9 q6w q5F uk),(168,q9 q40 q3Y vl)] [(153,f153)] [((153,3),qj yX u4 (qf z7))] 0
noncomputable def wH:=qm q49 153 f153 true kQ kE
theorem q9W:qJ prog qa 153 (q9 kQ kE wH):=sk q49 qc q8 (alc qcW (alc q7h aln)) (alc (lk func153 q8v) aln) (b1 func153) func153
noncomputable def q0B:FIn:=⟨[(.imm [(.int .i64),(.int .i64),(.int .i64)]),(.imm [(.int .i64)])],[]⟩
noncomputable def q0N:List FOut:=[⟨(.tuple [(.agg [.str,.str,.str,.str,(.imm [.str])]),.bool,(.int .i64)]),[],none⟩]
noncomputable def qc2:=qe [(123,q9 q4q q4x vZ),(151,q9 q98 q8R q1h),(152,q9 q0K q0Y vw),(153,q9 kQ kE wH)] [(114,f114)] [] 0
noncomputable def zl:=qm qc2 114 f114 true q0B q0N
theorem q74:qJ prog qa 114 (q9 q0B q0N zl):=sk qc2 qc q8 (alc qb3 (alc qlc (alc qc9 (alc q9W aln)))) aln (b1 func114) func114
noncomputable def q6N:FIn:=⟨[(.imm [(.int .i64),(.int .i64),(.int .i64)]),(.int .i64)],[]⟩
noncomputable def q63:List FOut:=[⟨(.tuple [(.agg [.str,.str,.str,.str,(.imm [.str])]),(.imm [(.int .i64)]),(.int .i64)]),[],none⟩]
noncomputable def q1H:Tmpl:={ t:=(.yld::.any::(.ptr 4 0)::.any::.any::(.vec 7)::.any::(.imm [(.int .i64)])::.any::(.int .i64)::.any::.any::(.int .i64)::(.int .i64)::.any::(.vec 6)::(.int .i64)::(.int .i64)::qy 35 []),h:=[.cells [(.imm [(.int .i64),(.int .i64),(.int .i64)])],.cells [.str,.str,.str,.str,.nils],.cells [.nils],.cells [(.int .i64)],.cells [(.int .i64)],.cells [(.int .i64)],.vec 35 [(.sl [(.int .i64)])],.vec 35 [(.sl [(.int .i64)])]],fs:=[[.any,.any,(.ptr 0 0),.any,(.ptr 1 0),(.ptr 2 0),(.ptr 3 0),.any,.any,.any,.any,.any,.any,.any,(.fn 149 [] [(.ptr 5 0),(.ptr 4 0)]),.any,.any,.any,.any,.any,.any,.any,.any,.any,.any,.any,.any,.any,.any,.any,.any],[]] }
noncomputable def q1O:List Out:=[⟨(.exit 4),{ t:=(.yld::.any::(.ptr 4 0)::.any::.any::(.vec 7)::qy 6 ((.int .i64)::(.int .i64)::.any::(.vec 6)::(.int .i64)::(.int .i64)::qy 35 [])),h:=[.cells [(.imm [(.int .i64),(.int .i64),(.int .i64)])],.cells [.str,.str,.str,.str,.nils],.cells [.nils],.cells [(.int .i64)],.cells [(.int .i64)],.cells [(.int .i64)],.vec 35 [(.sl [(.int .i64)])],.vec 35 [(.sl [(.int .i64)])]],fs:=[[.any,.any,(.ptr 0 0),.any,(.ptr 1 0),(.ptr 2 0),(.ptr 3 0),.any,.any,.any,.any,.any,.any,.any,(.fn 149 [] [(.ptr 5 0),(.ptr 4 0)]),.any,.any,.any,.any,.any,.any,.any,.any,.any,.any,.any,.any,.any,.any,.any,.any],[]] }⟩,⟨.ret,{ t:=(qy 53 []),h:=[.cells [(.imm [(.int .i64),(.int .i64),(.int .i64)])],.cells [.str,.str,.str,.str,(.imm [.str])],.cells [(.vec 8)],.cells [(.int .i64)],.cells [(.int .i64)],.cells [(.int .i64)],.dead,.dead,.frz 3 [(.int .i64)]],fs:=[[.any,.any,(.ptr 0 0),.any,(.ptr 1 0),(.ptr 2 0),(.ptr 3 0),.any,.any,.any,.any,.any,.any,.any,(.fn 149 [] [(.ptr 5 0),(.ptr 4 0)]),.any,.any,.any,.any,.any,.any,.any,.any,.any,.any,.any,.any,.any,.any,.any,.any],[]],pend:=(.some .ret) }⟩]
noncomputable def q1g:List (FuncId×zr):=[(114,q9 q0B q0N zl),(150,q9 q1D q1I wA)]
theorem q2I:∀x,x∈q1g->qJ prog qa x.1 x.2:=(alc q74 (alc qdR aln))
noncomputable def uA:Env:={ tt:=qd4,glob:=qa,spec:=q1g,body:=[(66,f66),(113,f113),(149,f149)],loops:=[],nimp:=0,iter:=[(149,66,3)],raws:=[150] }
noncomputable def qO:=qAB uA (some (66,f66,3)) 149 f149 18 q1H q1O
theorem qe0:qk prog qa uA.nimp (qx prog uA.iter 149) (z8 f149 18) (qj q1H q1O (qf qO)):=qcU (E:=uA) qc ⟨q8A q8,⟨q2I,aln⟩,aln,(alc (bk func66) (alc (bk func113) (alc (bk func149) aln)))⟩ func149 (by kernel_rfl) (y:=some (66,f66,3)) ⟨func66,by kernel_rfl⟩ (by kernel_rfl) (by kernel_rfl) (fun _=>rfl)
noncomputable def q2G:Tmpl:={ t:=(.yld::.any::(.ptr 4 0)::.any::.any::(.vec 7)::qy 6 ((.int .i64)::(.int .i64)::.any::(.vec 6)::(.int .i64)::(.int .i64)::qy 35 [])),h:=[.cells [(.imm [(.int .i64),(.int .i64),(.int .i64)])],.cells [.str,.str,.str,.str,.nils],.cells [.nils],.cells [(.int .i64)],.cells [(.int .i64)],.cells [(.int .i64)],.vec 35 [(.sl [(.int .i64)])],.vec 35 [(.sl [(.int .i64)])]],pro:=[(5,35,[(.sl [(.int .i64)])])],fs:=[[.any,.any,(.ptr 0 0),.any,(.ptr 1 0),(.ptr 2 0),(.ptr 3 0),.any,.any,.any,.any,.any,.any,.any,(.fn 149 [] [(.ptr 5 0),(.ptr 4 0)]),.any,.any,.any,.any,.any,.any,.any,.any,.any,.any,.any,.any,.any,.any,.any,.any],[]] }
noncomputable def q2u:List Out:=[⟨(.exit 2),{ t:=(.yld::.any::(.ptr 4 0)::.any::.any::(.vec 7)::qy 6 ((.int .i64)::(.int .i64)::qy 39 [])),h:=[.cells [(.imm [(.int .i64),(.int .i64),(.int .i64)])],.cells [.str,.str,.str,.str,.nils],.cells [.nils],.cells [(.int .i64)],.cells [(.int .i64)],.cells [(.int .i64)],.dead,.vec 35 [(.sl [(.int .i64)])]],fs:=[[.any,.any,(.ptr 0 0),.any,(.ptr 1 0),(.ptr 2 0),(.ptr 3 0),.any,.any,.any,.any,.any,.any,.any,(.fn 149 [] [(.ptr 5 0),(.ptr 4 0)]),.any,.any,.any,.any,.any,.any,.any,.any,.any,.any,.any,.any,.any,.any,.any,.any],[]] }⟩,⟨.ret,{ t:=(qy 53 []),h:=[.cells [(.imm [(.int .i64),(.int .i64),(.int .i64)])],.cells [.str,.str,.str,.str,(.imm [.str])],.cells [(.vec 8)],.cells [(.int .i64)],.cells [(.int .i64)],.cells [(.int .i64)],.dead,.dead,.frz 3 [(.int .i64)]],fs:=[[.any,.any,(.ptr 0 0),.any,(.ptr 1 0),(.ptr 2 0),(.ptr 3 0),.any,.any,.any,.any,.any,.any,.any,(.fn 149 [] [(.ptr 5 0),(.ptr 4 0)]),.any,.any,.any,.any,.any,.any,.any,.any,.any,.any,.any,.any,.any,.any,.any,.any],[]],pend:=(.some .ret) }⟩]
noncomputable def k9:Env:={ tt:=qd4,glob:=qa,spec:=q1g,body:=[(66,f66),(113,f113),(149,f149)],loops:=[((149,18),qj q1H q1O (qf qO))],nimp:=0,iter:=[(149,66,3)],raws:=[150] }
noncomputable def va:=qAB k9 (some (66,f66,3)) 149 f149 9 q2G q2u
theorem qeP:qk prog qa k9.nimp (qx prog k9.iter 149) (z8 f149 9) (qj q2G q2u (qf va)):=qcU (E:=k9) qc ⟨q8A q8,⟨q2I,aln⟩,(alc (lk func149 qe0) aln),(alc (bk func66) (alc (bk func113) (alc (bk func149) aln)))⟩ func149 (by kernel_rfl) (y:=some (66,f66,3)) ⟨func66,by kernel_rfl⟩ (by kernel_rfl) (by kernel_rfl) (fun _=>rfl)
noncomputable def q2h:Tmpl:={ t:=(.yld::.any::(.ptr 4 0)::.any::(.vec 6)::qy 7 ((.int .i64)::(.int .i64)::qy 39 [])),h:=[.cells [(.imm [(.int .i64),(.int .i64),(.int .i64)])],.cells [.str,.str,.str,.str,.nils],.cells [.nils],.cells [(.int .i64)],.cells [(.int .i64)],.cells [(.int .i64)],.vec 35 [(.sl [(.int .i64)])]],sw:=[(2,4),(4,6)],swn:=0,fs:=[[.any,.any,(.ptr 0 0),.any,(.ptr 1 0),(.ptr 2 0),(.ptr 3 0),.any,.any,.any,.any,.any,.any,.any,(.fn 149 [] [(.ptr 5 0),(.ptr 4 0)]),.any,.any,.any,.any,.any,.any,.any,.any,.any,.any,.any,.any,.any,.any,.any,.any],[]] }
noncomputable def q2q:List Out:=[⟨(.exit 0),{ t:=(qy 53 []),h:=[.cells [(.imm [(.int .i64),(.int .i64),(.int .i64)])],.cells [.str,.str,.str,.str,.nils],.cells [.nils],.cells [(.int .i64)],.cells [(.int .i64)],.cells [(.int .i64)]],fs:=[[.any,.any,(.ptr 0 0),.any,(.ptr 1 0),(.ptr 2 0),(.ptr 3 0),.any,.any,.any,.any,.any,.any,.any,(.fn 149 [] [(.ptr 5 0),(.ptr 4 0)]),.any,.any,.any,.any,.any,.any,.any,.any,.any,.any,.any,.any,.any,.any,.any,.any],[]] }⟩,⟨.ret,{ t:=(qy 53 []),h:=[.cells [(.imm [(.int .i64),(.int .i64),(.int .i64)])],.cells [.str,.str,.str,.str,(.imm [.str])],.cells [(.vec 8)],.cells [(.int .i64)],.cells [(.int .i64)],.cells [(.int .i64)],.dead,.dead,.frz 3 [(.int .i64)]],fs:=[[.any,.any,(.ptr 0 0),.any,(.ptr 1 0),(.ptr 2 0),(.ptr 3 0),.any,.any,.any,.any,.any,.any,.any,(.fn 149 [] [(.ptr 5 0),(.ptr 4 0)]),.any,.any,.any,.any,.any,.any,.any,.any,.any,.any,.any,.any,.any,.any,.any,.any],[]],pend:=(.some .ret) }⟩]
noncomputable def uV:Env:={ tt:=qd4,glob:=qa,spec:=q1g,body:=[(66,f66),(113,f113),(149,f149)],loops:=[((149,9),qj q2G q2u (qf va))],nimp:=0,iter:=[(149,66,3)],raws:=[150] }
noncomputable def wZ:=qAB uV (some (66,f66,3)) 149 f149 2 q2h q2q
theorem qel:qk prog qa uV.nimp (qx prog uV.iter 149) (z8 f149 2) (qj q2h q2q (qf wZ)):=qcU (E:=uV) qc ⟨q8A q8,⟨q2I,aln⟩,(alc (lk func149 qeP) aln),(alc (bk func66) (alc (bk func113) (alc (bk func149) aln)))⟩ func149 (by kernel_rfl) (y:=some (66,f66,3)) ⟨func66,by kernel_rfl⟩ (by kernel_rfl) (by kernel_rfl) (fun _=>rfl)
noncomputable def qiG:Env:={ tt:=qd4,glob:=qa,spec:=q1g,body:=[(66,f66),(113,f113),(149,f149)],loops:=[((149,2),qj q2h q2q (qf wZ))],nimp:=0,iter:=[(149,66,3)],raws:=[150] }
noncomputable def vt:=qm qiG 66 f66 true q6N q63
theorem qcQ:qJ prog qa 66 (q9 q6N q63 vt):=sk qiG qc q8 q2I (alc (lk func149 qel) aln) (alc (bk func66) (alc (bk func113) (alc (bk func149) aln))) func66
noncomputable def q1d:FIn:=⟨[(.imm [(.int .i64),(.int .i64)])],[]⟩
noncomputable def q1i:List FOut:=[⟨(.imm [(.int .i64),(.int .i64),(.int .i64)]),[],none⟩]
noncomputable def q5p:Tmpl:={ t:=(.any::.any::.any::(.vec 0)::.any::.any::(.imm [(.int .i64),(.int .i64)])::(.int .i64)::(.int .i64)::qy 13 []),h:=[.vec 31 [(.int .i64),(.int .i64),(.int .i64)]],pro:=[(3,31,[(.int .i64),(.int .i64),(.int .i64)])] }
noncomputable def q6h:List Out:=[⟨(.exit 0),{ t:=(.any::.any::.any::(.vec 0)::qy 18 []),h:=[.vec 31 [(.int .i64),(.int .i64),(.int .i64)]] }⟩]
noncomputable def q20:=qe [] [(67,f67)] [] 0
noncomputable def jL:=zM q20 67 f67 4 q5p q6h
theorem qiT:qk prog qa q20.nimp (qx prog q20.iter 67) (z8 f67 4) (qj q5p q6h (qf jL)):=gk q20 qc q8 aln aln (b1 func67) func67
noncomputable def qgK:=qe [] [(67,f67)] [((67,4),qj q5p q6h (qf jL))] 0
noncomputable def wQ:=qm qgK 67 f67 true q1d q1i
theorem q4K:qJ prog qa 67 (q9 q1d q1i wQ):=sk qgK qc q8 aln (alc (lk func67 qiT) aln) (b1 func67) func67
noncomputable def un:FIn:=⟨[(.agg [.str,.str,.str,.str,(.imm [.str])])],[]⟩
noncomputable def ut:List FOut:=[⟨(.agg [.str,.str]),[],none⟩]
noncomputable def q77:=qe [] [(68,f68)] [] 0
noncomputable def wD:=qm q77 68 f68 true un ut
theorem q3H:qJ prog qa 68 (q9 un ut wD):=sk q77 qc q8 aln aln (b1 func68) func68
noncomputable def q94:FIn:=⟨[(.imm [(.int .i64),(.int .i64)])],[]⟩
noncomputable def q8W:List FOut:=[⟨(.tuple [(.agg [.str,.str]),.str,(.imm [(.int .i64)]),(.int .i64)]),[],none⟩]
noncomputable def qh1:=qe [(65,q9 q4c q3X jw),(66,q9 q6N q63 vt),(67,q9 q1d q1i wQ),(68,q9 un ut wD)] [(16,f16)] [] 0
noncomputable def yh:=qm qh1 16 f16 true q94 q8W
theorem qkV:qJ prog qa 16 (q9 q94 q8W yh):=sk qh1 qc q8 (alc q7w (alc qcQ (alc q4K (alc q3H aln)))) aln (b1 func16) func16
noncomputable def q2Y:FIn:=⟨[(.agg [(.int .i64),(.int .i64),(.int .i64)])],[]⟩
noncomputable def q3e:List FOut:=[⟨.bool,[],none⟩]
noncomputable def qmD:=qe [(200,q9 q5D q6k z6)] [(155,f155)] [] 0
noncomputable def kw:=qm qmD 155 f155 true q2Y q3e
theorem q4f:qJ prog qa 155 (q9 q2Y q3e kw):=sk qmD qc q8 (alc qcr aln) aln (b1 func155) func155
noncomputable def q2d:FIn:=⟨[(.fn 155 [] []),(.imm [(.int .i64),(.int .i64),(.int .i64)])],[]⟩
noncomputable def q2x:List FOut:=[⟨(.int .i64),[],none⟩]
noncomputable def q0M:Tmpl:={ t:=((.fn 155 [] [])::qy 6 ((.imm [(.int .i64),(.int .i64),(.int .i64)])::(.int .i64)::(.int .i64)::qy 8 [])),h:=[] }
noncomputable def q0D:List Out:=[⟨(.exit 0),{ t:=(qy 18 []),h:=[] }⟩,⟨.ret,{ t:=(qy 4 ((.int .i64)::qy 13 [])),h:=[] }⟩]
noncomputable def yx:=qe [(155,q9 q2Y q3e kw)] [(203,f203)] [] 0
noncomputable def zv:=zM yx 203 f203 3 q0M q0D
theorem qck:qk prog qa yx.nimp (qx prog yx.iter 203) (z8 f203 3) (qj q0M q0D (qf zv)):=gk yx qc q8 (alc q4f aln) aln (b1 func203) func203
noncomputable def q8q:=qe [(155,q9 q2Y q3e kw)] [(203,f203)] [((203,3),qj q0M q0D (qf zv))] 0
noncomputable def jK:=qm q8q 203 f203 true q2d q2x
theorem qej:qJ prog qa 203 (q9 q2d q2x jK):=sk q8q qc q8 (alc q4f aln) (alc (lk func203 qck) aln) (b1 func203) func203
noncomputable def kP:FIn:=⟨[(.imm [(.int .i64),(.int .i64),(.int .i64)]),(.fn 155 [] [])],[]⟩
noncomputable def kD:List FOut:=[⟨(.int .i64),[],none⟩]
noncomputable def q47:=qe [(155,q9 q2Y q3e kw),(203,q9 q2d q2x jK)] [(154,f154)] [] 0
noncomputable def wI:=qm q47 154 f154 true kP kD
theorem qaz:qJ prog qa 154 (q9 kP kD wI):=sk q47 qc q8 (alc q4f (alc qej aln)) aln (b1 func154) func154
noncomputable def q4Y:FIn:=⟨[(.imm [(.int .i64),(.int .i64),(.int .i64)])],[]⟩
noncomputable def q50:List FOut:=[⟨(.int .i64),[],none⟩]
noncomputable def qc3:=qe [(154,q9 kP kD wI),(155,q9 q2Y q3e kw)] [(115,f115)] [] 0
noncomputable def u9:=qm qc3 115 f115 true q4Y q50
theorem qhe:qJ prog qa 115 (q9 q4Y q50 u9):=sk qc3 qc q8 (alc qaz (alc q4f aln)) aln (b1 func115) func115
noncomputable def q7R:FIn:=⟨[(.imm [(.int .i64),(.int .i64),(.int .i64)])],[]⟩
noncomputable def q7Z:List FOut:=[⟨(.int .i64),[],none⟩]
noncomputable def qjW:=qe [(112,q9 q8a q8c kG),(115,q9 q4Y q50 u9)] [(69,f69)] [] 0
noncomputable def kK:=qm qjW 69 f69 true q7R q7Z
theorem qei:qJ prog qa 69 (q9 q7R q7Z kK):=sk qjW qc q8 (alc qeu (alc qhe aln)) aln (b1 func69) func69
noncomputable def q91:FIn:=⟨[(.imm [(.int .i64),(.int .i64),(.int .i64)])],[]⟩
noncomputable def q9A:List FOut:=[⟨(.tuple [(.agg [.str,.str,.str]),.str,(.imm [(.int .i64)]),(.int .i64)]),[],none⟩]
noncomputable def qgq:=qe [(66,q9 q6N q63 vt),(69,q9 q7R q7Z kK)] [(17,f17)] [] 0
noncomputable def yf:=qm qgq 17 f17 true q91 q9A
theorem qlD:qJ prog qa 17 (q9 q91 q9A yf):=sk qgq qc q8 (alc qcQ (alc qei aln)) aln (b1 func17) func17
noncomputable def qaa:FIn:=⟨[.str],[]⟩
noncomputable def qae:List FOut:=[⟨(.int .i64),[],none⟩]
noncomputable def qbF:Tmpl:={ t:=(.str::.any::.any::(.int .i64)::qy 11 []),h:=[] }
noncomputable def qc6:List Out:=[⟨(.exit 0),{ t:=(qy 15 []),h:=[] }⟩,⟨.ret,{ t:=(.any::.any::(.int .i64)::qy 12 []),h:=[] }⟩]
noncomputable def q5Q:=qe [] [(72,f72)] [] 0
noncomputable def q2g:=zM q5Q 72 f72 3 qbF qc6
theorem qnz:qk prog qa q5Q.nimp (qx prog q5Q.iter 72) (z8 f72 3) (qj qbF qc6 (qf q2g)):=gk q5Q qc q8 aln aln (b1 func72) func72
noncomputable def qmi:=qe [] [(72,f72)] [((72,3),qj qbF qc6 (qf q2g))] 0
noncomputable def q0U:=qm qmi 72 f72 true qaa qae
theorem qgD:qJ prog qa 72 (q9 qaa qae q0U):=sk qmi qc q8 aln (alc (lk func72 qnz) aln) (b1 func72) func72
noncomputable def q3l:FIn:=⟨[.str],[]⟩
noncomputable def q2W:List FOut:=[⟨(.tuple [.str,.str]),[],none⟩]
noncomputable def qmC:=qe [(72,q9 qaa qae q0U)] [(70,f70)] [] 0
noncomputable def w9:=qm qmC 70 f70 true q3l q2W
theorem q4n:qJ prog qa 70 (q9 q3l q2W w9):=sk qmC qc q8 (alc qgD aln) aln (b1 func70) func70
noncomputable def j6:FIn:=⟨[.str],[]⟩
noncomputable def j4:List FOut:=[⟨.str,[],none⟩]
noncomputable def qp4:=qe [] [(116,f116)] [] 0
noncomputable def qt:=qm qp4 116 f116 true j6 j4
theorem wJ:qJ prog qa 116 (q9 j6 j4 qt):=sk qp4 qc q8 aln aln (b1 func116) func116
noncomputable def qfC:FIn:=⟨[.str],[]⟩
noncomputable def qfy:List FOut:=[⟨(.int .i64),[],none⟩]
noncomputable def qbK:Tmpl:={ t:=(.any::.any::.any::.str::(.int .i64)::qy 38 []),h:=[] }
noncomputable def qbc:List Out:=[⟨(.exit 0),{ t:=(.any::.any::.any::.str::qy 39 []),h:=[] }⟩,⟨.ret,{ t:=(.any::.any::(.int .i64)::qy 40 []),h:=[] }⟩]
noncomputable def q6y:=qe [(116,q9 j6 j4 qt)] [(71,f71)] [] 0
noncomputable def q2B:=zM q6y 71 f71 7 qbK qbc
theorem qnl:qk prog qa q6y.nimp (qx prog q6y.iter 71) (z8 f71 7) (qj qbK qbc (qf q2B)):=gk q6y qc q8 (alc wJ aln) aln (b1 func71) func71
noncomputable def qlY:=qe [(116,q9 j6 j4 qt)] [(71,f71)] [((71,7),qj qbK qbc (qf q2B))] 0
noncomputable def q2X:=qm qlY 71 f71 true qfC qfy
theorem qpN:qJ prog qa 71 (q9 qfC qfy q2X):=sk qlY qc q8 (alc wJ aln) (alc (lk func71 qnl) aln) (b1 func71) func71
noncomputable def jv:FIn:=⟨[.str],[]⟩
noncomputable def jr:List FOut:=[⟨.bool,[],none⟩]
noncomputable def qnd:=qe [] [(118,f118)] [] 0
noncomputable def qz:=qm qnd 118 f118 true jv jr
theorem j0:qJ prog qa 118 (q9 jv jr qz):=sk qnd qc q8 aln aln (b1 func118) func118
noncomputable def kA:FIn:=⟨[.str,.bool],[]⟩
noncomputable def kM:List FOut:=[⟨.str,[],none⟩]
noncomputable def qkf:=qe [] [(119,f119)] [] 0
noncomputable def zf:=qm qkf 119 f119 true kA kM
theorem q0t:qJ prog qa 119 (q9 kA kM zf):=sk qkf qc q8 aln aln (b1 func119) func119
noncomputable def yH:FIn:=⟨[.str],[]⟩
noncomputable def yL:List FOut:=[⟨.str,[],none⟩]
noncomputable def qkd:=qe [(116,q9 j6 j4 qt),(118,q9 jv jr qz),(119,q9 kA kM zf)] [(135,f135)] [] 0
noncomputable def zU:=qm qkd 135 f135 true yH yL
theorem yV:qJ prog qa 135 (q9 yH yL zU):=sk qkd qc q8 (alc wJ (alc j0 (alc q0t aln))) aln (b1 func135) func135
noncomputable def qgb:FIn:=⟨[(.int .i64)],[]⟩
noncomputable def qfx:List FOut:=[⟨.str,[],none⟩]
noncomputable def qg8:Tmpl:={ t:=((.int .i64)::.any::.any::.str::qy 33 []),h:=[] }
noncomputable def qfM:List Out:=[⟨(.exit 0),{ t:=((.int .i64)::.any::.any::.str::qy 33 []),h:=[] }⟩]
noncomputable def qay:=qe [(135,q9 yH yL zU)] [] [] 0
noncomputable def qa8:=zM qay 93 f93 9 qg8 qfM
theorem qps:qk prog qa qay.nimp (qx prog qay.iter 93) (z8 f93 9) (qj qg8 qfM (qf qa8)):=gk qay qc q8 (alc yV aln) aln aln func93
noncomputable def qsp:=qe [(135,q9 yH yL zU)] [] [((93,9),qj qg8 qfM (qf qa8))] 0
noncomputable def q4B:=qm qsp 93 f93 true qgb qfx
theorem qkn:qJ prog qa 93 (q9 qgb qfx q4B):=sk qsp qc q8 (alc yV aln) (alc (lk func93 qps) aln) aln func93
noncomputable def q7A:FIn:=⟨[(.int .i64)],[]⟩
noncomputable def q7D:List FOut:=[⟨.str,[],none⟩]
noncomputable def qhk:Tmpl:={ t:=((.int .i64)::.any::.any::.str::qy 33 []),h:=[] }
noncomputable def qik:List Out:=[⟨(.exit 0),{ t:=((.int .i64)::.any::.any::.str::qy 33 []),h:=[] }⟩]
noncomputable def qcx:=qe [(93,q9 qgb qfx q4B),(135,q9 yH yL zU)] [] [] 0
noncomputable def qcA:=zM qcx 93 f93 9 qhk qik
theorem qqm:qk prog qa qcx.nimp (qx prog qcx.iter 93) (z8 f93 9) (qj qhk qik (qf qcA)):=gk qcx qc q8 (alc qkn (alc yV aln)) aln aln func93
noncomputable def qtI:=qe [(93,q9 qgb qfx q4B),(135,q9 yH yL zU)] [] [((93,9),qj qhk qik (qf qcA))] 0
noncomputable def zK:=qm qtI 93 f93 true q7A q7D
theorem q6e:qJ prog qa 93 (q9 q7A q7D zK):=sk qtI qc q8 (alc qkn (alc yV aln)) (alc (lk func93 qqm) aln) aln func93
noncomputable def qdm:FIn:=⟨[.str],[]⟩
noncomputable def qe9:List FOut:=[⟨(.int .i64),[],none⟩]
noncomputable def q9x:Tmpl:={ t:=(.str::.any::.any::(.int .i64)::.str::(.int .i64)::qy 21 []),h:=[] }
noncomputable def q8P:List Out:=[⟨(.exit 0),{ t:=(.str::.any::.any::(.int .i64)::qy 23 []),h:=[] }⟩]
noncomputable def q4k:=qe [(116,q9 j6 j4 qt),(118,q9 jv jr qz)] [(156,f156)] [] 0
noncomputable def uS:=zM q4k 156 f156 4 q9x q8P
theorem qkW:qk prog qa q4k.nimp (qx prog q4k.iter 156) (z8 f156 4) (qj q9x q8P (qf uS)):=gk q4k qc q8 (alc wJ (alc j0 aln)) aln (b1 func156) func156
noncomputable def qkr:=qe [(116,q9 j6 j4 qt),(118,q9 jv jr qz)] [(156,f156)] [((156,4),qj q9x q8P (qf uS))] 0
noncomputable def yI:=qm qkr 156 f156 true qdm qe9
theorem qoh:qJ prog qa 156 (q9 qdm qe9 yI):=sk qkr qc q8 (alc wJ (alc j0 aln)) (alc (lk func156 qkW) aln) (b1 func156) func156
noncomputable def q2M:FIn:=⟨[.str,.str],[]⟩
noncomputable def q37:List FOut:=[⟨(.tuple [(.int .i64),(.int .i64),.bool]),[],none⟩]
noncomputable def qmZ:=qe [(116,q9 j6 j4 qt),(156,q9 qdm qe9 yI)] [(120,f120)] [] 0
noncomputable def vH:=qm qmZ 120 f120 true q2M q37
theorem q4y:qJ prog qa 120 (q9 q2M q37 vH):=sk qmZ qc q8 (alc wJ (alc qoh aln)) aln (b1 func120) func120
noncomputable def q8l:FIn:=⟨[.str],[]⟩
noncomputable def q8F:List FOut:=[⟨.str,[],none⟩]
noncomputable def qdT:Tmpl:={ t:=(.str::qy 13 []),h:=[] }
noncomputable def qe8:List Out:=[⟨(.exit 0),{ t:=(.str::qy 13 []),h:=[] }⟩]
noncomputable def q85:=qe [] [(204,f204)] [] 0
noncomputable def q3W:=zM q85 204 f204 2 qdT qe8
theorem qoA:qk prog qa q85.nimp (qx prog q85.iter 204) (z8 f204 2) (qj qdT qe8 (qf q3W)):=gk q85 qc q8 aln aln (b1 func204) func204
noncomputable def qoT:=qe [] [(204,f204)] [((204,2),qj qdT qe8 (qf q3W))] 0
noncomputable def yK:=qm qoT 204 f204 true q8l q8F
theorem qbE:qJ prog qa 204 (q9 q8l q8F yK):=sk qoT qc q8 aln (alc (lk func204 qoA) aln) (b1 func204) func204
noncomputable def qi0:FIn:=⟨[.str,(.int .i64)],[]⟩
noncomputable def qhQ:List FOut:=[⟨.str,[],none⟩]
noncomputable def qdr:Tmpl:={ t:=(.str::(.int .i64)::.any::.any::.any::(.vec 0)::(.int .i64)::qy 20 []),h:=[.vec 5 [(.int .u8)]] }
noncomputable def qdd:List Out:=[⟨(.exit 0),{ t:=(.str::(.int .i64)::.any::.any::.any::(.vec 0)::qy 21 []),h:=[.vec 5 [(.int .u8)]] }⟩]
noncomputable def q86:=qe [] [(231,f231)] [] 0
noncomputable def q1o:=zM q86 231 f231 4 qdr qdd
theorem qoM:qk prog qa q86.nimp (qx prog q86.iter 231) (z8 f231 4) (qj qdr qdd (qf q1o)):=gk q86 qc q8 aln aln (b1 func231) func231
noncomputable def qoS:=qe [] [(231,f231)] [((231,4),qj qdr qdd (qf q1o))] 0
noncomputable def q56:=qm qoS 231 f231 true qi0 qhQ
theorem qr9:qJ prog qa 231 (q9 qi0 qhQ q56):=sk qoS qc q8 aln (alc (lk func231 qoM) aln) (b1 func231) func231
noncomputable def qdp:FIn:=⟨[(.int .u8),(.int .u8),(.int .i64),.bool],[]⟩
noncomputable def qdP:List FOut:=[⟨(.tuple [(.int .u8),(.int .i64)]),[],none⟩]
noncomputable def qkx:=qe [] [(232,f232)] [] 0
noncomputable def q3U:=qm qkx 232 f232 true qdp qdP
theorem qof:qJ prog qa 232 (q9 qdp qdP q3U):=sk qkx qc q8 aln aln (b1 func232) func232
noncomputable def qaK:FIn:=⟨[.str,.str,.bool],[]⟩
noncomputable def q9U:List FOut:=[⟨.str,[],none⟩]
noncomputable def qbx:Tmpl:={ t:=(.str::.str::.bool::qy 5 ((.vec 0)::(.int .i64)::(.int .i64)::qy 38 [])),h:=[.vec 5 [(.int .u8)]] }
noncomputable def qbW:List Out:=[⟨(.exit 0),{ t:=(qy 8 ((.vec 0)::qy 40 [])),h:=[.vec 5 [(.int .u8)]] }⟩]
noncomputable def qdN:List (FuncId×zr):=[(204,q9 q8l q8F yK),(231,q9 qi0 qhQ q56),(232,q9 qdp qdP q3U)]
theorem qhv:∀x,x∈qdN->qJ prog qa x.1 x.2:=(alc qbE (alc qr9 (alc qof aln)))
noncomputable def q5Z:=qe qdN [(183,f183)] [] 0
noncomputable def q0k:=zM q5Z 183 f183 7 qbx qbW
theorem qmV:qk prog qa q5Z.nimp (qx prog q5Z.iter 183) (z8 f183 7) (qj qbx qbW (qf q0k)):=gk q5Z qc q8 qhv aln (b1 func183) func183
noncomputable def qng:=qe qdN [(183,f183)] [((183,7),qj qbx qbW (qf q0k))] 0
noncomputable def yw:=qm qng 183 f183 true qaK q9U
theorem qgM:qJ prog qa 183 (q9 qaK q9U yw):=sk qng qc q8 qhv (alc (lk func183 qmV) aln) (b1 func183) func183
noncomputable def qcK:FIn:=⟨[.str,.str],[]⟩
noncomputable def qcI:List FOut:=[⟨.bool,[],none⟩]
noncomputable def qoW:=qe [] [(184,f184)] [] 0
noncomputable def q2y:=qm qoW 184 f184 true qcK qcI
theorem qiE:qJ prog qa 184 (q9 qcK qcI q2y):=sk qoW qc q8 aln aln (b1 func184) func184
noncomputable def qcL:FIn:=⟨[.str,.str],[]⟩
noncomputable def qcM:List FOut:=[⟨.str,[],none⟩]
noncomputable def qp5:=qe [(93,q9 q7A q7D zK),(116,q9 j6 j4 qt),(118,q9 jv jr qz),(119,q9 kA kM zf),(120,q9 q2M q37 vH),(183,q9 qaK q9U yw),(184,q9 qcK qcI q2y)] [(136,f136)] [] 0
noncomputable def q2F:=qm qp5 136 f136 true qcL qcM
theorem qhR:qJ prog qa 136 (q9 qcL qcM q2F):=sk qp5 qc q8 (alc q6e (alc wJ (alc j0 (alc q0t (alc q4y (alc qgM (alc qiE aln))))))) aln (b1 func136) func136
noncomputable def q6A:FIn:=⟨[.str,.str],[]⟩
noncomputable def q6d:List FOut:=[⟨.str,[],none⟩]
noncomputable def qmk:=qe [(135,q9 yH yL zU),(136,q9 qcL qcM q2F)] [(117,f117)] [] 0
noncomputable def vE:=qm qmk 117 f117 true q6A q6d
theorem q9F:qJ prog qa 117 (q9 q6A q6d vE):=sk qmk qc q8 (alc yV (alc qhR aln)) aln (b1 func117) func117
noncomputable def q6U:FIn:=⟨[.str,.str],[]⟩
noncomputable def q5z:List FOut:=[⟨(.int .i64),[],none⟩]
noncomputable def qmz:=qe [(117,q9 q6A q6d vE),(118,q9 jv jr qz)] [(73,f73)] [] 0
noncomputable def yF:=qm qmz 73 f73 true q6U q5z
theorem q9u:qJ prog qa 73 (q9 q6U q5z yF):=sk qmz qc q8 (alc q9F (alc j0 aln)) aln (b1 func73) func73
noncomputable def qbM:FIn:=⟨[.str,.str],[]⟩
noncomputable def qaU:List FOut:=[⟨.str,[],none⟩]
noncomputable def q7u:Tmpl:={ t:=(.str::.str::.any::.any::.any::(.vec 0)::(.int .i64)::(.int .i64)::qy 69 []),h:=[.vec 3 [(.int .i64)]] }
noncomputable def q7P:List Out:=[⟨(.exit 2),{ t:=(.str::.str::.any::.any::.any::(.vec 0)::(.int .i64)::qy 70 []),h:=[.vec 3 [(.int .i64)]] }⟩]
noncomputable def q18:List (FuncId×zr):=[(204,q9 q8l q8F yK)]
theorem q38:∀x,x∈q18->qJ prog qa x.1 x.2:=(alc qbE aln)
noncomputable def q3h:=qe q18 [(158,f158)] [] 0
noncomputable def yR:=zM q3h 158 f158 9 q7u q7P
theorem qjK:qk prog qa q3h.nimp (qx prog q3h.iter 158) (z8 f158 9) (qj q7u q7P (qf yR)):=gk q3h qc q8 q38 aln (b1 func158) func158
noncomputable def q7E:Tmpl:={ t:=(.str::.str::.any::.any::.any::(.vec 0)::(.int .i64)::qy 70 []),h:=[.vec 3 [(.int .i64)]] }
noncomputable def q7N:List Out:=[⟨(.exit 0),{ t:=(qy 5 ((.vec 0)::qy 71 [])),h:=[.vec 3 [(.int .i64)]] }⟩]
noncomputable def q31:=qe q18 [(158,f158)] [((158,9),qj q7u q7P (qf yR))] 0
noncomputable def yN:=zM q31 158 f158 4 q7E q7N
theorem qjz:qk prog qa q31.nimp (qx prog q31.iter 158) (z8 f158 4) (qj q7E q7N (qf yN)):=gk q31 qc q8 q38 (alc (lk func158 qjK) aln) (b1 func158) func158
noncomputable def q6Y:Tmpl:={ t:=(qy 5 ((.vec 0)::.any::.any::(.vec 1)::(.int .i64)::(.int .i64)::qy 66 [])),h:=[.vec 3 [(.int .i64)],.vec 5 [(.int .u8)]] }
noncomputable def q6s:List Out:=[⟨(.exit 4),{ t:=(qy 8 ((.vec 1)::qy 68 [])),h:=[.dead,.vec 5 [(.int .u8)]] }⟩]
noncomputable def q1V:=qe q18 [(158,f158)] [] 0
noncomputable def jY:=zM q1V 158 f158 17 q6Y q6s
theorem qhw:qk prog qa q1V.nimp (qx prog q1V.iter 158) (z8 f158 17) (qj q6Y q6s (qf jY)):=gk q1V qc q8 q38 aln (b1 func158) func158
noncomputable def qi4:=qe q18 [(158,f158)] [((158,4),qj q7E q7N (qf yN)),((158,17),qj q6Y q6s (qf jY))] 0
noncomputable def q2i:=qm qi4 158 f158 true qbM qaU
theorem qmg:qJ prog qa 158 (q9 qbM qaU q2i):=sk qi4 qc q8 q38 (alc (lk func158 qjz) (alc (lk func158 qhw) aln)) (b1 func158) func158
noncomputable def qat:FIn:=⟨[.str,.str],[]⟩
noncomputable def qa6:List FOut:=[⟨.str,[],none⟩]
noncomputable def qnm:=qe [(93,q9 q7A q7D zK),(116,q9 j6 j4 qt),(118,q9 jv jr qz),(119,q9 kA kM zf),(120,q9 q2M q37 vH),(158,q9 qbM qaU q2i)] [(122,f122)] [] 0
noncomputable def wP:=qm qnm 122 f122 true qat qa6
theorem qgW:qJ prog qa 122 (q9 qat qa6 wP):=sk qnm qc q8 (alc q6e (alc wJ (alc j0 (alc q0t (alc q4y (alc qmg aln)))))) aln (b1 func122) func122
noncomputable def qbD:FIn:=⟨[.str,.str],[]⟩
noncomputable def qbS:List FOut:=[⟨(.tuple [.str,.str]),[],none⟩]
noncomputable def q6J:Tmpl:={ t:=(.str::.str::qy 4 (.str::.str::(.int .i64)::(.int .u8)::qy 31 [])),h:=[] }
noncomputable def q67:List Out:=[⟨(.exit 2),{ t:=(.str::.str::qy 4 (.str::.str::(.int .i64)::(.int .u8)::qy 31 [])),h:=[] }⟩]
noncomputable def q4g:List (FuncId×zr):=[(183,q9 qaK q9U yw),(184,q9 qcK qcI q2y),(204,q9 q8l q8F yK)]
theorem q7n:∀x,x∈q4g->qJ prog qa x.1 x.2:=(alc qgM (alc qiE (alc qbE aln)))
noncomputable def q21:=qe q4g [(157,f157)] [] 0
noncomputable def jV:=zM q21 157 f157 11 q6J q67
theorem qhz:qk prog qa q21.nimp (qx prog q21.iter 157) (z8 f157 11) (qj q6J q67 (qf jV)):=gk q21 qc q8 q7n aln (b1 func157) func157
noncomputable def q7i:Tmpl:={ t:=(.str::.str::qy 4 (.str::.str::(.int .i64)::qy 32 [])),h:=[] }
noncomputable def q7j:List Out:=[⟨(.exit 0),{ t:=(qy 6 (.str::.str::qy 33 [])),h:=[] }⟩]
noncomputable def q2S:=qe q4g [(157,f157)] [((157,11),qj q6J q67 (qf jV))] 0
noncomputable def q09:=zM q2S 157 f157 4 q7i q7j
theorem qjD:qk prog qa q2S.nimp (qx prog q2S.iter 157) (z8 f157 4) (qj q7i q7j (qf q09)):=gk q2S qc q8 q7n (alc (lk func157 qhz) aln) (b1 func157) func157
noncomputable def qiH:=qe q4g [(157,f157)] [((157,4),qj q7i q7j (qf q09))] 0
noncomputable def q2s:=qm qiH 157 f157 true qbD qbS
theorem qme:qJ prog qa 157 (q9 qbD qbS q2s):=sk qiH qc q8 q7n (alc (lk func157 qjD) aln) (b1 func157) func157
noncomputable def q84:FIn:=⟨[.str,.str],[]⟩
noncomputable def q8f:List FOut:=[⟨(.tuple [.str,.str]),[],none⟩]
noncomputable def qkq:=qe [(93,q9 q7A q7D zK),(116,q9 j6 j4 qt),(117,q9 q6A q6d vE),(118,q9 jv jr qz),(119,q9 kA kM zf),(120,q9 q2M q37 vH),(122,q9 qat qa6 wP),(157,q9 qbD qbS q2s)] [(121,f121)] [] 0
noncomputable def vk:=qm qkq 121 f121 true q84 q8f
theorem qer:qJ prog qa 121 (q9 q84 q8f vk):=sk qkq qc q8 (alc q6e (alc wJ (alc q9F (alc j0 (alc q0t (alc q4y (alc qgW (alc qme aln)))))))) aln (b1 func121) func121
noncomputable def q7T:FIn:=⟨[.str,.str],[]⟩
noncomputable def q7W:List FOut:=[⟨.str,[],none⟩]
noncomputable def q7o:Tmpl:={ t:=(qy 5 ((.int .i64)::(.int .i64)::qy 36 [])),h:=[] }
noncomputable def q7t:List Out:=[⟨(.exit 2),{ t:=(qy 5 ((.int .i64)::qy 37 [])),h:=[] }⟩]
noncomputable def q6c:List (FuncId×zr):=[(93,q9 q7A q7D zK),(116,q9 j6 j4 qt),(119,q9 kA kM zf),(120,q9 q2M q37 vH),(121,q9 q84 q8f vk)]
theorem q9f:∀x,x∈q6c->qJ prog qa x.1 x.2:=(alc q6e (alc wJ (alc q0t (alc q4y (alc qer aln)))))
noncomputable def q2J:=qe q6c [(74,f74)] [] 0
noncomputable def yP:=zM q2J 74 f74 10 q7o q7t
theorem qjJ:qk prog qa q2J.nimp (qx prog q2J.iter 74) (z8 f74 10) (qj q7o q7t (qf yP)):=gk q2J qc q8 q9f aln (b1 func74) func74
noncomputable def q9z:Tmpl:={ t:=(.str::.str::qy 41 []),h:=[] }
noncomputable def q9j:List Out:=[⟨(.exit 0),{ t:=(.str::qy 42 []),h:=[] }⟩,⟨.ret,{ t:=(qy 4 (.str::qy 38 [])),h:=[] }⟩]
noncomputable def q4m:=qe q6c [(74,f74)] [((74,10),qj q7o q7t (qf yP))] 0
noncomputable def q1f:=zM q4m 74 f74 3 q9z q9j
theorem qkX:qk prog qa q4m.nimp (qx prog q4m.iter 74) (z8 f74 3) (qj q9z q9j (qf q1f)):=gk q4m qc q8 q9f (alc (lk func74 qjJ) aln) (b1 func74) func74
noncomputable def qk1:=qe q6c [(74,f74)] [((74,3),qj q9z q9j (qf q1f))] 0
noncomputable def kH:=qm qk1 74 f74 true q7T q7W
theorem qes:qJ prog qa 74 (q9 q7T q7W kH):=sk qk1 qc q8 q9f (alc (lk func74 qkX) aln) (b1 func74) func74
noncomputable def q6R:FIn:=⟨[.str],[]⟩
noncomputable def q5W:List FOut:=[⟨(.int .i64),[],none⟩]
noncomputable def qn4:=qe [(70,q9 q3l q2W w9),(71,q9 qfC qfy q2X),(72,q9 qaa qae q0U),(73,q9 q6U q5z yF),(74,q9 q7T q7W kH)] [(19,f19)] [] 0
noncomputable def q0E:=qm qn4 19 f19 true q6R q5W
theorem q9w:qJ prog qa 19 (q9 q6R q5W q0E):=sk qn4 qc q8 (alc q4n (alc qpN (alc qgD (alc q9u (alc qes aln))))) aln (b1 func19) func19
noncomputable def ui:FIn:=⟨[.str,.str],[]⟩
noncomputable def u6:List FOut:=[⟨(.imm [.str]),[],none⟩]
noncomputable def qhB:=qe [(70,q9 q3l q2W w9),(122,q9 qat qa6 wP)] [(75,f75)] [] 0
noncomputable def zq:=qm qhB 75 f75 true ui u6
theorem ka:qJ prog qa 75 (q9 ui u6 zq):=sk qhB qc q8 (alc q4n (alc qgW aln)) aln (b1 func75) func75
noncomputable def qax:FIn:=⟨[.str,.str],[]⟩
noncomputable def qaM:List FOut:=[⟨(.int .i64),[],none⟩]
noncomputable def qm5:=qe [(73,q9 q6U q5z yF),(75,q9 ui u6 zq)] [(20,f20)] [] 0
noncomputable def q0A:=qm qm5 20 f20 true qax qaM
theorem qgL:qJ prog qa 20 (q9 qax qaM q0A):=sk qm5 qc q8 (alc q9u (alc ka aln)) aln (b1 func20) func20
noncomputable def q80:FIn:=⟨[(.imm [(.int .i64),(.int .i64),(.int .i64)]),(.imm [(.int .i64)])],[]⟩
noncomputable def q88:List FOut:=[⟨(.imm [(.int .i64),(.int .i64),(.int .i64)]),[],none⟩]
noncomputable def q9o:Tmpl:={ t:=((.imm [(.int .i64),(.int .i64),(.int .i64)])::(.imm [(.int .i64)])::.any::.any::.any::(.vec 0)::(.int .i64)::qy 17 []),h:=[.vec 31 [(.int .i64),(.int .i64),(.int .i64)]],pro:=[(5,31,[(.int .i64),(.int .i64),(.int .i64)])] }
noncomputable def q9r:List Out:=[⟨(.exit 0),{ t:=(qy 5 ((.vec 0)::qy 18 [])),h:=[.vec 31 [(.int .i64),(.int .i64),(.int .i64)]] }⟩]
noncomputable def q4e:=qe [] [(21,f21)] [] 0
noncomputable def uJ:=zM q4e 21 f21 4 q9o q9r
theorem qly:qk prog qa q4e.nimp (qx prog q4e.iter 21) (z8 f21 4) (qj q9o q9r (qf uJ)):=gk q4e qc q8 aln aln (b1 func21) func21
noncomputable def qk0:=qe [] [(21,f21)] [((21,4),qj q9o q9r (qf uJ))] 0
noncomputable def kN:=qm qk0 21 f21 true q80 q88
theorem qf4:qJ prog qa 21 (q9 q80 q88 kN):=sk qk0 qc q8 aln (alc (lk func21 qly) aln) (b1 func21) func21
noncomputable def qkI:FIn:=⟨[(.imm [(.int .i64),(.int .i64)])],[]⟩
noncomputable def qkP:List FOut:=[⟨.bool,[],none⟩]
noncomputable def qqY:=qe [] [(22,f22)] [] 0
noncomputable def qb6:=qm qqY 22 f22 true qkI qkP
theorem qt3:qJ prog qa 22 (q9 qkI qkP qb6):=sk qqY qc q8 aln aln (b1 func22) func22
noncomputable def q9h:FIn:=⟨[(.imm [(.int .i64),(.int .i64),(.int .i64)]),(.int .i64)],[]⟩
noncomputable def q8V:List FOut:=[⟨(.tuple [(.agg [.str,.str,.str,.str,(.imm [.str])]),(.int .i64)]),[],none⟩]
noncomputable def qh0:=qe [(123,q9 q4q q4x vZ)] [(78,f78)] [] 0
noncomputable def q1c:=qm qh0 78 f78 true q9h q8V
theorem ql9:qJ prog qa 78 (q9 q9h q8V q1c):=sk qh0 qc q8 (alc qb3 aln) aln (b1 func78) func78
noncomputable def q9t:FIn:=⟨[(.imm [(.int .i64),(.int .i64)])],[]⟩
noncomputable def q8S:List FOut:=[⟨(.tuple [(.agg [.str,.str]),.str,(.int .i64)]),[],none⟩]
noncomputable def qgo:=qe [(65,q9 q4c q3X jw),(67,q9 q1d q1i wQ),(68,q9 un ut wD),(78,q9 q9h q8V q1c)] [(24,f24)] [] 0
noncomputable def yi:=qm qgo 24 f24 true q9t q8S
theorem qlr:qJ prog qa 24 (q9 q9t q8S yi):=sk qgo qc q8 (alc q7w (alc q4K (alc q3H (alc ql9 aln)))) aln (b1 func24) func24
noncomputable def jH:FIn:=⟨[(.imm [.str]),(.imm [.str])],[]⟩
noncomputable def jI:List FOut:=[⟨.bool,[],none⟩]
noncomputable def j8:Tmpl:={ t:=((.imm [.str])::(.imm [.str])::qy 10 ((.int .i64)::(.int .i64)::qy 12 [])),h:=[] }
noncomputable def j7:List Out:=[⟨(.exit 0),{ t:=(qy 26 []),h:=[] }⟩,⟨.ret,{ t:=(qy 4 (.bool::qy 21 [])),h:=[] }⟩]
noncomputable def zN:=qe [] [(127,f127)] [] 0
noncomputable def qK:=zM zN 127 f127 6 j8 j7
theorem q4Z:qk prog qa zN.nimp (qx prog zN.iter 127) (z8 f127 6) (qj j8 j7 (qf qK)):=gk zN qc q8 aln aln (b1 func127) func127
noncomputable def q0w:=qe [] [(127,f127)] [((127,6),qj j8 j7 (qf qK))] 0
noncomputable def qR:=qm q0w 127 f127 true jH jI
theorem q5P:qJ prog qa 127 (q9 jH jI qR):=sk q0w qc q8 aln (alc (lk func127 q4Z) aln) (b1 func127) func127
noncomputable def q24:FIn:=⟨[(.imm [(.int .i64),(.int .i64),(.int .i64)]),(.imm [.str]),(.imm [(.int .i64)]),(.int .i64)],[]⟩
noncomputable def q1U:List FOut:=[⟨(.tuple [.bool,(.int .i64)]),[],none⟩]
noncomputable def q3v:Tmpl:={ t:=((.imm [(.int .i64),(.int .i64),(.int .i64)])::(.imm [.str])::(.imm [(.int .i64)])::(.int .i64)::qy 14 ((.imm [.str])::(.int .i64)::(.int .i64)::qy 71 [])),h:=[] }
noncomputable def q3D:List Out:=[⟨(.exit 0),{ t:=((.imm [(.int .i64),(.int .i64),(.int .i64)])::(.imm [.str])::(.imm [(.int .i64)])::(.int .i64)::qy 88 []),h:=[] }⟩,⟨.ret,{ t:=(qy 8 (.bool::(.int .i64)::qy 82 [])),h:=[] }⟩]
noncomputable def q0W:List (FuncId×zr):=[(106,q9 kh uZ zh),(114,q9 q0B q0N zl),(127,q9 jH jI qR)]
theorem q3x:∀x,x∈q0W->qJ prog qa x.1 x.2:=(alc uO (alc q74 (alc q5P aln)))
noncomputable def kY:=qe q0W [(83,f83)] [] 0
noncomputable def vV:=zM kY 83 f83 3 q3v q3D
theorem qfb:qk prog qa kY.nimp (qx prog kY.iter 83) (z8 f83 3) (qj q3v q3D (qf vV)):=gk kY qc q8 q3x aln (b1 func83) func83
noncomputable def q2C:Tmpl:={ t:=((.imm [(.int .i64),(.int .i64),(.int .i64)])::(.imm [.str])::(.imm [(.int .i64)])::(.int .i64)::qy 35 ((.imm [(.int .i64)])::(.int .i64)::(.int .i64)::qy 50 [])),h:=[] }
noncomputable def q2w:List Out:=[⟨(.exit 3),{ t:=((.imm [(.int .i64),(.int .i64),(.int .i64)])::(.imm [.str])::(.imm [(.int .i64)])::(.int .i64)::qy 88 []),h:=[] }⟩,⟨.ret,{ t:=(qy 8 (.bool::(.int .i64)::qy 82 [])),h:=[] }⟩]
noncomputable def ko:=qe q0W [(83,f83)] [] 0
noncomputable def wX:=zM ko 83 f83 18 q2C q2w
theorem qeM:qk prog qa ko.nimp (qx prog ko.iter 83) (z8 f83 18) (qj q2C q2w (qf wX)):=gk ko qc q8 q3x aln (b1 func83) func83
noncomputable def qd0:=qe q0W [(83,f83)] [((83,3),qj q3v q3D (qf vV)),((83,18),qj q2C q2w (qf wX))] 0
noncomputable def qP:=qm qd0 83 f83 true q24 q1U
theorem q8z:qJ prog qa 83 (q9 q24 q1U qP):=sk qd0 qc q8 q3x (alc (lk func83 qfb) (alc (lk func83 qeM) aln)) (b1 func83) func83
noncomputable def uw:FIn:=⟨[(.imm [(.int .i64),(.int .i64)]),(.agg [.str,.str]),.str,(.imm [(.int .i64)])],[]⟩
noncomputable def ul:List FOut:=[⟨(.tuple [.bool,(.int .i64)]),[],none⟩]
noncomputable def q78:=qe [(65,q9 q4c q3X jw),(67,q9 q1d q1i wQ),(83,q9 q24 q1U qP)] [(29,f29)] [] 0
noncomputable def zc:=qm q78 29 f29 true uw ul
theorem q46:qJ prog qa 29 (q9 uw ul zc):=sk q78 qc q8 (alc q7w (alc q4K (alc q8z aln))) aln (b1 func29) func29
noncomputable def qo1:FIn:=⟨[(.int .i64),(.int .i64)],[]⟩
noncomputable def qo4:List FOut:=[⟨(.agg [(.int .i64),(.int .i64)]),[],none⟩]
noncomputable def quv:=qe [] [(76,f76)] [] 0
noncomputable def q1u:=qm quv 76 f76 true qo1 qo4
theorem quI:qJ prog qa 76 (q9 qo1 qo4 q1u):=sk quv qc q8 aln aln (b1 func76) func76
noncomputable def q1G:FIn:=⟨[(.imm [(.int .i64)]),(.imm [(.int .i64)])],[]⟩
noncomputable def q1x:List FOut:=[⟨.bool,[],none⟩]
noncomputable def q0j:Tmpl:={ t:=((.imm [(.int .i64)])::(.imm [(.int .i64)])::qy 10 ((.int .i64)::(.int .i64)::qy 12 [])),h:=[] }
noncomputable def q0h:List Out:=[⟨(.exit 0),{ t:=(qy 26 []),h:=[] }⟩,⟨.ret,{ t:=(qy 4 (.bool::qy 21 [])),h:=[] }⟩]
noncomputable def jX:=qe [] [(77,f77)] [] 0
noncomputable def zL:=zM jX 77 f77 6 q0j q0h
theorem qaX:qk prog qa jX.nimp (qx prog jX.iter 77) (z8 f77 6) (qj q0j q0h (qf zL)):=gk jX qc q8 aln aln (b1 func77) func77
noncomputable def q7c:=qe [] [(77,f77)] [((77,6),qj q0j q0h (qf zL))] 0
noncomputable def wy:=qm q7c 77 f77 true q1G q1x
theorem qec:qJ prog qa 77 (q9 q1G q1x wy):=sk q7c qc q8 aln (alc (lk func77 qaX) aln) (b1 func77) func77
noncomputable def qac:FIn:=⟨[],[]⟩
noncomputable def qa7:List FOut:=[⟨.bool,[],none⟩]
noncomputable def qnc:=qe [(16,q9 q94 q8W yh),(17,q9 q91 q9A yf),(24,q9 q9t q8S yi),(29,q9 uw ul zc),(76,q9 qo1 qo4 q1u),(77,q9 q1G q1x wy)] [(23,f23)] [] 0
noncomputable def vP:=qm qnc 23 f23 true qac qa7
theorem qh3:qJ prog qa 23 (q9 qac qa7 vP):=sk qnc qc q8 (alc qkV (alc qlD (alc qlr (alc q46 (alc quI (alc qec aln)))))) aln (b1 func23) func23
noncomputable def qdL:FIn:=⟨[(.imm [(.int .i64),(.int .i64)])],[]⟩
noncomputable def qe5:List FOut:=[⟨(.imm [(.int .i64),(.int .i64),(.int .i64)]),[],none⟩]
noncomputable def q9q:Tmpl:={ t:=((.imm [(.int .i64),(.int .i64)])::.any::.any::(.vec 0)::(.int .i64)::qy 21 []),h:=[.vec 31 [(.int .i64),(.int .i64),(.int .i64)]],pro:=[(3,31,[(.int .i64),(.int .i64),(.int .i64)])] }
noncomputable def q9p:List Out:=[⟨(.exit 0),{ t:=(.any::.any::.any::(.vec 0)::qy 22 []),h:=[.vec 31 [(.int .i64),(.int .i64),(.int .i64)]] }⟩]
noncomputable def q4j:=qe [] [(42,f42)] [] 0
noncomputable def uN:=zM q4j 42 f42 4 q9q q9p
theorem qlG:qk prog qa q4j.nimp (qx prog q4j.iter 42) (z8 f42 4) (qj q9q q9p (qf uN)):=gk q4j qc q8 aln aln (b1 func42) func42
noncomputable def qjZ:=qe [] [(42,f42)] [((42,4),qj q9q q9p (qf uN))] 0
noncomputable def q3V:=qm qjZ 42 f42 true qdL qe5
theorem qnQ:qJ prog qa 42 (q9 qdL qe5 q3V):=sk qjZ qc q8 aln (alc (lk func42 qlG) aln) (b1 func42) func42
noncomputable def qj8:FIn:=⟨[(.int .i64)],[]⟩
noncomputable def qjp:List FOut:=[⟨.bool,[],none⟩]
noncomputable def quj:=qe [] [(86,f86)] [] 0
noncomputable def jh:=qm quj 86 f86 true qj8 qjp
theorem qm6:qJ prog qa 86 (q9 qj8 qjp jh):=sk quj qc q8 aln aln (b1 func86) func86
noncomputable def qal:FIn:=⟨[(.agg [(.int .i64),(.int .i64)])],[]⟩
noncomputable def qan:List FOut:=[⟨.bool,[],none⟩]
noncomputable def qm7:=qe [(86,q9 qj8 qjp jh)] [(32,f32)] [] 0
noncomputable def q3b:=qm qm7 32 f32 true qal qan
theorem qgR:qJ prog qa 32 (q9 qal qan q3b):=sk qm7 qc q8 (alc qm6 aln) aln (b1 func32) func32
noncomputable def qgg:FIn:=⟨[(.imm [(.int .i64),(.int .i64)])],[]⟩
noncomputable def qfI:List FOut:=[⟨(.int .i64),[],none⟩]
noncomputable def qbb:Tmpl:={ t:=((.imm [(.int .i64),(.int .i64)])::.any::.any::(.int .i64)::qy 15 []),h:=[] }
noncomputable def qb1:List Out:=[⟨(.exit 0),{ t:=(qy 19 []),h:=[] }⟩,⟨.ret,{ t:=(.any::.any::(.int .i64)::qy 16 []),h:=[] }⟩]
noncomputable def q6m:=qe [(32,q9 qal qan q3b)] [(50,f50)] [] 0
noncomputable def ub:=zM q6m 50 f50 6 qbb qb1
theorem qmN:qk prog qa q6m.nimp (qx prog q6m.iter 50) (z8 f50 6) (qj qbb qb1 (qf ub)):=gk q6m qc q8 (alc qgR aln) aln (b1 func50) func50
noncomputable def qmd:=qe [(32,q9 qal qan q3b)] [(50,f50)] [((50,6),qj qbb qb1 (qf ub))] 0
noncomputable def q6z:=qm qmd 50 f50 true qgg qfI
theorem qpv:qJ prog qa 50 (q9 qgg qfI q6z):=sk qmd qc q8 (alc qgR aln) (alc (lk func50 qmN) aln) (b1 func50) func50
noncomputable def qiD:FIn:=⟨[(.imm [(.int .i64),(.int .i64)])],[]⟩
noncomputable def qio:List FOut:=[⟨(.int .i64),[],none⟩]
noncomputable def qp2:=qe [(50,q9 qgg qfI q6z)] [(79,f79)] [] 0
noncomputable def q8J:=qm qp2 79 f79 true qiD qio
theorem qsf:qJ prog qa 79 (q9 qiD qio q8J):=sk qp2 qc q8 (alc qpv aln) aln (b1 func79) func79
noncomputable def q6q:FIn:=⟨[(.int .i64)],[]⟩
noncomputable def q6g:List FOut:=[⟨.str,[],none⟩]
noncomputable def qms:=qe [(93,q9 q7A q7D zK)] [(35,f35)] [] 0
noncomputable def zX:=qm qms 35 f35 true q6q q6g
theorem q92:qJ prog qa 35 (q9 q6q q6g zX):=sk qms qc q8 (alc q6e aln) aln (b1 func35) func35
noncomputable def q1r:FIn:=⟨[.str,.str],[]⟩
noncomputable def q1l:List FOut:=[⟨.str,[],none⟩]
noncomputable def qjP:=qe [(74,q9 q7T q7W kH),(118,q9 jv jr qz),(121,q9 q84 q8f vk),(135,q9 yH yL zU)] [(102,f102)] [] 0
noncomputable def wL:=qm qjP 102 f102 true q1r q1l
theorem q3k:qJ prog qa 102 (q9 q1r q1l wL):=sk qjP qc q8 (alc qes (alc j0 (alc qer (alc yV aln)))) aln (b1 func102) func102
noncomputable def q6X:FIn:=⟨[.str,.str],[]⟩
noncomputable def q6L:List FOut:=[⟨.str,[],none⟩]
noncomputable def qlW:=qe [(75,q9 ui u6 zq),(102,q9 q1r q1l wL)] [(54,f54)] [] 0
noncomputable def zE:=qm qlW 54 f54 true q6X q6L
theorem q8L:qJ prog qa 54 (q9 q6X q6L zE):=sk qlW qc q8 (alc ka (alc q3k aln)) aln (b1 func54) func54
noncomputable def qaC:FIn:=⟨[.str,.str],[]⟩
noncomputable def qaG:List FOut:=[⟨.str,[],none⟩]
noncomputable def qmn:=qe [(75,q9 ui u6 zq),(102,q9 q1r q1l wL),(117,q9 q6A q6d vE)] [(96,f96)] [] 0
noncomputable def vM:=qm qmn 96 f96 true qaC qaG
theorem qgQ:qJ prog qa 96 (q9 qaC qaG vM):=sk qmn qc q8 (alc ka (alc q3k (alc q9F aln))) aln (b1 func96) func96
noncomputable def q52:FIn:=⟨[.str,.str],[]⟩
noncomputable def q5k:List FOut:=[⟨.str,[],none⟩]
noncomputable def qpn:=qe [(75,q9 ui u6 zq),(102,q9 q1r q1l wL),(136,q9 qcL qcM q2F)] [(97,f97)] [] 0
noncomputable def zR:=qm qpn 97 f97 true q52 q5k
theorem q6G:qJ prog qa 97 (q9 q52 q5k zR):=sk qpn qc q8 (alc ka (alc q3k (alc qhR aln))) aln (b1 func97) func97
noncomputable def q8m:FIn:=⟨[(.agg [.str,.str,.str]),(.agg [(.int .i64),(.int .i64),(.int .i64)])],[]⟩
noncomputable def q8H:List FOut:=[⟨.str,[],none⟩]
noncomputable def qdS:Tmpl:={ t:=(.any::.any::(.ptr 0 0)::.any::.any::.str::qy 9 ((.agg [(.int .i64),(.int .i64),(.int .i64)])::(.int .i64)::qy 16 [])),h:=[.cells [.str,.str,.str]] }
noncomputable def qe2:List Out:=[⟨(.exit 0),{ t:=(qy 5 (.str::qy 27 [])),h:=[] }⟩]
noncomputable def qfq:List (FuncId×zr):=[(35,q9 q6q q6g zX),(54,q9 q6X q6L zE),(96,q9 qaC qaG vM),(97,q9 q52 q5k zR)]
theorem qjR:∀x,x∈qfq->qJ prog qa x.1 x.2:=(alc q92 (alc q8L (alc qgQ (alc q6G aln))))
noncomputable def q89:=qe qfq [(43,f43)] [] 0
noncomputable def q1k:=zM q89 43 f43 4 qdS qe2
theorem qo9:qk prog qa q89.nimp (qx prog q89.iter 43) (z8 f43 4) (qj qdS qe2 (qf q1k)):=gk q89 qc q8 qjR aln (b1 func43) func43
noncomputable def qoU:=qe qfq [(43,f43)] [((43,4),qj qdS qe2 (qf q1k))] 0
noncomputable def yM:=qm qoU 43 f43 true q8m q8H
theorem qbe:qJ prog qa 43 (q9 q8m q8H yM):=sk qoU qc q8 qjR (alc (lk func43 qo9) aln) (b1 func43) func43
end Go.Eng

namespace Go.Eng
open Go.Proofs
open Tryz
noncomputable def qiR:FIn:=⟨[(.agg [(.int .i64),(.int .i64),(.int .i64)]),(.agg [(.int .i64),(.int .i64),(.int .i64)])],[]⟩
noncomputable def qib:List FOut:=[⟨(.agg [(.int .i64),(.int .i64),(.int .i64)]),[],none⟩]
noncomputable def qpm:=qe [] [(169,f169)] [] 0
noncomputable def q55:=qm qpm 169 f169 true qiR qib
theorem qs4:qJ prog qa 169 (q9 qiR qib q55):=sk qpm qc q8 aln aln (b1 func169) func169
noncomputable def q6v:FIn:=⟨[(.agg [(.int .i64),(.int .i64),(.int .i64)]),(.agg [(.int .i64),(.int .i64),(.int .i64)])],[]⟩
noncomputable def q70:List FOut:=[⟨(.int .i64),[],none⟩]
noncomputable def qcz:=qe [] [(170,f170)] [] 0
noncomputable def wt:=qm qcz 170 f170 true q6v q70
theorem qix:qJ prog qa 170 (q9 q6v q70 wt):=sk qcz qc q8 aln aln (b1 func170) func170
noncomputable def qbH:FIn:=⟨[(.imm [(.sl [.str])]),(.int .i64)],[]⟩
noncomputable def qbI:List FOut:=[⟨(.tuple [(.imm [(.sl [.str])]),.bool]),[],none⟩]
noncomputable def q7z:Tmpl:={ t:=((.imm [(.sl [.str])])::(.int .i64)::qy 4 ((.vec 0)::(.int .i64)::qy 33 [])),h:=[.vec 87 [(.sl [.str])]] }
noncomputable def q7M:List Out:=[⟨(.exit 0),{ t:=(qy 41 []),h:=[] }⟩,⟨.ret,{ t:=(qy 4 ((.vec 0)::.bool::qy 35 [])),h:=[.vec 87 [(.sl [.str])]] }⟩]
noncomputable def q35:=qe [] [(222,f222)] [] 0
noncomputable def ji:=zM q35 222 f222 4 q7z q7M
theorem qjy:qk prog qa q35.nimp (qx prog q35.iter 222) (z8 f222 4) (qj q7z q7M (qf ji)):=gk q35 qc q8 aln aln (b1 func222) func222
noncomputable def qiL:=qe [] [(222,f222)] [((222,4),qj q7z q7M (qf ji))] 0
noncomputable def q2r:=qm qiL 222 f222 true qbH qbI
theorem qnx:qJ prog qa 222 (q9 qbH qbI q2r):=sk qiL qc q8 aln (alc (lk func222 qjy) aln) (b1 func222) func222
noncomputable def qoj:FIn:=⟨[.str,.str],[]⟩
noncomputable def qoC:List FOut:=[⟨.str,[],none⟩]
noncomputable def qtH:=qe [(75,q9 ui u6 zq),(102,q9 q1r q1l wL)] [(223,f223)] [] 0
noncomputable def qeg:=qm qtH 223 f223 true qoj qoC
theorem qwi:qJ prog qa 223 (q9 qoj qoC qeg):=sk qtH qc q8 (alc ka (alc q3k aln)) aln (b1 func223) func223
noncomputable def qfp:FIn:=⟨[(.imm [.str])],[]⟩
noncomputable def qge:List FOut:=[⟨.str,[],none⟩]
noncomputable def qbX:Tmpl:={ t:=((.imm [.str])::.any::.any::.str::(.int .i64)::qy 13 []),h:=[] }
noncomputable def qb9:List Out:=[⟨(.exit 0),{ t:=(.any::.any::.any::.str::qy 14 []),h:=[] }⟩]
noncomputable def q6o:=qe [(97,q9 q52 q5k zR)] [(172,f172)] [] 0
noncomputable def q0p:=zM q6o 172 f172 4 qbX qb9
theorem qm9:qk prog qa q6o.nimp (qx prog q6o.iter 172) (z8 f172 4) (qj qbX qb9 (qf q0p)):=gk q6o qc q8 (alc q6G aln) aln (b1 func172) func172
noncomputable def qmL:=qe [(97,q9 q52 q5k zR)] [(172,f172)] [((172,4),qj qbX qb9 (qf q0p))] 0
noncomputable def q2O:=qm qmL 172 f172 true qfp qge
theorem qpr:qJ prog qa 172 (q9 qfp qge q2O):=sk qmL qc q8 (alc q6G aln) (alc (lk func172 qm9) aln) (b1 func172) func172
noncomputable def q2z:FIn:=⟨[(.imm [(.int .i64),(.int .i64),(.int .i64)])],[]⟩
noncomputable def q2f:List FOut:=[⟨(.tuple [(.imm [.str]),.bool]),[],none⟩]
noncomputable def q6P:Tmpl:={ t:=((.imm [(.int .i64),(.int .i64),(.int .i64)])::.any::.any::.any::(.vec 0)::(.int .i64)::(.ptr 1 0)::(.vec 2)::(.int .i64)::qy 60 []),h:=[.vec 87 [(.sl [.str])],.cells [(.int .i64),(.int .i64),(.int .i64)],.vec 32 [.str]],pro:=[(7,32,[.str])] }
noncomputable def q5O:List Out:=[⟨(.exit 2),{ t:=((.imm [(.int .i64),(.int .i64),(.int .i64)])::.any::.any::.any::(.vec 0)::(.int .i64)::(.ptr 1 0)::(.vec 2)::qy 61 []),h:=[.vec 87 [(.sl [.str])],.cells [(.int .i64),(.int .i64),(.int .i64)],.vec 32 [.str]] }⟩]
noncomputable def j3:List (FuncId×zr):=[(35,q9 q6q q6g zX),(96,q9 qaC qaG vM),(169,q9 qiR qib q55),(170,q9 q6v q70 wt),(172,q9 qfp qge q2O),(54,q9 q6X q6L zE),(222,q9 qbH qbI q2r),(223,q9 qoj qoC qeg)]
theorem jf:∀x,x∈j3->qJ prog qa x.1 x.2:=(alc q92 (alc qgQ (alc qs4 (alc qix (alc qpr (alc q8L (alc qnx (alc qwi aln))))))))
noncomputable def q22:=qe j3 [(124,f124),(171,f171)] [] 0
noncomputable def jQ:=zM q22 124 f124 12 q6P q5O
theorem qi1:qk prog qa q22.nimp (qx prog q22.iter 124) (z8 f124 12) (qj q6P q5O (qf jQ)):=gk q22 qc q8 jf aln (alc (bk func124) (alc (bk func171) aln)) func124
noncomputable def q7G:Tmpl:={ t:=((.imm [(.int .i64),(.int .i64),(.int .i64)])::.any::.any::.any::(.vec 0)::(.int .i64)::qy 63 []),h:=[.vec 87 [(.sl [.str])]],pro:=[(4,87,[(.sl [.str])])] }
noncomputable def q7K:List Out:=[⟨(.exit 0),{ t:=(qy 4 ((.vec 0)::qy 64 [])),h:=[.vec 87 [(.sl [.str])]] }⟩]
noncomputable def q3f:=qe j3 [(124,f124),(171,f171)] [((124,12),qj q6P q5O (qf jQ))] 0
noncomputable def yU:=zM q3f 124 f124 4 q7G q7K
theorem qjL:qk prog qa q3f.nimp (qx prog q3f.iter 124) (z8 f124 4) (qj q7G q7K (qf yU)):=gk q3f qc q8 jf (alc (lk func124 qi1) aln) (alc (bk func124) (alc (bk func171) aln)) func124
noncomputable def q1y:Tmpl:={ t:=(qy 4 ((.int .i64)::(.imm [(.sl [.str])])::.any::(.vec 1)::(.int .i64)::(.vec 2)::(.int .i64)::qy 94 [])),h:=[.dead,.vec 87 [(.sl [.str])],.vec 32 [.str]],pro:=[(9,32,[.str])],fs:=[(qy 69 []),[]] }
noncomputable def q1Q:List Out:=[⟨(.exit 4),{ t:=(qy 4 ((.int .i64)::(.imm [(.sl [.str])])::.any::(.vec 1)::(.int .i64)::(.vec 2)::qy 95 [])),h:=[.dead,.vec 87 [(.sl [.str])],.vec 32 [.str]],fs:=[(qy 69 []),[]] }⟩]
noncomputable def uv:=qe j3 [(124,f124),(171,f171)] [] 0
noncomputable def zC:=zM uv 171 f171 21 q1y q1Q
theorem qee:qk prog qa uv.nimp (qx prog uv.iter 171) (z8 f171 21) (qj q1y q1Q (qf zC)):=gk uv qc q8 jf aln (alc (bk func124) (alc (bk func171) aln)) func171
noncomputable def q1E:Tmpl:={ t:=(qy 4 ((.int .i64)::(.imm [(.sl [.str])])::.any::(.vec 1)::(.int .i64)::qy 96 [])),h:=[.dead,.vec 87 [(.sl [.str])]],pro:=[(7,87,[(.sl [.str])])],fs:=[(qy 69 []),[]] }
noncomputable def q1N:List Out:=[⟨(.exit 2),{ t:=(qy 4 ((.int .i64)::.any::.any::(.vec 1)::qy 97 [])),h:=[.dead,.vec 87 [(.sl [.str])]],fs:=[(qy 69 []),[]] }⟩]
noncomputable def uu:=qe j3 [(124,f124),(171,f171)] [((171,21),qj q1y q1Q (qf zC))] 0
noncomputable def wC:=zM uu 171 f171 14 q1E q1N
theorem qd7:qk prog qa uu.nimp (qx prog uu.iter 171) (z8 f171 14) (qj q1E q1N (qf wC)):=gk uu qc q8 jf (alc (lk func171 qee) aln) (alc (bk func124) (alc (bk func171) aln)) func171
noncomputable def q2E:Tmpl:={ t:=((.vec 0)::.any::.any::.any::(.int .i64)::qy 100 []),h:=[.vec 87 [(.sl [.str])]],sw:=[(0,0)],swn:=0,fs:=[(qy 69 []),[]] }
noncomputable def q28:List Out:=[⟨(.exit 0),{ t:=((.vec 0)::qy 104 []),h:=[.vec 87 [(.sl [.str])]],fs:=[(qy 69 []),[]] }⟩,⟨.ret,{ t:=(.any::.any::.nils::.bool::qy 101 []),h:=[],fs:=[(qy 69 []),[]] }⟩]
noncomputable def kj:=qe j3 [(124,f124),(171,f171)] [((171,14),qj q1E q1N (qf wC))] 0
noncomputable def zT:=zM kj 171 f171 3 q2E q28
theorem qeW:qk prog qa kj.nimp (qx prog kj.iter 171) (z8 f171 3) (qj q2E q28 (qf zT)):=gk kj qc q8 jf (alc (lk func171 qd7) aln) (alc (bk func124) (alc (bk func171) aln)) func171
noncomputable def q1C:Tmpl:={ t:=((.vec 0)::qy 11 ((.vec 1)::(.int .i64)::qy 91 [])),h:=[.vec 87 [(.sl [.str])],.vec 32 [.str]],pro:=[(12,32,[.str])],fs:=[(qy 69 []),[]] }
noncomputable def q1J:List Out:=[⟨(.exit 6),{ t:=(qy 12 ((.vec 1)::qy 92 [])),h:=[.dead,.vec 32 [.str]],fs:=[(qy 69 []),[]] }⟩]
noncomputable def uo:=qe j3 [(124,f124),(171,f171)] [] 0
noncomputable def wz:=zM uo 171 f171 31 q1C q1J
theorem qdf:qk prog qa uo.nimp (qx prog uo.iter 171) (z8 f171 31) (qj q1C q1J (qf wz)):=gk uo qc q8 jf aln (alc (bk func124) (alc (bk func171) aln)) func171
noncomputable def qhy:=qe j3 [(124,f124),(171,f171)] [((124,4),qj q7G q7K (qf yU)),((171,3),qj q2E q28 (qf zT)),((171,31),qj q1C q1J (qf wz))] 0
noncomputable def vJ:=qm qhy 124 f124 true q2z q2f
theorem q5u:qJ prog qa 124 (q9 q2z q2f vJ):=sk qhy qc q8 jf (alc (lk func124 qjL) (alc (lk func171 qeW) (alc (lk func171 qdf) aln))) (alc (bk func124) (alc (bk func171) aln)) func124
noncomputable def qe3:FIn:=⟨[(.imm [(.int .i64),(.int .i64),(.int .i64)]),(.imm [.str])],[]⟩
noncomputable def qdF:List FOut:=[⟨(.agg [.str,.str,.str]),[],none⟩]
noncomputable def q8U:Tmpl:={ t:=((.imm [(.int .i64),(.int .i64),(.int .i64)])::(.imm [.str])::.any::.any::(.ptr 0 0)::(.ptr 1 0)::(.int .i64)::qy 24 ((.agg [(.int .i64),(.int .i64),(.int .i64)])::(.int .i64)::qy 18 [])),h:=[.cells [.str,.str,.str],.cells [.str,.str,.str]] }
noncomputable def q9e:List Out:=[⟨(.exit 2),{ t:=((.imm [(.int .i64),(.int .i64),(.int .i64)])::(.imm [.str])::.any::.any::(.ptr 0 0)::(.ptr 1 0)::(.int .i64)::qy 44 []),h:=[.cells [.str,.str,.str],.cells [.str,.str,.str]] }⟩]
noncomputable def q71:List (FuncId×zr):=[(35,q9 q6q q6g zX),(54,q9 q6X q6L zE),(97,q9 q52 q5k zR)]
theorem q97:∀x,x∈q71->qJ prog qa x.1 x.2:=(alc q92 (alc q8L (alc q6G aln)))
noncomputable def q4w:=qe q71 [(125,f125)] [] 0
noncomputable def uQ:=zM q4w 125 f125 9 q8U q9e
theorem qls:qk prog qa q4w.nimp (qx prog q4w.iter 125) (z8 f125 9) (qj q8U q9e (qf uQ)):=gk q4w qc q8 q97 aln (b1 func125) func125
noncomputable def q9a:Tmpl:={ t:=((.imm [(.int .i64),(.int .i64),(.int .i64)])::(.imm [.str])::.any::.any::(.ptr 0 0)::(.ptr 1 0)::(.int .i64)::qy 44 []),h:=[.cells [.str,.str,.str],.cells [.str,.str,.str]] }
noncomputable def q9B:List Out:=[⟨(.exit 0),{ t:=(qy 4 ((.ptr 0 0)::(.ptr 1 0)::qy 45 [])),h:=[.cells [.str,.str,.str],.cells [.str,.str,.str]] }⟩]
noncomputable def q4t:=qe q71 [(125,f125)] [((125,9),qj q8U q9e (qf uQ))] 0
noncomputable def uT:=zM q4t 125 f125 4 q9a q9B
theorem qlt:qk prog qa q4t.nimp (qx prog q4t.iter 125) (z8 f125 4) (qj q9a q9B (qf uT)):=gk q4t qc q8 q97 (alc (lk func125 qls) aln) (b1 func125) func125
noncomputable def qjY:=qe q71 [(125,f125)] [((125,4),qj q9a q9B (qf uT))] 0
noncomputable def q41:=qm qjY 125 f125 true qe3 qdF
theorem qoB:qJ prog qa 125 (q9 qe3 qdF q41):=sk qjY qc q8 q97 (alc (lk func125 qlt) aln) (b1 func125) func125
noncomputable def qcq:FIn:=⟨[(.imm [(.int .i64),(.int .i64),(.int .i64)])],[]⟩
noncomputable def qcw:List FOut:=[⟨(.tuple [(.agg [.str,.str,.str]),.str,.bool]),[],none⟩]
noncomputable def qoN:=qe [(43,q9 q8m q8H yM),(124,q9 q2z q2f vJ),(125,q9 qe3 qdF q41)] [(80,f80)] [] 0
noncomputable def k8:=qm qoN 80 f80 true qcq qcw
theorem qhZ:qJ prog qa 80 (q9 qcq qcw k8):=sk qoN qc q8 (alc qbe (alc q5u (alc qoB aln))) aln (b1 func80) func80
noncomputable def q83:FIn:=⟨[.str],[]⟩
noncomputable def q8b:List FOut:=[⟨(.int .i64),[],none⟩]
noncomputable def qkp:=qe [(70,q9 q3l q2W w9),(73,q9 q6U q5z yF)] [(224,f224)] [] 0
noncomputable def kz:=qm qkp 224 f224 true q83 q8b
theorem qf6:qJ prog qa 224 (q9 q83 q8b kz):=sk qkp qc q8 (alc q4n (alc q9u aln)) aln (b1 func224) func224
noncomputable def qdO:FIn:=⟨[(.imm [(.int .i64),(.int .i64),(.int .i64)])],[]⟩
noncomputable def qdc:List FOut:=[⟨.bool,[],none⟩]
noncomputable def q8Q:Tmpl:={ t:=(.any::.any::.any::(.imm [.str])::.bool::(.int .i64)::qy 21 []),h:=[] }
noncomputable def q8Z:List Out:=[⟨(.exit 0),{ t:=(qy 4 (.bool::qy 22 [])),h:=[] }⟩]
noncomputable def q4p:=qe [(124,q9 q2z q2f vJ),(224,q9 q83 q8b kz)] [(173,f173)] [] 0
noncomputable def uM:=zM q4p 173 f173 4 q8Q q8Z
theorem qlh:qk prog qa q4p.nimp (qx prog q4p.iter 173) (z8 f173 4) (qj q8Q q8Z (qf uM)):=gk q4p qc q8 (alc q5u (alc qf6 aln)) aln (b1 func173) func173
noncomputable def qkv:=qe [(124,q9 q2z q2f vJ),(224,q9 q83 q8b kz)] [(173,f173)] [((173,4),qj q8Q q8Z (qf uM))] 0
noncomputable def q42:=qm qkv 173 f173 true qdO qdc
theorem qoJ:qJ prog qa 173 (q9 qdO qdc q42):=sk qkv qc q8 (alc q5u (alc qf6 aln)) (alc (lk func173 qlh) aln) (b1 func173) func173
noncomputable def q9k:FIn:=⟨[(.imm [(.int .i64),(.int .i64),(.int .i64)]),(.agg [.str,.str,.str]),.str],[]⟩
noncomputable def q9s:List FOut:=[⟨.bool,[],none⟩]
noncomputable def q5K:Tmpl:={ t:=((.imm [(.int .i64),(.int .i64),(.int .i64)])::.any::.str::.any::(.ptr 0 0)::.any::.any::(.int .i64)::qy 15 []),h:=[.cells [.str,.str,.str]] }
noncomputable def q6t:List Out:=[⟨(.exit 0),{ t:=(qy 23 []),h:=[] }⟩,⟨.ret,{ t:=(qy 6 (.bool::qy 16 [])),h:=[] }⟩]
noncomputable def q25:=qe [(20,q9 qax qaM q0A),(43,q9 q8m q8H yM)] [(174,f174)] [] 0
noncomputable def vA:=zM q25 174 f174 3 q5K q6t
theorem qhF:qk prog qa q25.nimp (qx prog q25.iter 174) (z8 f174 3) (qj q5K q6t (qf vA)):=gk q25 qc q8 (alc qgL (alc qbe aln)) aln (b1 func174) func174
noncomputable def qgN:=qe [(20,q9 qax qaM q0A),(43,q9 q8m q8H yM)] [(174,f174)] [((174,3),qj q5K q6t (qf vA))] 0
noncomputable def q16:=qm qgN 174 f174 true q9k q9s
theorem qlx:qJ prog qa 174 (q9 q9k q9s q16):=sk qgN qc q8 (alc qgL (alc qbe aln)) (alc (lk func174 qhF) aln) (b1 func174) func174
noncomputable def q9c:FIn:=⟨[(.imm [(.int .i64),(.int .i64),(.int .i64)]),(.imm [(.int .i64)])],[]⟩
noncomputable def q9m:List FOut:=[⟨.bool,[],none⟩]
noncomputable def qgS:=qe [(21,q9 q80 q88 kN),(80,q9 qcq qcw k8),(173,q9 qdO qdc q42),(174,q9 q9k q9s q16)] [(126,f126)] [] 0
noncomputable def q1b:=qm qgS 126 f126 true q9c q9m
theorem qkG:qJ prog qa 126 (q9 q9c q9m q1b):=sk qgS qc q8 (alc qf4 (alc qhZ (alc qoJ (alc qlx aln)))) aln (b1 func126) func126
noncomputable def qfg:FIn:=⟨[.str],[]⟩
noncomputable def qfA:List FOut:=[⟨.bool,[],none⟩]
noncomputable def qn1:=qe [(70,q9 q3l q2W w9)] [(82,f82)] [] 0
noncomputable def wR:=qm qn1 82 f82 true qfg qfA
theorem qpL:qJ prog qa 82 (q9 qfg qfA wR):=sk qn1 qc q8 (alc q4n aln) aln (b1 func82) func82
noncomputable def qaA:FIn:=⟨[(.agg [.str,.str,.str,.str,(.imm [(.int .i64)])])],[]⟩
noncomputable def qai:List FOut:=[⟨.bool,[],none⟩]
noncomputable def qmJ:=qe [(82,q9 qfg qfA wR)] [(28,f28)] [] 0
noncomputable def q0X:=qm qmJ 28 f28 true qaA qai
theorem qgl:qJ prog qa 28 (q9 qaA qai q0X):=sk qmJ qc q8 (alc qpL aln) aln (b1 func28) func28
noncomputable def qaF:FIn:=⟨[(.int .i64),(.agg [.str,.str,.str]),.str,(.imm [(.int .i64)]),(.int .i64)],[]⟩
noncomputable def qa0:List FOut:=[⟨(.int .i64),[],none⟩]
noncomputable def qbz:Tmpl:={ t:=((.int .i64)::.any::.any::(.imm [(.int .i64)])::(.int .i64)::qy 17 ((.vec 1)::(.int .i64)::(.int .i64)::qy 49 [])),h:=[.dead,.vec 32 [.str]] }
noncomputable def qbG:List Out:=[⟨(.exit 0),{ t:=((.int .i64)::.any::.any::(.imm [(.int .i64)])::(.int .i64)::qy 69 []),h:=[] }⟩,⟨.ret,{ t:=(qy 10 ((.int .i64)::qy 63 [])),h:=[] }⟩]
noncomputable def q5r:=qe [(19,q9 q6R q5W q0E)] [(84,f84)] [] 0
noncomputable def yY:=zM q5r 84 f84 3 qbz qbG
theorem qm0:qk prog qa q5r.nimp (qx prog q5r.iter 84) (z8 f84 3) (qj qbz qbG (qf yY)):=gk q5r qc q8 (alc q9w aln) aln (b1 func84) func84
noncomputable def q9H:Tmpl:={ t:=((.int .i64)::.any::.any::(.imm [(.int .i64)])::qy 10 ((.int .i64)::qy 59 [])),h:=[] }
noncomputable def q9d:List Out:=[⟨(.exit 2),{ t:=(qy 74 []),h:=[] }⟩,⟨.ret,{ t:=(qy 10 ((.int .i64)::qy 63 [])),h:=[] }⟩]
noncomputable def q4d:=qe [(19,q9 q6R q5W q0E)] [(84,f84)] [] 0
noncomputable def uL:=zM q4d 84 f84 19 q9H q9d
theorem ql7:qk prog qa q4d.nimp (qx prog q4d.iter 84) (z8 f84 19) (qj q9H q9d (qf uL)):=gk q4d qc q8 (alc q9w aln) aln (b1 func84) func84
noncomputable def qmj:=qe [(19,q9 q6R q5W q0E)] [(84,f84)] [((84,3),qj qbz qbG (qf yY)),((84,19),qj q9H q9d (qf uL))] 0
noncomputable def yD:=qm qmj 84 f84 true qaF qa0
theorem qgB:qJ prog qa 84 (q9 qaF qa0 yD):=sk qmj qc q8 (alc q9w aln) (alc (lk func84 qm0) (alc (lk func84 ql7) aln)) (b1 func84) func84
noncomputable def qaf:FIn:=⟨[(.imm [(.int .i64),(.int .i64),(.int .i64)]),(.agg [.str,.str,.str]),.str,(.imm [(.int .i64)])],[]⟩
noncomputable def qaw:List FOut:=[⟨.bool,[],none⟩]
noncomputable def qn2:=qe [(21,q9 q80 q88 kN),(80,q9 qcq qcw k8),(126,q9 q9c q9m q1b)] [(85,f85)] [] 0
noncomputable def q0V:=qm qn2 85 f85 true qaf qaw
theorem qh5:qJ prog qa 85 (q9 qaf qaw q0V):=sk qn2 qc q8 (alc qf4 (alc qhZ (alc qkG aln))) aln (b1 func85) func85
noncomputable def q3u:FIn:=⟨[(.imm [(.int .i64),(.int .i64)]),(.agg [.str,.str]),.str,(.imm [(.int .i64)])],[]⟩
noncomputable def q3C:List FOut:=[⟨(.tuple [.bool,(.int .i64)]),[],none⟩]
noncomputable def q9P:=qe [(42,q9 qdL qe5 q3V),(79,q9 qiD qio q8J),(84,q9 qaF qa0 yD),(85,q9 qaf qaw q0V)] [(30,f30)] [] 0
noncomputable def yq:=qm q9P 30 f30 true q3u q3C
theorem qfY:qJ prog qa 30 (q9 q3u q3C yq):=sk q9P qc q8 (alc qnQ (alc qsf (alc qgB (alc qh5 aln)))) aln (b1 func30) func30
noncomputable def q0Z:FIn:=⟨[(.imm [(.int .i64),(.int .i64)]),(.agg [.str,.str,.str,.str,(.imm [(.int .i64)])])],[]⟩
noncomputable def q0L:List FOut:=[⟨.bool,[],none⟩]
noncomputable def zx:=qe [(22,q9 qkI qkP qb6),(23,q9 qac qa7 vP),(28,q9 qaA qai q0X),(29,q9 uw ul zc),(30,q9 q3u q3C yq)] [(5,f5)] [] 0
noncomputable def vr:=qm zx 5 f5 true q0Z q0L
theorem qci:qJ prog qa 5 (q9 q0Z q0L vr):=sk zx qc q8 (alc qt3 (alc qh3 (alc qgl (alc q46 (alc qfY aln))))) aln (b1 func5) func5
noncomputable def q8T:FIn:=⟨[(.imm [(.int .i64),(.int .i64),(.int .i64)])],[]⟩
noncomputable def q8X:List FOut:=[⟨.bool,[],none⟩]
noncomputable def qgI:=qe [] [(36,f36)] [] 0
noncomputable def q1j:=qm qgI 36 f36 true q8T q8X
theorem ql4:qJ prog qa 36 (q9 q8T q8X q1j):=sk qgI qc q8 aln aln (b1 func36) func36
noncomputable def jE:FIn:=⟨[(.imm [.str])],[]⟩
noncomputable def jJ:List FOut:=[⟨(.vec 0),[.vec 32 [.str]],none⟩]
noncomputable def q0y:=qe [] [(94,f94)] [] 0
noncomputable def zu:=qm q0y 94 f94 false jE jJ
theorem q6S:qJ prog qa 94 (q9 jE jJ zu):=qla (E:=q0y) qc ⟨q8A q8,⟨aln,aln⟩,aln,(b1 func94)⟩ func94 (by kernel_rfl) (by kernel_rfl) (fun _=>rfl)
noncomputable def q1F:FIn:=⟨[(.imm [(.int .i64),(.int .i64),(.int .i64)]),(.agg [.str,.str,.str]),.str,(.imm [(.int .i64)])],[]⟩
noncomputable def q1z:List FOut:=[⟨(.tuple [.bool,(.int .i64)]),[],none⟩]
noncomputable def q75:Env:={ tt:=qd4,glob:=qa,spec:=[(69,q9 q7R q7Z kK),(83,q9 q24 q1U qP),(94,q9 jE jJ zu)],body:=[(37,f37)],loops:=[],nimp:=0,raws:=[94] }
noncomputable def jc:=qm q75 37 f37 true q1F q1z
theorem qda:qJ prog qa 37 (q9 q1F q1z jc):=sk q75 qc q8 (alc qei (alc q8z (alc q6S aln))) aln (b1 func37) func37
noncomputable def q2H:FIn:=⟨[(.agg [(.int .i64),(.int .i64),(.int .i64)])],[]⟩
noncomputable def q3c:List FOut:=[⟨.bool,[],none⟩]
noncomputable def qeh:=qe [(86,q9 qj8 qjp jh)] [(46,f46)] [] 0
noncomputable def yS:=qm qeh 46 f46 true q2H q3c
theorem q9Q:qJ prog qa 46 (q9 q2H q3c yS):=sk qeh qc q8 (alc qm6 aln) aln (b1 func46) func46
noncomputable def q66:FIn:=⟨[(.imm [(.int .i64),(.int .i64),(.int .i64)])],[]⟩
noncomputable def q6l:List FOut:=[⟨(.int .i64),[],none⟩]
noncomputable def q3E:Tmpl:={ t:=((.imm [(.int .i64),(.int .i64),(.int .i64)])::.any::.any::(.int .i64)::qy 15 []),h:=[] }
noncomputable def q3y:List Out:=[⟨(.exit 0),{ t:=(qy 19 []),h:=[] }⟩,⟨.ret,{ t:=(.any::.any::(.int .i64)::qy 16 []),h:=[] }⟩]
noncomputable def q01:=qe [(46,q9 q2H q3c yS)] [(45,f45)] [] 0
noncomputable def wj:=zM q01 45 f45 6 q3E q3y
theorem qg4:qk prog qa q01.nimp (qx prog q01.iter 45) (z8 f45 6) (qj q3E q3y (qf wj)):=gk q01 qc q8 (alc q9Q aln) aln (b1 func45) func45
noncomputable def qcG:=qe [(46,q9 q2H q3c yS)] [(45,f45)] [((45,6),qj q3E q3y (qf wj))] 0
noncomputable def kr:=qm qcG 45 f45 true q66 q6l
theorem qiK:qJ prog qa 45 (q9 q66 q6l kr):=sk qcG qc q8 (alc q9Q aln) (alc (lk func45 qg4) aln) (b1 func45) func45
noncomputable def qiI:FIn:=⟨[(.imm [(.int .i64),(.int .i64),(.int .i64)])],[]⟩
noncomputable def qi5:List FOut:=[⟨(.int .i64),[],none⟩]
noncomputable def qp0:=qe [(45,q9 q66 q6l kr)] [(95,f95)] [] 0
noncomputable def q8G:=qm qp0 95 f95 true qiI qi5
theorem qsl:qJ prog qa 95 (q9 qiI qi5 q8G):=sk qp0 qc q8 (alc qiK aln) aln (b1 func95) func95
noncomputable def q3s:FIn:=⟨[(.imm [(.int .i64),(.int .i64),(.int .i64)]),(.agg [.str,.str,.str]),.str,(.imm [(.int .i64)])],[]⟩
noncomputable def q3p:List FOut:=[⟨(.tuple [.bool,(.int .i64)]),[],none⟩]
noncomputable def q9K:=qe [(84,q9 qaF qa0 yD),(85,q9 qaf qaw q0V),(95,q9 qiI qi5 q8G)] [(38,f38)] [] 0
noncomputable def yl:=qm q9K 38 f38 true q3s q3p
theorem qfn:qJ prog qa 38 (q9 q3s q3p yl):=sk q9K qc q8 (alc qgB (alc qh5 (alc qsl aln))) aln (b1 func38) func38
noncomputable def q2c:FIn:=⟨[(.imm [(.int .i64),(.int .i64),(.int .i64)]),(.agg [.str,.str,.str,.str,(.imm [(.int .i64)])])],[]⟩
noncomputable def q2e:List FOut:=[⟨.bool,[],none⟩]
noncomputable def zQ:=qe [(23,q9 qac qa7 vP),(28,q9 qaA qai q0X),(36,q9 q8T q8X q1j),(37,q9 q1F q1z jc),(38,q9 q3s q3p yl)] [(7,f7)] [] 0
noncomputable def jG:=qm zQ 7 f7 true q2c q2e
theorem qeZ:qJ prog qa 7 (q9 q2c q2e jG):=sk zQ qc q8 (alc qh3 (alc qgl (alc ql4 (alc qda (alc qfn aln))))) aln (b1 func7) func7
end Go.Eng

namespace Go.Eng
abbrev qL5(r t:TR):TR:=.br (okR r) t .fail
abbrev qL6(c:Bool)(t:TR):TR:=.br c t .fail
abbrev qL7(l:List PV):TR:=.leaf (0,l)
variable (a0 a1 a2 a3 a4 a5 a6 a7 a8 a9 a10 a11 a12 a13 a14 a15:R)
variable (c0 c1 c2 c3 c4 c5 c6 c7 c8 c9 c10 c11 c12 c13:Int)
variable (d0 d1 d2 d3 d4 d5 d7 d8 d10 d11:Bool)
variable (e0 e1 e2 e3 e4 e5 e6 e7 e8 e9 e10 e11 e12 e13 e14:qL8)
theorem qpp:z6 [.i c0]=(.br (ile (-100000) c0) (qL7 [.b (ile c0 100000)]) (qL7 [.b false])):=by kernel_rfl
theorem qst:kv [.i c0,.i c1]=(qL5 (z6 [.i c0]) (.br (gB (z6 [.i c0]) 0) (qL5 (z6 [.i c1]) (qL7 [.b (gB (z6 [.i c1]) 0)])) (qL7 [.b false]))):=by kernel_rfl
theorem q3T:zo [.r a0,.i c1,.i c2]=(.br (ilt c2 c1) (qL6 (inb c2 (qg a0)) (let r0:=kv [.i (cI a0 c2 0),.i (cI a0 c2 1)];qL5 r0 (.br (not (gB r0 0)) (.leaf (2,[.i 2])) (qL7 [.r a0,.i c1,.i (qw .i64 c2 1)])))) (.leaf (1,[]))):=by kernel_rfl
theorem qg7:jb [.r a0]=(let r0:=qf zo [.r a0,.i (qg a0),.i 0];qL5 r0 (.br (jIs r0 0) (qL7 [.i 0]) (qL7 [.i (gI r0 0)]))):=by kernel_rfl
theorem qbT:wi [.r a0]=(.br (ilt 64 (qg a0)) (qL7 [.i 5]) (let r0:=jb [.r a0];qL5 r0 (qL7 [.i (gI r0 0)]))):=by kernel_rfl
theorem qqH:q3L [.r a0]=(let r0:=wi [.r a0];qL5 r0 (qL7 [.i (gI r0 0)])):=by kernel_rfl
theorem qsm:kG [.i c0]=(.br (ieq c0 0) (qL7 [.i 13]) (qL7 [.i 0])):=by kernel_rfl
theorem qre:jw [.r a0]=(let r0:=q3L [.r a0];qL5 r0 (.br (ine (gI r0 0) 0) (qL7 [.i (gI r0 0)]) (let r1:=kG [.i (qg a0)];qL5 r1 (qL7 [.i (gI r1 0)])))):=by kernel_rfl
theorem q6C:wA [.r a0]=(qL6 (ile (qg a0) 17592186044416) (qL7 [.r a0])):=by kernel_rfl
theorem qhd:qI [.i c0,.i c1,.i c2]=(qL7 [.i c0,.i c1,.i c2]):=by kernel_rfl
theorem qgJ:q0u [.i c0,.i c1,.i c2,.i c3,.i c4,.i c5,.i c6,.i c7,.i c8,.i c9,.i c10]=(let b0:Bool:=(ieq c1 2);let p0:List PV:=[.i (qw .i64 c1 1),.i c2,.i c3,.i c4,.i c5,.i c6,.i c7,.i c8,.i c9,.i c10];let i0:Int:=(jq .i64 c7 c4);let i1:Int:=(jq .i64 c10 c4);let b1:Bool:=(ieq c1 1);let i2:Int:=(jq .i64 c10 c3);let b2:Bool:=(ieq c1 0);let i3:Int:=(jq .i64 c10 c2);let i4:Int:=(jq .i64 c9 c4);let i5:Int:=(jq .i64 c9 c3);let i6:Int:=(jq .i64 c9 c2);let i7:Int:=(jq .i64 c8 c4);let i8:Int:=(jq .i64 c8 c3);let i9:Int:=(jq .i64 c8 c2);let i10:Int:=(jq .i64 c7 c3);let i11:Int:=(jq .i64 c7 c2);let i12:Int:=(jq .i64 c6 c4);let i13:Int:=(jq .i64 c6 c3);let i14:Int:=(jq .i64 c6 c2);let i15:Int:=(jq .i64 c5 c4);let i16:Int:=(jq .i64 c5 c3);let i17:Int:=(jq .i64 c5 c2);(.br (ilt c1 3) (.br b0 (.br b0 (.br b0 (.br b0 (qL7 ((.i (qw .i64 c0 (vT .i64 i0 i1)))::p0)) (.br b1 (qL7 ((.i (qw .i64 c0 (vT .i64 i0 i2)))::p0)) (qL6 b2 (qL7 ((.i (qw .i64 c0 (vT .i64 i0 i3)))::p0))))) (.br b1 (.br b0 (qL7 ((.i (qw .i64 c0 (vT .i64 i0 i4)))::p0)) (.br b1 (qL7 ((.i (qw .i64 c0 (vT .i64 i0 i5)))::p0)) (qL6 b2 (qL7 ((.i (qw .i64 c0 (vT .i64 i0 i6)))::p0))))) (qL6 b2 (.br b0 (qL7 ((.i (qw .i64 c0 (vT .i64 i0 i7)))::p0)) (.br b1 (qL7 ((.i (qw .i64 c0 (vT .i64 i0 i8)))::p0)) (qL6 b2 (qL7 ((.i (qw .i64 c0 (vT .i64 i0 i9)))::p0)))))))) (.br b1 (.br b0 (.br b0 (qL7 ((.i (qw .i64 c0 (vT .i64 i10 i1)))::p0)) (.br b1 (qL7 ((.i (qw .i64 c0 (vT .i64 i10 i2)))::p0)) (qL6 b2 (qL7 ((.i (qw .i64 c0 (vT .i64 i10 i3)))::p0))))) (.br b1 (.br b0 (qL7 ((.i (qw .i64 c0 (vT .i64 i10 i4)))::p0)) (.br b1 (qL7 ((.i (qw .i64 c0 (vT .i64 i10 i5)))::p0)) (qL6 b2 (qL7 ((.i (qw .i64 c0 (vT .i64 i10 i6)))::p0))))) (qL6 b2 (.br b0 (qL7 ((.i (qw .i64 c0 (vT .i64 i10 i7)))::p0)) (.br b1 (qL7 ((.i (qw .i64 c0 (vT .i64 i10 i8)))::p0)) (qL6 b2 (qL7 ((.i (qw .i64 c0 (vT .i64 i10 i9)))::p0)))))))) (qL6 b2 (.br b0 (.br b0 (qL7 ((.i (qw .i64 c0 (vT .i64 i11 i1)))::p0)) (.br b1 (qL7 ((.i (qw .i64 c0 (vT .i64 i11 i2)))::p0)) (qL6 b2 (qL7 ((.i (qw .i64 c0 (vT .i64 i11 i3)))::p0))))) (.br b1 (.br b0 (qL7 ((.i (qw .i64 c0 (vT .i64 i11 i4)))::p0)) (.br b1 (qL7 ((.i (qw .i64 c0 (vT .i64 i11 i5)))::p0)) (qL6 b2 (qL7 ((.i (qw .i64 c0 (vT .i64 i11 i6)))::p0))))) (qL6 b2 (.br b0 (qL7 ((.i (qw .i64 c0 (vT .i64 i11 i7)))::p0)) (.br b1 (qL7 ((.i (qw .i64 c0 (vT .i64 i11 i8)))::p0)) (qL6 b2 (qL7 ((.i (qw .i64 c0 (vT .i64 i11 i9)))::p0))))))))))) (.br b1 (.br b0 (.br b0 (.br b0 (qL7 ((.i (qw .i64 c0 (vT .i64 i12 i1)))::p0)) (.br b1 (qL7 ((.i (qw .i64 c0 (vT .i64 i12 i2)))::p0)) (qL6 b2 (qL7 ((.i (qw .i64 c0 (vT .i64 i12 i3)))::p0))))) (.br b1 (.br b0 (qL7 ((.i (qw .i64 c0 (vT .i64 i12 i4)))::p0)) (.br b1 (qL7 ((.i (qw .i64 c0 (vT .i64 i12 i5)))::p0)) (qL6 b2 (qL7 ((.i (qw .i64 c0 (vT .i64 i12 i6)))::p0))))) (qL6 b2 (.br b0 (qL7 ((.i (qw .i64 c0 (vT .i64 i12 i7)))::p0)) (.br b1 (qL7 ((.i (qw .i64 c0 (vT .i64 i12 i8)))::p0)) (qL6 b2 (qL7 ((.i (qw .i64 c0 (vT .i64 i12 i9)))::p0)))))))) (.br b1 (.br b0 (.br b0 (qL7 ((.i (qw .i64 c0 (vT .i64 i13 i1)))::p0)) (.br b1 (qL7 ((.i (qw .i64 c0 (vT .i64 i13 i2)))::p0)) (qL6 b2 (qL7 ((.i (qw .i64 c0 (vT .i64 i13 i3)))::p0))))) (.br b1 (.br b0 (qL7 ((.i (qw .i64 c0 (vT .i64 i13 i4)))::p0)) (.br b1 (qL7 ((.i (qw .i64 c0 (vT .i64 i13 i5)))::p0)) (qL6 b2 (qL7 ((.i (qw .i64 c0 (vT .i64 i13 i6)))::p0))))) (qL6 b2 (.br b0 (qL7 ((.i (qw .i64 c0 (vT .i64 i13 i7)))::p0)) (.br b1 (qL7 ((.i (qw .i64 c0 (vT .i64 i13 i8)))::p0)) (qL6 b2 (qL7 ((.i (qw .i64 c0 (vT .i64 i13 i9)))::p0)))))))) (qL6 b2 (.br b0 (.br b0 (qL7 ((.i (qw .i64 c0 (vT .i64 i14 i1)))::p0)) (.br b1 (qL7 ((.i (qw .i64 c0 (vT .i64 i14 i2)))::p0)) (qL6 b2 (qL7 ((.i (qw .i64 c0 (vT .i64 i14 i3)))::p0))))) (.br b1 (.br b0 (qL7 ((.i (qw .i64 c0 (vT .i64 i14 i4)))::p0)) (.br b1 (qL7 ((.i (qw .i64 c0 (vT .i64 i14 i5)))::p0)) (qL6 b2 (qL7 ((.i (qw .i64 c0 (vT .i64 i14 i6)))::p0))))) (qL6 b2 (.br b0 (qL7 ((.i (qw .i64 c0 (vT .i64 i14 i7)))::p0)) (.br b1 (qL7 ((.i (qw .i64 c0 (vT .i64 i14 i8)))::p0)) (qL6 b2 (qL7 ((.i (qw .i64 c0 (vT .i64 i14 i9)))::p0))))))))))) (qL6 b2 (.br b0 (.br b0 (.br b0 (qL7 ((.i (qw .i64 c0 (vT .i64 i15 i1)))::p0)) (.br b1 (qL7 ((.i (qw .i64 c0 (vT .i64 i15 i2)))::p0)) (qL6 b2 (qL7 ((.i (qw .i64 c0 (vT .i64 i15 i3)))::p0))))) (.br b1 (.br b0 (qL7 ((.i (qw .i64 c0 (vT .i64 i15 i4)))::p0)) (.br b1 (qL7 ((.i (qw .i64 c0 (vT .i64 i15 i5)))::p0)) (qL6 b2 (qL7 ((.i (qw .i64 c0 (vT .i64 i15 i6)))::p0))))) (qL6 b2 (.br b0 (qL7 ((.i (qw .i64 c0 (vT .i64 i15 i7)))::p0)) (.br b1 (qL7 ((.i (qw .i64 c0 (vT .i64 i15 i8)))::p0)) (qL6 b2 (qL7 ((.i (qw .i64 c0 (vT .i64 i15 i9)))::p0)))))))) (.br b1 (.br b0 (.br b0 (qL7 ((.i (qw .i64 c0 (vT .i64 i16 i1)))::p0)) (.br b1 (qL7 ((.i (qw .i64 c0 (vT .i64 i16 i2)))::p0)) (qL6 b2 (qL7 ((.i (qw .i64 c0 (vT .i64 i16 i3)))::p0))))) (.br b1 (.br b0 (qL7 ((.i (qw .i64 c0 (vT .i64 i16 i4)))::p0)) (.br b1 (qL7 ((.i (qw .i64 c0 (vT .i64 i16 i5)))::p0)) (qL6 b2 (qL7 ((.i (qw .i64 c0 (vT .i64 i16 i6)))::p0))))) (qL6 b2 (.br b0 (qL7 ((.i (qw .i64 c0 (vT .i64 i16 i7)))::p0)) (.br b1 (qL7 ((.i (qw .i64 c0 (vT .i64 i16 i8)))::p0)) (qL6 b2 (qL7 ((.i (qw .i64 c0 (vT .i64 i16 i9)))::p0)))))))) (qL6 b2 (.br b0 (.br b0 (qL7 ((.i (qw .i64 c0 (vT .i64 i17 i1)))::p0)) (.br b1 (qL7 ((.i (qw .i64 c0 (vT .i64 i17 i2)))::p0)) (qL6 b2 (qL7 ((.i (qw .i64 c0 (vT .i64 i17 i3)))::p0))))) (.br b1 (.br b0 (qL7 ((.i (qw .i64 c0 (vT .i64 i17 i4)))::p0)) (.br b1 (qL7 ((.i (qw .i64 c0 (vT .i64 i17 i5)))::p0)) (qL6 b2 (qL7 ((.i (qw .i64 c0 (vT .i64 i17 i6)))::p0))))) (qL6 b2 (.br b0 (qL7 ((.i (qw .i64 c0 (vT .i64 i17 i7)))::p0)) (.br b1 (qL7 ((.i (qw .i64 c0 (vT .i64 i17 i8)))::p0)) (qL6 b2 (qL7 ((.i (qw .i64 c0 (vT .i64 i17 i9)))::p0)))))))))))))) (.leaf (1,[.i c0])))):=by kernel_rfl
theorem qte:q0I [.i c0,.i c1,.i c2,.i c3,.i c4,.i c5,.i c6,.i c7,.i c8]=(let r0:=qI [.i c0,.i c1,.i c2];qL5 r0 (let r1:=qI [.i c3,.i c4,.i c5];qL5 r1 (let r2:=qI [.i c6,.i c7,.i c8];qL5 r2 (let r3:=qf q0u [.i 0,.i 0,.i (gI r0 0),.i (gI r0 1),.i (gI r0 2),.i (gI r1 0),.i (gI r1 1),.i (gI r1 2),.i (gI r2 0),.i (gI r2 1),.i (gI r2 2)];qL5 r3 (qL7 [.i (gI r3 0)]))))):=by kernel_rfl
theorem qzE:wB [.i c0]=(qL5 (q4b [.i c0]) (qL7 [.s (gS (q4b [.i c0]) 0)])):=by kernel_rfl
theorem qtv:jB [.i c0]=(qL5 (wB [.i c0]) (qL7 [.s (gS (wB [.i c0]) 0)])):=by kernel_rfl
theorem qsK:vu [.i c0]=(.br (ile 0 c0) (qL7 [.b (ile c0 16)]) (qL7 [.b false])):=by kernel_rfl
theorem qtd:kf [.i c0,.i c1,.r a2,.i c3]=(qL6 (inb (qw .i64 (vT .i64 c0 c3) c1) (qg a2)) (let r0:=jB [.i (cI a2 (qw .i64 (vT .i64 c0 c3) c1) 0)];qL5 r0 (qL7 [.s (gS r0 0),.r a2,.i c3]))):=by kernel_rfl
theorem qey:uK [.i c0,.i c1,.i c2,.i c3,.i c4,.i c5,.r a6,.i c7,.i c8,.i c9,.i c10,.i c11,.r a12]=(.br (ilt c5 c4) (let r0:=kf [.i c1,.i c5,.r a6,.i c7];qL5 r0 (qL6 (ile ((qg a12)+(qg [[.s (gS r0 0)]])) 8796093022208) (qL7 [.i c0,.i c1,.i c2,.i c3,.i c4,.i (qw .i64 c5 1),.r (gR r0 1),.i (gI r0 2),.i c8,.i c9,.i c10,.i c11,.r (jo a12 [[.s (gS r0 0)]])]))) (.leaf (1,[.i c0,.i c2,.i c3,.r a6,.i c7,.i c8,.i c9,.i c10,.i c11,.r a12]))):=by kernel_rfl
theorem qgp:q08 [.i c0,.i c1,.i c2,.r a3,.i c4,.i c5,.i c6,.i c7,.i c8,.r a9]=(.br (ilt c2 c1) (let r0:=qf uK [.i c0,.i c2,.i c1,.i c2,.i c0,.i 0,.r a3,.i c4,.i c5,.i c6,.i c7,.i c8,.r a9];qL5 r0 (qL7 [.i (gI r0 0),.i (gI r0 1),.i (qw .i64 (gI r0 2) 1),.r (gR r0 3),.i (gI r0 4),.i (gI r0 5),.i (gI r0 6),.i (gI r0 7),.i (gI r0 8),.r (gR r0 9)])) (.leaf (1,[.r a3,.i c4,.i c5,.i c6,.i c7,.i c8,.r a9]))):=by kernel_rfl
theorem qsB:q5L [.i c0,.i c1,.r a2,.i c3]=(let r0:=qf q08 [.i c1,.i c0,.i 0,.r a2,.i c3,.i 0,.i 0,.i c0,.i c1,.r []];qL5 r0 (qL7 [.i (gI r0 4),.i (gI r0 5),.r (gR r0 6),.r (gR r0 0),.i (gI r0 1)])):=by kernel_rfl
theorem qxQ:qb8 [.i c0,.i c1,.r a2]=(let r0:=vu [.i c0];qL5 r0 (.br (not (gB r0 0)) (qL7 [.i 0,.i 0,.r [],.i 2]) (let r1:=vu [.i c1];qL5 r1 (.br (not (gB r1 0)) (qL7 [.i 0,.i 0,.r [],.i 2]) (.br (ine (qg a2) (vT .i64 c0 c1)) (qL7 [.i 0,.i 0,.r [],.i 8]) (let r2:=q5L [.i c0,.i c1,.r a2,.i c1];qL5 r2 (qL7 [.i (gI r2 0),.i (gI r2 1),.r (gR r2 2),.i 0]))))))):=by kernel_rfl
theorem qbn:wg [.s e0,.s e1]=(let r0:=ve [.s e0,.s e1];qL5 r0 (.br (ile 0 (gI r0 0)) (qL6 (q5c (gI r0 0) (qu e0)) (qL6 (q5c 0 (gI r0 0)) (qL6 (q5c (qu e0) (qu e0)) (qL6 (q5c (qw .i64 (gI r0 0) (qu e1)) (qu e0)) (qL7 [.s (qcO e0 0 (gI r0 0)),.s (qcO e0 (qw .i64 (gI r0 0) (qu e1)) (qu e0)),.b true]))))) (qL7 [.s e0,.s [],.b false]))):=by kernel_rfl
theorem qt1:q60 [.s e0,.s e1]=(let r0:=wg [.s e0,.s e1];qL5 r0 (qL7 [.s (gS r0 0),.s (gS r0 1),.b (gB r0 2)])):=by kernel_rfl
theorem qx9:za [.s e0]=(let r0:=q60 [.s e0,.s [47]];qL5 r0 (.br (not (gB r0 2)) (qL7 [.s (gS r0 0),.s [49],.b (gB r0 2)]) (qL7 [.s (gS r0 0),.s (gS r0 1),.b (gB r0 2)]))):=by kernel_rfl
theorem q6W:qN [.s e0,.s e1]=(.br (ile (qu e1) (qu e0)) (qL6 (q5c (qu e1) (qu e0)) (qL6 (q5c 0 (qu e1)) (qL7 [.b (seq (qcO e0 0 (qu e1)) e1)]))) (qL7 [.b false])):=by kernel_rfl
theorem q5o:zg [.s e0,.s e1]=(let r0:=qN [.s e0,.s e1];qL5 r0 (.br (gB r0 0) (qL6 (q5c (qu e0) (qu e0)) (qL6 (q5c (qu e1) (qu e0)) (qL7 [.s (qcO e0 (qu e1) (qu e0))]))) (qL7 [.s e0]))):=by kernel_rfl
theorem qhO:ze [.s e0,.s e1]=(let r0:=zg [.s e0,.s e1];qL5 r0 (qL7 [.s (gS r0 0)])):=by kernel_rfl
theorem qsA:zd [.s e0]=(let t0:=ze [.s e0,.s [45]];let s0:List UInt8:=(gS t0 0);let t1:TR:=(qL7 [.i 3]);let t2:=q8h [.s s0,.s [48,49,50,51,52,53,54,55,56,57]];let t3:TR:=(.br (ilt 1024 (qu s0)) (qL7 [.i 11]) (qL7 [.i 0]));(qL5 t0 (.br (seq s0 []) t1 (qL5 t2 (.br (not (seq (gS t2 0) [])) t1 (qL6 (inb 0 (qu s0)) (.br (ieq (sat s0 0) 48) (.br (not (seq e0 [48])) t1 t3) t3))))))):=by kernel_rfl
theorem qky:q65 [.r a0,.i c1,.i c2]=(.br (ilt c2 c1) (qL6 (inb c2 (qg a0)) (let r0:=zd [.s (cS a0 c2 0)];qL5 r0 (.br (ine (gI r0 0) 0) (.leaf (2,[.i (gI r0 0)])) (qL7 [.r a0,.i c1,.i (qw .i64 c2 1)])))) (.leaf (1,[]))):=by kernel_rfl
theorem qxl:wo [.r a0]=(let r0:=qf q65 [.r a0,.i (qg a0),.i 0];qL5 r0 (.br (jIs r0 0) (qL7 [.i 0]) (qL7 [.i (gI r0 0)]))):=by kernel_rfl
theorem quU:yJ [.s e0]=(.br (seq e0 [48]) (qL7 [.i 0]) (qL6 (inb 0 (qu e0)) (.br (ieq (sat e0 0) 45) (qL7 [.i (-1)]) (qL7 [.i 1])))):=by kernel_rfl
theorem qts:q5H [.s e0,.s e1]=(.br (ine (qu e0) (qu e1)) (.br (ilt (qu e0) (qu e1)) (qL7 [.i (-1)]) (qL7 [.i 1])) (let r0:=q33 [.s e0,.s e1];qL5 r0 (qL7 [.i (gI r0 0)]))):=by kernel_rfl
theorem qpR:ug [.s e0,.s e1]=(let r0:=wo [.r [[.s e0],[.s e1]]];qL5 r0 (.br (ine (gI r0 0) 0) (qL7 [.i 0,.i (gI r0 0)]) (let r1:=yJ [.s e0];qL5 r1 (let r2:=yJ [.s e1];qL5 r2 (.br (ilt (gI r1 0) (gI r2 0)) (qL7 [.i (-1),.i 0]) (qL5 r2 (.br (ilt (gI r2 0) (gI r1 0)) (qL7 [.i 1,.i 0]) (let r3:=ze [.s e0,.s [45]];qL5 r3 (let r4:=ze [.s e1,.s [45]];qL5 r4 (let r5:=q5H [.s (gS r3 0),.s (gS r4 0)];qL5 r5 (qL7 [.i (vT .i64 (gI r1 0) (gI r5 0)),.i 0]))))))))))):=by kernel_rfl
theorem qgf:ja [.b d0,.i c1,.r a2]=(let i0:Int:=(jq .i64 c1 1);let t0:TR:=(.leaf (1,[.b d0,.i c1,.r a2]));(.br (ilt 0 c1) (qL6 (inb i0 232) (qL6 (inb i0 232) (.br (ieq (cI a2 i0 0) 0) (qL7 [.b d0,.i i0,.r a2]) t0))) t0)):=by kernel_rfl
theorem qip:qU [.b d0,.i c1,.r a2]=(let r0:=qf ja [.b d0,.i c1,.r a2];qL5 r0 (qL7 [.b (gB r0 0),.i (gI r0 1),.r (gR r0 2)])):=by kernel_rfl
theorem qqF:q3P [.s e0,.b d1,.i c2,.r a3]=(let i0:Int:=(qu e0);let i1:Int:=(qwq 0 (jq .i64 i0 9));let t0:=jA [.s (qcO e0 i1 i0)];(.br (ilt 0 i0) (qL6 (q5c i0 i0) (qL6 (q5c i1 i0) (qL5 t0 (qL6 (inb c2 232) (qL6 (inb c2 232) (qL6 (q5c i1 i0) (qL6 (q5c 0 i1) (qL7 [.s (qcO e0 0 i1),.b d1,.i (qw .i64 c2 1),.r (qbB a3 c2 0 [.i (gI t0 0)])])))))))) (.leaf (1,[.b d1,.i c2,.r a3])))):=by kernel_rfl
theorem qw1:wu [.s e0]=(qL6 (inb 0 (qu e0)) (let r0:=ze [.s e0,.s [45]];qL5 r0 (let r1:=qf q3P [.s (gS r0 0),.b (ieq (sat e0 0) 45),.i 0,.r (q3r 232 [.i 0])];qL5 r1 (let r2:=qU [.b (gB r1 0),.i (gI r1 1),.r (gR r1 2)];qL5 r2 (qL7 [.b (gB r2 0),.i (gI r2 1),.r (gR r2 2)]))))):=by kernel_rfl
theorem q8t:vW [.i c0,.i c1,.i c2,.i c3,.b d4,.i c5,.r a6,.b d7,.i c8,.r a9]=(let i0:Int:=(qw .i64 c3 c1);let b0:Bool:=(inb i0 232);let i1:Int:=(qw .i64 (cI a6 i0 0) c2);let i2:Int:=(qw .i64 i1 (vT .i64 c0 (cI a9 c3 0)));let i3:Int:=(qcJ .i64 i2 1000000000);let i4:Int:=(jq .i64 i2 (vT .i64 i3 1000000000));let p0:List PV:=[.b d7,.i c8,.r a9];let i5:Int:=(qwq c5 (qw .i64 i0 1));let i6:Int:=(qw .i64 c3 1);let i7:Int:=(qcJ .i64 i1 1000000000);let i8:Int:=(jq .i64 i1 (vT .i64 i7 1000000000));let t0:TR:=(qL6 b0 (qL6 b0 (.br (ilt c3 c8) (qL6 (inb c3 232) (qL6 (inb c3 232) (.br (ilt i4 0) (qL6 b0 (qL6 b0 (qL7 ((.i c0)::(.i c1)::(.i (jq .i64 i3 1))::(.i i6)::(.b d4)::(.i i5)::(.r (qbB a6 i0 0 [.i (qw .i64 i4 1000000000)]))::p0)))) (qL6 b0 (qL6 b0 (qL7 ((.i c0)::(.i c1)::(.i i3)::(.i i6)::(.b d4)::(.i i5)::(.r (qbB a6 i0 0 [.i i4]))::p0))))))) (.br (ilt i8 0) (qL6 b0 (qL6 b0 (qL7 ((.i c0)::(.i c1)::(.i (jq .i64 i7 1))::(.i i6)::(.b d4)::(.i i5)::(.r (qbB a6 i0 0 [.i (qw .i64 i8 1000000000)]))::p0)))) (qL6 b0 (qL6 b0 (qL7 ((.i c0)::(.i c1)::(.i i7)::(.i i6)::(.b d4)::(.i i5)::(.r (qbB a6 i0 0 [.i i8]))::p0))))))));(.br (ilt c3 c8) t0 (.br (ine c2 0) t0 (.leaf (1,((.b d4)::(.i c5)::(.r a6)::p0)))))):=by kernel_rfl
theorem qkO:qZ [.i c0,.i c1,.b d2,.i c3,.r a4,.b d5,.i c6,.r a7]=(let r0:=qf vW [.i c0,.i c1,.i 0,.i 0,.b d2,.i c3,.r a4,.b d5,.i c6,.r a7];qL5 r0 (let r1:=qU [.b (gB r0 0),.i (gI r0 1),.r (gR r0 2)];qL5 r1 (qL7 [.b (gB r1 0),.i (gI r1 1),.r (gR r1 2),.b (gB r0 3),.i (gI r0 4),.r (gR r0 5)]))):=by kernel_rfl
theorem qha:jF [.i c0,.b d1,.i c2,.r a3,.b d4,.i c5,.r a6]=(let b0:Bool:=(inb c0 232);let p0:List PV:=[.b d1,.i c2,.r a3,.b d4,.i c5,.r a6];(.br (ile 0 c0) (qL6 b0 (qL6 b0 (qL6 b0 (qL6 b0 (.br (ine (cI a3 c0 0) (cI a6 c0 0)) (qL6 b0 (qL6 b0 (qL6 b0 (qL6 b0 (.leaf (2,((.i (jq .i64 (cI a3 c0 0) (cI a6 c0 0)))::p0))))))) (qL7 ((.i (jq .i64 c0 1))::p0))))))) (.leaf (1,p0)))):=by kernel_rfl
theorem qjC:wT [.b d0,.i c1,.r a2,.b d3,.i c4,.r a5]=(.br (ine c1 c4) (qL7 [.i (jq .i64 c1 c4),.b d0,.i c1,.r a2,.b d3,.i c4,.r a5]) (let r0:=qf jF [.i (jq .i64 c1 1),.b d0,.i c1,.r a2,.b d3,.i c4,.r a5];qL5 r0 (.br (jIs r0 0) (qL7 [.i 0,.b (gB r0 0),.i (gI r0 1),.r (gR r0 2),.b (gB r0 3),.i (gI r0 4),.r (gR r0 5)]) (qL7 [.i (gI r0 0),.b (gB r0 1),.i (gI r0 2),.r (gR r0 3),.b (gB r0 4),.i (gI r0 5),.r (gR r0 6)])))):=by kernel_rfl
theorem qoH:q1e [.b d0,.i c1,.r a2,.b d3,.i c4,.r a5]=(let i0:Int:=(jq .i64 c4 1);let b0:Bool:=(ilt i0 0);let b1:Bool:=(ilt 1 c4);let p0:List PV:=[.b d0,.i c1,.r a2,.b d3,.i c4,.r a5];let t0:TR:=(qL7 ((.i 1)::p0));let b2:Bool:=(ile c4 i0);let b3:Bool:=(inb i0 232);let i1:Int:=(cI a5 i0 0);let i2:Int:=(qw .i64 i1 1);let b4:Bool:=(ine i2 0);let b5:Bool:=(ine i1 0);let t1:TR:=(.br b0 (qL6 b1 t0) (.br b2 (qL6 b1 t0) (qL6 b3 (qL6 b3 (.br b1 (qL6 b4 (.br (ilt 0 (qcJ .i64 0 i2)) (qL7 ((.i (qlN (qcJ .i64 0 i2) 999999999))::p0)) t0)) (qL6 b5 (.br (ilt 0 (qcJ .i64 0 i1)) (qL7 ((.i (qlN (qcJ .i64 0 i1) 999999999))::p0)) t0)))))));let i3:Int:=(qw .i64 0 (cI a2 i0 0));let t2:TR:=(qL6 b1 (.br (ilt 0 (qcJ .i64 i3 1)) (qL7 ((.i (qlN (qcJ .i64 i3 1) 999999999))::p0)) t0));let t3:TR:=(.br b0 t1 (.br (ile c1 i0) t1 (qL6 b3 (qL6 b3 (.br b0 t2 (.br b2 t2 (qL6 b3 (qL6 b3 (.br b1 (qL6 b4 (.br (ilt 0 (qcJ .i64 i3 i2)) (qL7 ((.i (qlN (qcJ .i64 i3 i2) 999999999))::p0)) t0)) (qL6 b5 (.br (ilt 0 (qcJ .i64 i3 i1)) (qL7 ((.i (qlN (qcJ .i64 i3 i1) 999999999))::p0)) t0)))))))))));let i4:Int:=(vT .i64 (cI a2 c4 0) 1000000000);let i5:Int:=(qw .i64 i4 0);let t4:TR:=(qL6 b1 (.br (ilt 0 (qcJ .i64 i5 1)) (qL7 ((.i (qlN (qcJ .i64 i5 1) 999999999))::p0)) t0));let t5:TR:=(.br b0 t4 (.br b2 t4 (qL6 b3 (qL6 b3 (.br b1 (qL6 b4 (.br (ilt 0 (qcJ .i64 i5 i2)) (qL7 ((.i (qlN (qcJ .i64 i5 i2) 999999999))::p0)) t0)) (qL6 b5 (.br (ilt 0 (qcJ .i64 i5 i1)) (qL7 ((.i (qlN (qcJ .i64 i5 i1) 999999999))::p0)) t0)))))));let i6:Int:=(qw .i64 i4 (cI a2 i0 0));let t6:TR:=(qL6 b1 (.br (ilt 0 (qcJ .i64 i6 1)) (qL7 ((.i (qlN (qcJ .i64 i6 1) 999999999))::p0)) t0));(.br (ilt c4 0) t3 (.br (ile c1 c4) t3 (qL6 (inb c4 232) (qL6 (inb c4 232) (.br b0 t5 (.br (ile c1 i0) t5 (qL6 b3 (qL6 b3 (.br b0 t6 (.br b2 t6 (qL6 b3 (qL6 b3 (.br b1 (qL6 b4 (.br (ilt 0 (qcJ .i64 i6 i2)) (qL7 ((.i (qlN (qcJ .i64 i6 i2) 999999999))::p0)) t0)) (qL6 b5 (.br (ilt 0 (qcJ .i64 i6 i1)) (qL7 ((.i (qlN (qcJ .i64 i6 i1) 999999999))::p0)) t0)))))))))))))))):=by kernel_rfl
theorem qlE:jZ [.i c0,.i c1,.b d2,.i c3,.r a4,.b d5,.i c6,.r a7,.b d8,.i c9,.r a10,.b d11,.i c12,.r a13]=(let r0:=wT [.b d11,.i c12,.r a13,.b d5,.i c6,.r a7];qL5 r0 (.br (ile 0 (gI r0 0)) (let r1:=q1e [.b (gB r0 1),.i (gI r0 2),.r (gR r0 3),.b (gB r0 4),.i (gI r0 5),.r (gR r0 6)];qL5 r1 (let r2:=qZ [.i (jq .i64 0 (gI r1 0)),.i 0,.b (gB r1 1),.i (gI r1 2),.r (gR r1 3),.b (gB r1 4),.i (gI r1 5),.r (gR r1 6)];qL5 r2 (qL7 [.i c0,.i (qw .i64 c1 (gI r1 0)),.b d2,.i c3,.r a4,.b (gB r2 3),.i (gI r2 4),.r (gR r2 5),.b d8,.i c9,.r a10,.b (gB r2 0),.i (gI r2 1),.r (gR r2 2)]))) (.leaf (1,[.i c0,.i c1,.b d2,.i c3,.r a4,.b (gB r0 4),.i (gI r0 5),.r (gR r0 6),.b d8,.i c9,.r a10,.b (gB r0 1),.i (gI r0 2),.r (gR r0 3)])))):=by kernel_rfl
theorem qni:q0d [.i c0,.b d1,.i c2,.r a3,.b d4,.i c5,.r a6,.b d7,.i c8,.r a9,.b d10,.i c11,.r a12]=(.br (ile 0 c0) (qL6 (q5c 232 232) (qL6 (q5c 1 232) (qL6 (q5c c11 232) (qL6 (q5c 0 c11) (qL6 (inb c0 232) (qL6 (inb c0 232) (let r0:=qU [.b d10,.i (qw .i64 c11 1),.r (qbB (qn9 a12 1 a12 0 (qlN (qzA c11 0) (qzA 232 1))) 0 0 [.i (cI a3 c0 0)])];qL5 r0 (let r1:=qf jZ [.i c0,.i 0,.b d1,.i c2,.r a3,.b d4,.i c5,.r a6,.b d7,.i c8,.r a9,.b (gB r0 0),.i (gI r0 1),.r (gR r0 2)];qL5 r1 (qL6 (inb (gI r1 0) 232) (qL6 (inb (gI r1 0) 232) (qL7 [.i (jq .i64 (gI r1 0) 1),.b (gB r1 2),.i (gI r1 3),.r (gR r1 4),.b (gB r1 5),.i (gI r1 6),.r (gR r1 7),.b (gB r1 8),.i (qwq (gI r1 9) (qw .i64 (gI r1 0) 1)),.r (qbB (gR r1 10) (gI r1 0) 0 [.i (gI r1 1)]),.b (gB r1 11),.i (gI r1 12),.r (gR r1 13)]))))))))))) (.leaf (1,[.b d1,.i c2,.r a3,.b d4,.i c5,.r a6,.b d7,.i c8,.r a9,.b d10,.i c11,.r a12]))):=by kernel_rfl
theorem qpx:uf [.b d0,.i c1,.r a2,.b d3,.i c4,.r a5]=(let r0:=qf q0d [.i (jq .i64 c1 1),.b d0,.i c1,.r a2,.b d3,.i c4,.r a5,.b false,.i 0,.r (q3r 232 [.i 0]),.b false,.i 0,.r (q3r 232 [.i 0])];qL5 r0 (let r1:=qU [.b (gB r0 6),.i (gI r0 7),.r (gR r0 8)];qL5 r1 (qL7 [.b (gB r0 0),.i (gI r0 1),.r (gR r0 2),.b (gB r0 3),.i (gI r0 4),.r (gR r0 5),.b (gB r1 0),.i (gI r1 1),.r (gR r1 2),.b (gB r0 9),.i (gI r0 10),.r (gR r0 11)]))):=by kernel_rfl
theorem qqP:q1s [.i c0,.i c1]=(.br (ine c1 0) (qL6 (ine c1 0) (qL7 [.i c1,.i (qch c0 c1)])) (.leaf (1,[.i c0]))):=by kernel_rfl
theorem qto:q5x [.b d0,.i c1,.r a2,.b d3,.i c4,.r a5]=(let t0:=qf q1s [.i (cI a2 0 0),.i (cI a5 0 0)];let t1:=wB [.i (gI t0 0)];let t2:=uf [.b d0,.i c1,.r a2,.b d3,.i c4,.r a5];let t3:TR:=(qL5 t2 (qL7 [.b (gB t2 3),.i (gI t2 4),.r (gR t2 5),.b (gB t2 9),.i (gI t2 10),.r (gR t2 11)]));(.br (ilt 0 c4) (.br (ile c1 1) (.br (ile c4 1) (qL5 t0 (qL5 t1 (.leaf (2,[.s (gS t1 0),.i 0])))) t3) t3) (.leaf (1,[.b d0,.i c1,.r a2])))):=by kernel_rfl
theorem qwN:q2n [.s e0,.s e1]=(let r0:=wo [.r [[.s e0],[.s e1]]];qL5 r0 (.br (ine (gI r0 0) 0) (qL7 [.s [],.i (gI r0 0)]) (let r1:=wu [.s e0];qL5 r1 (let r2:=wu [.s e1];qL5 r2 (let r3:=qf q5x [.b (gB r1 0),.i (gI r1 1),.r (gR r1 2),.b (gB r2 0),.i (gI r2 1),.r (gR r2 2)];qL5 r3 (.br (jIs r3 0) (let r4:=zp [.b false,.i (gI r3 1),.r (gR r3 2)];qL5 r4 (qL7 [.s (gS r4 0),.i 0])) (qL7 [.s (gS r3 0),.i (gI r3 1)]))))))):=by kernel_rfl
theorem qsZ:zh [.s e0]=(let t0:=za [.s e0];let t1:=zd [.s (gS t0 0)];let p0:List PV:=[.s (gS t0 1)];let t2:TR:=(qL7 [.i 3]);let i0:Int:=(gI (zd p0) 0);let t3:TR:=(qL7 [.i (qwq (gI t1 0) i0)]);let t4:TR:=(qL7 [.i 0]);let t5:=ug [.s (gS t0 1),.s [49]];let t6:=q2n ((.s (gS t0 0))::p0);(qL5 t0 (qL5 t1 (qL5 (zd p0) (.br (ieq (gI t1 0) 3) t2 (.br (ieq i0 3) t2 (.br (ine (gI t1 0) 0) t3 (.br (ine i0 0) t3 (.br (not (gB t0 2)) t4 (qL5 t5 (qL5 t6 (.br (ine (gI t5 1) 0) t2 (.br (ine (gI t6 1) 0) t2 (.br (ile (gI t5 0) 0) t2 (.br (not (seq (gS t6 0) [49])) t2 t4))))))))))))))):=by kernel_rfl
theorem qaW:jM [.r a0,.i c1,.i c2]=(.br (ilt c2 c1) (qL6 (inb c2 (qg a0)) (let r0:=zh [.s (cS a0 c2 0)];qL5 r0 (.br (ine (gI r0 0) 0) (.leaf (2,[.i (gI r0 0)])) (qL7 [.r a0,.i c1,.i (qw .i64 c2 1)])))) (.leaf (1,[]))):=by kernel_rfl
theorem qoc:vY [.r a0]=(let r0:=qf jM [.r a0,.i (qg a0),.i 0];qL5 r0 (.br (jIs r0 0) (qL7 [.i 0]) (qL7 [.i (gI r0 0)]))):=by kernel_rfl
theorem qrg:jt [.i c0,.i c1,.r a2]=(qL5 (vu [.i c0]) (.br (not (gB (vu [.i c0]) 0)) (qL7 [.i 2]) (qL5 (vu [.i c1]) (.br (not (gB (vu [.i c1]) 0)) (qL7 [.i 2]) (.br (ine (qg a2) (vT .i64 c0 c1)) (qL7 [.i 8]) (qL5 (vY [.r a2]) (qL7 [.i (gI (vY [.r a2]) 0)]))))))):=by kernel_rfl
theorem qtb:yC [.s e0,.s e1]=(.br (ilt 9 (qu e0)) (qL7 [.i 0,.i 0,.b false]) (.br (ilt 9 (qu e1)) (qL7 [.i 0,.i 0,.b false]) (qL5 (jA [.s e0]) (qL5 (jA [.s e1]) (qL7 [.i (gI (jA [.s e0]) 0),.i (gI (jA [.s e1]) 0),.b true]))))):=by kernel_rfl
theorem qqR:kx [.i c0]=(qL5 (wB [.i c0]) (qL7 [.s (gS (wB [.i c0]) 0),.i 0])):=by kernel_rfl
theorem qim:ym [.i c0,.i c1,.b d2,.i c3,.r a4,.b d5,.i c6,.r a7,.b d8,.i c9,.r a10]=(.br (ilt c1 c0) (qL6 (inb c1 232) (qL6 (inb c1 232) (let r0:=qZ [.i (cI a7 c1 0),.i c1,.b d8,.i c9,.r a10,.b d2,.i c3,.r a4];qL5 r0 (qL7 [.i c0,.i (qw .i64 c1 1),.b (gB r0 3),.i (gI r0 4),.r (gR r0 5),.b d5,.i c6,.r a7,.b (gB r0 0),.i (gI r0 1),.r (gR r0 2)])))) (.leaf (1,[.b d2,.i c3,.r a4,.b d5,.i c6,.r a7,.b d8,.i c9,.r a10]))):=by kernel_rfl
theorem qkE:kp [.b d0,.i c1,.r a2,.b d3,.i c4,.r a5]=(let r0:=qf ym [.i c4,.i 0,.b d0,.i c1,.r a2,.b d3,.i c4,.r a5,.b (not (beq d0 d3)),.i 0,.r (q3r 232 [.i 0])];qL5 r0 (qL7 [.b (gB r0 0),.i (gI r0 1),.r (gR r0 2),.b (gB r0 3),.i (gI r0 4),.r (gR r0 5),.b (gB r0 6),.i (gI r0 7),.r (gR r0 8)])):=by kernel_rfl
theorem qht:wn [.b d0,.i c1,.r a2]=(let r0:=zp [.b d0,.i c1,.r a2];qL5 r0 (let r1:=zd [.s (gS r0 0)];qL5 r1 (.br (ine (gI r1 0) 0) (qL7 [.s [],.i (gI r1 0),.b (gB r0 1),.i (gI r0 2),.r (gR r0 3)]) (qL7 [.s (gS r0 0),.i 0,.b (gB r0 1),.i (gI r0 2),.r (gR r0 3)])))):=by kernel_rfl
theorem qxm:q4M [.s e0,.s e1]=(let r0:=wo [.r [[.s e0],[.s e1]]];qL5 r0 (.br (ine (gI r0 0) 0) (qL7 [.s [],.i (gI r0 0)]) (let r1:=yC [.s e0,.s e1];qL5 r1 (.br (gB r1 2) (let r2:=kx [.i (vT .i64 (gI r1 0) (gI r1 1))];qL5 r2 (qL7 [.s (gS r2 0),.i (gI r2 1)])) (let r2:=wu [.s e0];qL5 r2 (let r3:=wu [.s e1];qL5 r3 (let r4:=kp [.b (gB r2 0),.i (gI r2 1),.r (gR r2 2),.b (gB r3 0),.i (gI r3 1),.r (gR r3 2)];qL5 r4 (let r5:=wn [.b (gB r4 6),.i (gI r4 7),.r (gR r4 8)];qL5 r5 (qL7 [.s (gS r5 0),.i (gI r5 1)]))))))))):=by kernel_rfl
theorem qcb:zB [.s e0,.s e1,.i c2]=(.br (ine c2 0) (qL7 [.s [48],.i c2]) (let r0:=q4M [.s e0,.s e1];qL5 r0 (.br (ine (gI r0 1) 0) (qL7 [.s [48],.i (gI r0 1)]) (qL7 [.s (gS r0 0),.i (gI r0 1)])))):=by kernel_rfl
theorem qc5:jT [.s e0,.r a1,.i c2,.i c3,.i c4]=(.br (ilt c3 c2) (qL6 (inb c3 (qg a1)) (let r0:=zB [.s e0,.s (cS a1 c3 0),.i c4];qL5 r0 (qL7 [.s (gS r0 0),.r a1,.i c2,.i (qw .i64 c3 1),.i (gI r0 1)]))) (.leaf (1,[.s e0,.i c4]))):=by kernel_rfl
theorem qoK:qv [.r a0,.i c1]=(let r0:=qf jT [.s [49],.r a0,.i (qg a0),.i 0,.i c1];qL5 r0 (qL7 [.s (gS r0 0),.i (gI r0 1)])):=by kernel_rfl
theorem qtn:q2T [.s e0,.s e1,.s e2,.s e3,.i c4]=(let r0:=qv [.r [[.s e0],[.s e2]],.i c4];qL5 r0 (let r1:=qv [.r [[.s e1],[.s e3]],.i (gI r0 1)];qL5 r1 (qL7 [.s (gS r0 0),.s (gS r1 0),.i (gI r1 1)]))):=by kernel_rfl
theorem qet:q1a [.r a0,.i c1,.i c2]=(.br (ilt c2 c1) (qL6 (inb c2 (qg a0)) (let r0:=zh [.s (cS a0 c2 0)];qL5 r0 (.br (ine (gI r0 0) 0) (.leaf (2,[.i (gI r0 0)])) (qL7 [.r a0,.i c1,.i (qw .i64 c2 1)])))) (.leaf (1,[]))):=by kernel_rfl
theorem qrT:qF [.r a0]=(let r0:=qf q1a [.r a0,.i (qg a0),.i 0];qL5 r0 (.br (jIs r0 0) (qL7 [.i 0]) (qL7 [.i (gI r0 0)]))):=by kernel_rfl
theorem qnr:v7 [.b d0,.i c1,.r a2,.b d3,.i c4,.r a5]=(.br (beq d0 d3) (let r0:=qZ [.i 1,.i 0,.b d0,.i c1,.r a2,.b d3,.i c4,.r a5];qL5 r0 (qL7 [.b (gB r0 0),.i (gI r0 1),.r (gR r0 2),.b (gB r0 3),.i (gI r0 4),.r (gR r0 5)])) (let r0:=wT [.b d0,.i c1,.r a2,.b d3,.i c4,.r a5];qL5 r0 (.br (ile 0 (gI r0 0)) (let r1:=qZ [.i (-1),.i 0,.b (gB r0 1),.i (gI r0 2),.r (gR r0 3),.b (gB r0 4),.i (gI r0 5),.r (gR r0 6)];qL5 r1 (qL7 [.b (gB r1 0),.i (gI r1 1),.r (gR r1 2),.b (gB r1 3),.i (gI r1 4),.r (gR r1 5)])) (let r1:=qZ [.i (-1),.i 0,.b (gB r0 4),.i (gI r0 5),.r (gR r0 6),.b (gB r0 1),.i (gI r0 2),.r (gR r0 3)];qL5 r1 (qL7 [.b (gB r1 0),.i (gI r1 1),.r (gR r1 2),.b (gB r0 4),.i (gI r0 5),.r (gR r0 6)]))))):=by kernel_rfl
theorem qdo:q6j [.r a0,.i c1,.i c2,.b d3,.i c4,.r a5]=(.br (ilt c2 c1) (qL6 (inb c2 (qg a0)) (let r0:=wu [.s (cS a0 c2 0)];qL5 r0 (let r1:=v7 [.b d3,.i c4,.r a5,.b (gB r0 0),.i (gI r0 1),.r (gR r0 2)];qL5 r1 (qL7 [.r a0,.i c1,.i (qw .i64 c2 1),.b (gB r1 0),.i (gI r1 1),.r (gR r1 2)])))) (.leaf (1,[.b d3,.i c4,.r a5]))):=by kernel_rfl
theorem qwB:qbv [.r a0]=(let r0:=qf q6j [.r a0,.i (qg a0),.i 0,.b false,.i 0,.r (q3r 232 [.i 0])];qL5 r0 (let r1:=wn [.b (gB r0 0),.i (gI r0 1),.r (gR r0 2)];qL5 r1 (qL7 [.s (gS r1 0),.i (gI r1 1)]))):=by kernel_rfl
theorem qxF:q2A [.s e0,.s e1]=(let r0:=wo [.r [[.s e0],[.s e1]]];qL5 r0 (.br (ine (gI r0 0) 0) (qL7 [.s [],.i (gI r0 0)]) (let r1:=yC [.s e0,.s e1];qL5 r1 (.br (gB r1 2) (let r2:=kx [.i (qw .i64 (gI r1 0) (gI r1 1))];qL5 r2 (qL7 [.s (gS r2 0),.i (gI r2 1)])) (let r2:=qbv [.r [[.s e0],[.s e1]]];qL5 r2 (qL7 [.s (gS r2 0),.i (gI r2 1)])))))):=by kernel_rfl
theorem qnG:q15 [.s e0]=(let r0:=yJ [.s e0];qL5 r0 (.br (ieq (gI r0 0) 0) (qL7 [.s e0]) (.br (ieq (gI r0 0) 1) (qL6 (ile ((qu [45])+(qu e0)) 140737488355328) (qL7 [.s (qfa [45] e0)])) (qL6 (q5c (qu e0) (qu e0)) (qL6 (q5c 1 (qu e0)) (qL7 [.s (qcO e0 1 (qu e0))])))))):=by kernel_rfl
theorem qyf:q7f [.s e0,.s e1]=(let r0:=wo [.r [[.s e0],[.s e1]]];qL5 r0 (.br (ine (gI r0 0) 0) (qL7 [.s [],.i (gI r0 0)]) (let r1:=q15 [.s e1];qL5 r1 (let r2:=q2A [.s e0,.s (gS r1 0)];qL5 r2 (qL7 [.s (gS r2 0),.i (gI r2 1)]))))):=by kernel_rfl
theorem qc8:wE [.s e0,.s e1,.i c2]=(.br (ine c2 0) (qL7 [.s [48],.i c2]) (let r0:=q7f [.s e0,.s e1];qL5 r0 (.br (ine (gI r0 1) 0) (qL7 [.s [48],.i (gI r0 1)]) (qL7 [.s (gS r0 0),.i (gI r0 1)])))):=by kernel_rfl
theorem qnV:j5 [.s e0,.s e1,.i c2]=(let r0:=wE [.s e0,.s e1,.i c2];qL5 r0 (qL7 [.s (gS r0 0),.i (gI r0 1)])):=by kernel_rfl
theorem qjE:ua [.s e0,.s e1]=(let r0:=qN [.s e0,.s e1];qL5 r0 (qL7 [.b (gB r0 0)])):=by kernel_rfl
theorem qqQ:q1n [.s e0,.s e1]=(.br (seq e1 [49]) (qL7 [.s e0]) (qL6 (ile ((qu e0)+(qu [47])) 140737488355328) (qL6 (ile ((qu (qfa e0 [47]))+(qu e1)) 140737488355328) (qL7 [.s (qfa (qfa e0 [47]) e1)])))):=by kernel_rfl
theorem qrS:q3Z [.s e0,.s e1]=(let t0:=wo [.r [[.s e0],[.s e1]]];let t1:=yC [.s e0,.s e1];let i0:Int:=(gI t1 1);let i1:Int:=(qch (gI t1 0) i0);let i2:Int:=(qcJ .i64 (gI t1 0) i0);let t2:=wB [.i (jq .i64 i2 1)];let t3:=wB [.i (qw .i64 i1 i0)];let t4:TR:=(qL5 (wB [.i i2]) (qL5 (wB [.i i1]) (qL7 [.s (gS (wB [.i i2]) 0),.s (gS (wB [.i i1]) 0),.i 0])));let t5:=wu [.s e0];let t6:=wu [.s e1];let t7:=uf [.b (gB t5 0),.i (gI t5 1),.r (gR t5 2),.b (gB t6 0),.i (gI t6 1),.r (gR t6 2)];let b0:Bool:=(not (beq (gB t7 0) (gB t7 3)));let t8:=v7 [.b true,.i (gI t7 7),.r (gR t7 8),.b true,.i 1,.r (qbB (q3r 232 [.i 0]) 0 0 [.i 1])];let t9:=v7 [.b (gB t7 0),.i (gI t7 10),.r (gR t7 11),.b (gB t7 3),.i (gI t7 4),.r (gR t7 5)];let t10:=zp [.b (gB t8 0),.i (gI t8 1),.r (gR t8 2)];let t11:=zp [.b (gB t9 0),.i (gI t9 1),.r (gR t9 2)];let t12:=zp [.b b0,.i (gI t7 7),.r (gR t7 8)];let t13:=zp [.b (gB t7 0),.i (gI t7 10),.r (gR t7 11)];let t14:TR:=(qL5 t12 (qL5 t13 (qL7 [.s (gS t12 0),.s (gS t13 0),.i 0])));(qL5 t0 (.br (ine (gI t0 0) 0) (qL7 [.s [],.s [],.i (gI t0 0)]) (.br (seq e1 [48]) (qL7 [.s [],.s [],.i 10]) (qL5 t1 (.br (gB t1 2) (qL6 (ine i0 0) (qL6 (ine i0 0) (.br (ine i1 0) (.br (not (beq (ilt i1 0) (ilt i0 0))) (qL5 t2 (qL5 t3 (qL7 [.s (gS t2 0),.s (gS t3 0),.i 0]))) t4) t4))) (qL5 t5 (qL5 t6 (qL5 t7 (.br (ilt 0 (gI t7 10)) (.br b0 (qL5 t8 (qL5 t9 (qL5 t10 (qL5 t11 (qL7 [.s (gS t10 0),.s (gS t11 0),.i 0]))))) t14) t14)))))))))):=by kernel_rfl
theorem qxZ:q7s [.s e0,.s e1]=(let r0:=q3Z [.s e0,.s e1];qL5 r0 (.br (ine (gI r0 2) 0) (qL7 [.s [],.i (gI r0 2)]) (let r1:=zd [.s (gS r0 0)];qL5 r1 (.br (ine (gI r1 0) 0) (qL7 [.s [],.i (gI r1 0)]) (qL7 [.s (gS r0 0),.i 0]))))):=by kernel_rfl
theorem qcc:wN [.s e0,.s e1,.i c2]=(.br (ine c2 0) (qL7 [.s [48],.i c2]) (let r0:=q2n [.s e0,.s e1];qL5 r0 (.br (ine (gI r0 1) 0) (qL7 [.s [48],.i (gI r0 1)]) (qL7 [.s (gS r0 0),.i (gI r0 1)])))):=by kernel_rfl
theorem qcj:qX [.s e0,.s e1,.i c2]=(.br (ine c2 0) (qL7 [.s [48],.i c2]) (let r0:=q7s [.s e0,.s e1];qL5 r0 (.br (ine (gI r0 1) 0) (qL7 [.s [48],.i (gI r0 1)]) (qL7 [.s (gS r0 0),.i (gI r0 1)])))):=by kernel_rfl
theorem qjw:zb [.s e0,.s e1,.i c2]=(let r0:=wN [.s e0,.s e1,.i c2];qL5 r0 (let r1:=ua [.s e1,.s [45]];qL5 r1 (.br (gB r1 0) (let r2:=j5 [.s [48],.s (gS r0 0),.i (gI r0 1)];qL5 r2 (.br (ine (gI r2 1) 0) (qL7 [.s [],.i (gI r2 1)]) (let r3:=qX [.s e0,.s (gS r2 0),.i (gI r2 1)];qL5 r3 (let r4:=qX [.s e1,.s (gS r2 0),.i (gI r3 1)];qL5 r4 (let r5:=q1n [.s (gS r3 0),.s (gS r4 0)];qL5 r5 (qL7 [.s (gS r5 0),.i (gI r4 1)])))))) (.br (ine (gI r0 1) 0) (qL7 [.s [],.i (gI r0 1)]) (let r2:=qX [.s e0,.s (gS r0 0),.i (gI r0 1)];qL5 r2 (let r3:=qX [.s e1,.s (gS r0 0),.i (gI r2 1)];qL5 r3 (let r4:=q1n [.s (gS r2 0),.s (gS r3 0)];qL5 r4 (qL7 [.s (gS r4 0),.i (gI r3 1)])))))))):=by kernel_rfl
theorem qdV:vd [.s e0,.s e1]=(let r0:=qF [.r [[.s e0],[.s e1]]];qL5 r0 (.br (ine (gI r0 0) 0) (qL7 [.s [],.i (gI r0 0)]) (let r1:=za [.s e0];qL5 r1 (let r2:=za [.s e1];qL5 r2 (let r3:=q2T [.s (gS r1 0),.s (gS r1 1),.s (gS r2 0),.s (gS r2 1),.i 0];qL5 r3 (.br (ine (gI r3 2) 0) (qL7 [.s [],.i (gI r3 2)]) (.br (seq (gS r3 1) [48]) (qL7 [.s [],.i 10]) (let r4:=zb [.s (gS r3 0),.s (gS r3 1),.i (gI r3 2)];qL5 r4 (qL7 [.s (gS r4 0),.i (gI r4 1)]))))))))):=by kernel_rfl
theorem qwX:ye [.s e0,.s e1]=(let r0:=vd [.s e0,.s e1];qL5 r0 (qL7 [.s (gS r0 0),.i (gI r0 1)])):=by kernel_rfl
theorem qsL:q2Q [.s e0,.s e1,.s e2,.s e3,.i c4]=(let r0:=qv [.r [[.s e0],[.s e3]],.i c4];qL5 r0 (let r1:=qv [.r [[.s e1],[.s e2]],.i (gI r0 1)];qL5 r1 (qL7 [.s (gS r0 0),.s (gS r1 0),.i (gI r1 1)]))):=by kernel_rfl
theorem qdw:vb [.s e0,.s e1]=(let r0:=qF [.r [[.s e0],[.s e1]]];qL5 r0 (.br (ine (gI r0 0) 0) (qL7 [.s [],.i (gI r0 0)]) (let r1:=za [.s e0];qL5 r1 (let r2:=za [.s e1];qL5 r2 (let r3:=q2Q [.s (gS r1 0),.s (gS r1 1),.s (gS r2 0),.s (gS r2 1),.i 0];qL5 r3 (.br (ine (gI r3 2) 0) (qL7 [.s [],.i (gI r3 2)]) (.br (seq (gS r3 1) [48]) (qL7 [.s [],.i 10]) (let r4:=zb [.s (gS r3 0),.s (gS r3 1),.i (gI r3 2)];qL5 r4 (qL7 [.s (gS r4 0),.i (gI r4 1)]))))))))):=by kernel_rfl
theorem qwz:q4Q [.s e0,.s e1]=(let r0:=qF [.r [[.s e0],[.s e1]]];qL5 r0 (.br (ine (gI r0 0) 0) (qL7 [.s [],.i (gI r0 0)]) (.br (seq e1 [48]) (qL7 [.s [],.i 10]) (let r1:=vb [.s e0,.s e1];qL5 r1 (qL7 [.s (gS r1 0),.i (gI r1 1)]))))):=by kernel_rfl
theorem qsQ:q34 [.s e0,.s e1,.s e2,.s e3,.i c4]=(let r0:=qv [.r [[.s e0],[.s e3]],.i c4];qL5 r0 (let r1:=qv [.r [[.s e2],[.s e1]],.i (gI r0 1)];qL5 r1 (let r2:=j5 [.s (gS r0 0),.s (gS r1 0),.i (gI r1 1)];qL5 r2 (let r3:=qv [.r [[.s e1],[.s e3]],.i (gI r2 1)];qL5 r3 (qL7 [.s (gS r2 0),.s (gS r3 0),.i (gI r3 1)]))))):=by kernel_rfl
theorem qdl:v8 [.s e0,.s e1]=(let r0:=qF [.r [[.s e0],[.s e1]]];qL5 r0 (.br (ine (gI r0 0) 0) (qL7 [.s [],.i (gI r0 0)]) (let r1:=za [.s e0];qL5 r1 (let r2:=za [.s e1];qL5 r2 (let r3:=q34 [.s (gS r1 0),.s (gS r1 1),.s (gS r2 0),.s (gS r2 1),.i 0];qL5 r3 (.br (ine (gI r3 2) 0) (qL7 [.s [],.i (gI r3 2)]) (.br (seq (gS r3 1) [48]) (qL7 [.s [],.i 10]) (let r4:=zb [.s (gS r3 0),.s (gS r3 1),.i (gI r3 2)];qL5 r4 (qL7 [.s (gS r4 0),.i (gI r4 1)]))))))))):=by kernel_rfl
theorem qwH:wk [.s e0,.s e1]=(let r0:=v8 [.s e0,.s e1];qL5 r0 (qL7 [.s (gS r0 0),.i (gI r0 1)])):=by kernel_rfl
theorem qcf:wK [.s e0,.s e1,.i c2]=(.br (ine c2 0) (qL7 [.s [48],.i c2]) (let r0:=q2A [.s e0,.s e1];qL5 r0 (.br (ine (gI r0 1) 0) (qL7 [.s [48],.i (gI r0 1)]) (qL7 [.s (gS r0 0),.i (gI r0 1)])))):=by kernel_rfl
theorem qnU:q17 [.s e0,.s e1,.i c2]=(let r0:=wK [.s e0,.s e1,.i c2];qL5 r0 (qL7 [.s (gS r0 0),.i (gI r0 1)])):=by kernel_rfl
theorem qtq:q32 [.s e0,.s e1,.s e2,.s e3,.i c4]=(let r0:=qv [.r [[.s e0],[.s e3]],.i c4];qL5 r0 (let r1:=qv [.r [[.s e2],[.s e1]],.i (gI r0 1)];qL5 r1 (let r2:=q17 [.s (gS r0 0),.s (gS r1 0),.i (gI r1 1)];qL5 r2 (let r3:=qv [.r [[.s e1],[.s e3]],.i (gI r2 1)];qL5 r3 (qL7 [.s (gS r2 0),.s (gS r3 0),.i (gI r3 1)]))))):=by kernel_rfl
theorem qdC:wY [.s e0,.s e1]=(let r0:=qF [.r [[.s e0],[.s e1]]];qL5 r0 (.br (ine (gI r0 0) 0) (qL7 [.s [],.i (gI r0 0)]) (let r1:=za [.s e0];qL5 r1 (let r2:=za [.s e1];qL5 r2 (let r3:=q32 [.s (gS r1 0),.s (gS r1 1),.s (gS r2 0),.s (gS r2 1),.i 0];qL5 r3 (.br (ine (gI r3 2) 0) (qL7 [.s [],.i (gI r3 2)]) (.br (seq (gS r3 1) [48]) (qL7 [.s [],.i 10]) (let r4:=zb [.s (gS r3 0),.s (gS r3 1),.i (gI r3 2)];qL5 r4 (qL7 [.s (gS r4 0),.i (gI r4 1)]))))))))):=by kernel_rfl
theorem qxO:u7 [.s e0,.s e1]=(let r0:=wY [.s e0,.s e1];qL5 r0 (qL7 [.s (gS r0 0),.i (gI r0 1)])):=by kernel_rfl
theorem qjB:wS [.s e0,.i c1,.i c2]=(let t0:TR:=(.br (ine c2 0) (qL7 [.s [48],.i c2]) (qL7 [.s e0,.i c2]));(.br (ine c1 0) (.br (ieq c2 0) (.br (ine c1 0) (qL7 [.s [48],.i c1]) (qL7 [.s e0,.i c1])) t0) t0)):=by kernel_rfl
theorem qkY:ke [.s e0,.s e1,.i c2]=(let r0:=u7 [.s e0,.s e1];qL5 r0 (let r1:=wS [.s (gS r0 0),.i (gI r0 1),.i c2];qL5 r1 (qL7 [.s (gS r1 0),.i (gI r1 1)]))):=by kernel_rfl
theorem qkT:uY [.s e0,.s e1,.i c2]=(let r0:=ye [.s e0,.s e1];qL5 r0 (let r1:=wS [.s (gS r0 0),.i (gI r0 1),.i c2];qL5 r1 (qL7 [.s (gS r1 0),.i (gI r1 1)]))):=by kernel_rfl
theorem qrX:q48 [.i c0,.i c1,.r a2,.i c3,.i c4]=(qL6 (inb (qw .i64 (vT .i64 c3 c1) c4) (qg a2)) (qL7 [.s (cS a2 (qw .i64 (vT .i64 c3 c1) c4) 0)])):=by kernel_rfl
theorem qcF:yO [.r a0,.i c1,.s e2,.i c3,.i c4,.r a5,.i c6,.i c7,.i c8,.i c9,.r a10,.i c11,.r a12]=(.br (ilt c7 c6) (qL6 (inb c7 (qg a5)) (let r0:=q48 [.i c8,.i c9,.r a10,.i c1,.i c7];qL5 r0 (let r1:=uY [.s (gS r0 0),.s (cS a5 c7 0),.i c11];qL5 r1 (let r2:=ke [.s e2,.s (gS r1 0),.i (gI r1 1)];qL5 r2 (qL7 [.r a0,.i c1,.s (gS r2 0),.i c3,.i c4,.r a5,.i c6,.i (qw .i64 c7 1),.i c8,.i c9,.r a10,.i (gI r2 1),.r a12]))))) (.leaf (1,[.r a0,.s e2,.i c3,.i c4,.i c8,.i c9,.r a10,.i c11,.r a12]))):=by kernel_rfl
theorem qcT:yT [.r a0,.i c1,.i c2,.i c3,.i c4,.r a5,.i c6,.r a7]=(.br (ilt c2 c1) (let r0:=qf yO [.r a0,.i c2,.s [48],.i c1,.i c2,.r a0,.i (qg a0),.i 0,.i c3,.i c4,.r a5,.i c6,.r a7];qL5 r0 (qL6 (ile ((qg (gR r0 8))+(qg [[.s (gS r0 1)]])) 8796093022208) (qL7 [.r (gR r0 0),.i (gI r0 2),.i (qw .i64 (gI r0 3) 1),.i (gI r0 4),.i (gI r0 5),.r (gR r0 6),.i (gI r0 7),.r (jo (gR r0 8) [[.s (gS r0 1)]])]))) (.leaf (1,[.i c6,.r a7]))):=by kernel_rfl
theorem qsc:q3O [.i c0,.i c1,.r a2,.r a3]=(let r0:=jt [.i c0,.i c1,.r a2];qL5 r0 (.br (ine (gI r0 0) 0) (qL7 [.r [],.i (gI r0 0)]) (.br (ine (qg a3) c1) (qL7 [.r [],.i 8]) (let r1:=vY [.r a3];qL5 r1 (.br (ine (gI r1 0) 0) (qL7 [.r [],.i (gI r1 0)]) (let r2:=qf yT [.r a3,.i c0,.i 0,.i c0,.i c1,.r a2,.i 0,.r []];qL5 r2 (.br (ine (gI r2 0) 0) (qL7 [.r [],.i (gI r2 0)]) (qL7 [.r (gR r2 1),.i 0])))))))):=by kernel_rfl
theorem qiz:q1q [.s e0,.r a1,.i c2,.i c3]=(.br (ilt c3 c2) (qL6 (inb c3 (qg a1)) (let r0:=u7 [.s e0,.s (cS a1 c3 0)];qL5 r0 (.br (ine (gI r0 1) 0) (.leaf (2,[.s [],.i (gI r0 1)])) (qL7 [.s (gS r0 0),.r a1,.i c2,.i (qw .i64 c3 1)])))) (.leaf (1,[.s e0]))):=by kernel_rfl
theorem qxe:qb5 [.r a0]=(.br (ilt 4096 (qg a0)) (qL7 [.s [],.i 5]) (let r0:=qF [.r a0];qL5 r0 (.br (ine (gI r0 0) 0) (qL7 [.s [],.i (gI r0 0)]) (let r1:=qf q1q [.s [48],.r a0,.i (qg a0),.i 0];qL5 r1 (.br (jIs r1 0) (qL7 [.s (gS r1 0),.i 0]) (qL7 [.s (gS r1 0),.i (gI r1 1)])))))):=by kernel_rfl
theorem uE:qT [.r a0,.s e1,.r a2,.i c3,.i c4]=(.br (ilt c4 c3) (qL6 (inb c4 (qg a2)) (qL6 (inb c4 (qg a0)) (let r0:=ye [.s (cS a2 c4 0),.s (cS a0 c4 0)];qL5 r0 (.br (ine (gI r0 1) 0) (.leaf (2,[.s [],.i (gI r0 1)])) (let r1:=u7 [.s e1,.s (gS r0 0)];qL5 r1 (.br (ine (gI r1 1) 0) (.leaf (2,[.s [],.i (gI r1 1)])) (qL7 [.r a0,.s (gS r1 0),.r a2,.i c3,.i (qw .i64 c4 1)]))))))) (.leaf (1,[.s e1]))):=by kernel_rfl
theorem q73:qC [.r a0,.r a1]=(let r0:=qf qT [.r a1,.s [48],.r a0,.i (qg a0),.i 0];qL5 r0 (.br (jIs r0 0) (qL7 [.s (gS r0 0),.i 0]) (qL7 [.s (gS r0 0),.i (gI r0 1)]))):=by kernel_rfl
theorem qeG:uP [.i c0,.i c1,.i c2,.i c3,.s e4,.s e5,.s e6,.r a7]=(let t0:=jB [.i (qsr [c0,c1,c2] c3)];let p0:List PV:=[.s (gS t0 0)];let t1:=wk ((.s e6)::p0);let i0:Int:=(qw .i64 c3 1);let t2:=wk ((.s e5)::p0);let t3:=wk ((.s e4)::p0);(.br (ilt c3 3) (qL6 (inb c3 3) (.br (ieq c3 2) (qL5 t0 (qL5 t1 (.br (ine (gI t1 1) 0) (.leaf (2,[.s [],.i (gI t1 1)])) (qL6 (ile ((qg a7)+(qg [[.s (gS t1 0)]])) 8796093022208) (qL7 [.i c0,.i c1,.i c2,.i i0,.s e4,.s e5,.s e6,.r (jo a7 [[.s (gS t1 0)]])]))))) (.br (ieq c3 1) (qL5 t0 (qL5 t2 (.br (ine (gI t2 1) 0) (.leaf (2,[.s [],.i (gI t2 1)])) (qL6 (ile ((qg a7)+(qg [[.s (gS t2 0)]])) 8796093022208) (qL7 [.i c0,.i c1,.i c2,.i i0,.s e4,.s e5,.s e6,.r (jo a7 [[.s (gS t2 0)]])]))))) (qL6 (ieq c3 0) (qL5 t0 (qL5 t3 (.br (ine (gI t3 1) 0) (.leaf (2,[.s [],.i (gI t3 1)])) (qL6 (ile ((qg a7)+(qg [[.s (gS t3 0)]])) 8796093022208) (qL7 [.i c0,.i c1,.i c2,.i i0,.s e4,.s e5,.s e6,.r (jo a7 [[.s (gS t3 0)]])]))))))))) (.leaf (1,[.r a7])))):=by kernel_rfl
theorem qqK:vl [.s e0,.s e1,.s e2,.i c3,.i c4,.i c5]=(let r0:=qI [.i c3,.i c4,.i c5];qL5 r0 (let r1:=qf uP [.i (gI r0 0),.i (gI r0 1),.i (gI r0 2),.i 0,.s e0,.s e1,.s e2,.r []];qL5 r1 (.br (jIs r1 0) (let r2:=qC [.r (gR r1 0),.r (gR r1 0)];qL5 r2 (qL7 [.s (gS r2 0),.i (gI r2 1)])) (qL7 [.s (gS r1 0),.i (gI r1 1)])))):=by kernel_rfl
theorem q9I:jm [.r a0,.i c1,.i c2,.i c3,.i c4,.i c5,.i c6,.s e7,.s e8,.s e9,.s e10,.r a11,.r a12]=(.br (ilt c6 c5) (qL6 (inb 0 (qg a0)) (qL6 (inb (qw .i64 c2 1) (qg a0)) (qL6 (inb (qw .i64 c6 1) (qg a0)) (let r0:=q0I [.i (cI a0 0 0),.i (cI a0 0 1),.i (cI a0 0 2),.i (cI a0 (qw .i64 c2 1) 0),.i (cI a0 (qw .i64 c2 1) 1),.i (cI a0 (qw .i64 c2 1) 2),.i (cI a0 (qw .i64 c6 1) 0),.i (cI a0 (qw .i64 c6 1) 1),.i (cI a0 (qw .i64 c6 1) 2)];qL5 r0 (qL6 (ile ((qg a11)+(qg [[.i (vT .i64 2 (gI r0 0))]])) 17592186044416) (qL7 [.r a0,.i c1,.i c2,.i c3,.i c4,.i c5,.i (qw .i64 c6 1),.s e7,.s e8,.s e9,.s e10,.r (jo a11 [[.i (vT .i64 2 (gI r0 0))]]),.r a12])))))) (.leaf (1,[.r a0,.i c1,.i c2,.i c3,.i c4,.s e7,.s e8,.s e9,.s e10,.r a11,.r a12]))):=by kernel_rfl
theorem qby:jS [.r a0,.i c1,.i c2,.i c3,.s e4,.s e5,.s e6,.s e7,.r a8,.r a9]=(let p0:List PV:=[.s e4,.s e5,.s e6,.s e7,.r a8,.r a9];let t0:=qf jm ((.r a0)::(.i c1)::(.i c3)::(.i c2)::(.i c3)::(.i c1)::(.i 0)::p0);let l0:R:=(gR t0 0);let i0:Int:=(qw .i64 (gI t0 2) 1);let t1:=q0I [.i (cI l0 0 0),.i (cI l0 0 1),.i (cI l0 0 2),.i (cI l0 i0 0),.i (cI l0 i0 1),.i (cI l0 i0 2),.i (cI l0 i0 0),.i (cI l0 i0 1),.i (cI l0 i0 2)];let t2:=jB [.i (gI t1 0)];(.br (ilt c3 c2) (qL5 t0 (qL6 (inb 0 (qg l0)) (qL6 (inb i0 (qg l0)) (qL6 (inb i0 (qg l0)) (qL5 t1 (qL5 t2 (qL6 (ile ((qg (gR t0 10))+(qg [[.s (gS t2 0)]])) 8796093022208) (qL7 [.r l0,.i (gI t0 1),.i (gI t0 3),.i (qw .i64 (gI t0 4) 1),.s (gS t0 5),.s (gS t0 6),.s (gS t0 7),.s (gS t0 8),.r (gR t0 9),.r (jo (gR t0 10) [[.s (gS t2 0)]])])))))))) (.leaf (1,((.r a0)::(.i c1)::p0))))):=by kernel_rfl
theorem q9T:jk [.r a0,.i c1,.i c2,.r a3,.i c4,.i c5,.s e6,.s e7,.s e8,.s e9,.r a10,.s e11,.s e12,.s e13,.s e14,.r a15]=(.br (ilt c5 c4) (qL6 (inb c5 (qg a3)) (let r0:=qI [.i (cI a3 c5 0),.i (cI a3 c5 1),.i (cI a3 c5 2)];qL5 r0 (qL6 (inb c1 3) (let r1:=jB [.i (qsr [(gI r0 0),(gI r0 1),(gI r0 2)] c1)];qL5 r1 (qL6 (ile ((qg a15)+(qg [[.s (gS r1 0)]])) 8796093022208) (qL7 [.r a0,.i c1,.i c2,.r a3,.i c4,.i (qw .i64 c5 1),.s e6,.s e7,.s e8,.s e9,.r a10,.s e11,.s e12,.s e13,.s e14,.r (jo a15 [[.s (gS r1 0)]])])))))) (.leaf (1,[.r a0,.i c1,.i c2,.s e6,.s e7,.s e8,.s e9,.r a10,.s e11,.s e12,.s e13,.s e14,.r a15]))):=by kernel_rfl
theorem q9J:jj [.r a0,.i c1,.s e2,.s e3,.s e4,.s e5,.r a6,.s e7,.s e8,.s e9,.s e10]=(let t0:=qf jk [.r a0,.i c1,.i c1,.r a0,.i (qg a0),.i 0,.s e2,.s e3,.s e4,.s e5,.r a6,.s e7,.s e8,.s e9,.s e10,.r []];let l0:R:=(gR t0 7);let t1:=qC [.r l0,.r (gR t0 12)];let b0:Bool:=(ine (gI t1 1) 0);let t2:TR:=(.leaf (2,[.b false,.i (gI t1 1),.s [],.s [],.s [],.s []]));let i0:Int:=(qw .i64 (gI t0 2) 1);let p0:List PV:=[.s (gS t0 10),.s (gS t0 11)];(.br (ilt c1 3) (qL5 t0 (qL5 t1 (.br (ieq (gI t0 1) 2) (.br b0 t2 (qL7 [.r (gR t0 0),.i i0,.s (gS t0 3),.s (gS t0 4),.s (gS t0 5),.s (gS t0 6),.r l0,.s (gS t0 8),.s (gS t0 9),.s (gS t1 0),.s (gS t0 11)])) (.br (ieq (gI t0 1) 1) (.br b0 t2 (qL7 ((.r (gR t0 0))::(.i i0)::(.s (gS t0 3))::(.s (gS t0 4))::(.s (gS t0 5))::(.s (gS t0 6))::(.r l0)::(.s (gS t0 8))::(.s (gS t1 0))::p0))) (qL6 (ieq (gI t0 1) 0) (.br b0 t2 (qL7 ((.r (gR t0 0))::(.i i0)::(.s (gS t0 3))::(.s (gS t0 4))::(.s (gS t0 5))::(.s (gS t0 6))::(.r l0)::(.s (gS t1 0))::(.s (gS t0 9))::p0)))))))) (.leaf (1,[.r a0,.s e2,.s e3,.s e4,.s e5,.r a6,.s e7,.s e8,.s e9,.s e10])))):=by kernel_rfl
theorem qew:vZ [.r a0]=(let r0:=qf jS [.r a0,.i (jq .i64 (qg a0) 1),.i (jq .i64 (qg a0) 1),.i 0,.s [],.s [],.s [],.s [],.r [],.r []];qL5 r0 (let r1:=qb8 [.i (gI r0 1),.i (gI r0 1),.r (gR r0 6)];qL5 r1 (.br (ine (gI r1 3) 0) (qL7 [.s [],.s [],.s [],.s [],.r [],.b false,.i (gI r1 3)]) (let r2:=yj [.i (gI r1 0),.i (gI r1 1),.r (gR r1 2)];qL5 r2 (.br (ieq (gI r2 3) 14) (qL7 [.s [],.s [],.s [],.s [],.r [],.b false,.i 0]) (.br (ine (gI r2 3) 0) (qL7 [.s [],.s [],.s [],.s [],.r [],.b false,.i (gI r2 3)]) (let r3:=q3O [.i (gI r2 0),.i (gI r2 1),.r (gR r2 2),.r (gR r0 7)];qL5 r3 (.br (ine (gI r3 1) 0) (qL7 [.s [],.s [],.s [],.s [],.r [],.b false,.i (gI r3 1)]) (let r4:=qb5 [.r (gR r3 0)];qL5 r4 (.br (ine (gI r4 1) 0) (qL7 [.s [],.s [],.s [],.s [],.r [],.b false,.i (gI r4 1)]) (let r5:=wk [.s [49],.s (gS r4 0)];qL5 r5 (.br (ine (gI r5 1) 0) (qL7 [.s [],.s [],.s [],.s [],.r [],.b false,.i (gI r5 1)]) (qL6 (ile ((qg [[.s (gS r5 0)]])+(qg (gR r3 0))) 8796093022208) (let r6:=qf jj [.r (gR r0 0),.i 0,.s (gS r0 2),.s (gS r0 3),.s (gS r0 4),.s (gS r0 5),.r (jo [[.s (gS r5 0)]] (gR r3 0)),.s [],.s [],.s [],.s []];qL5 r6 (.br (jIs r6 0) (qL6 (inb 0 (qg (gR r6 0))) (let r7:=vl [.s (gS r6 6),.s (gS r6 7),.s (gS r6 8),.i (cI (gR r6 0) 0 0),.i (cI (gR r6 0) 0 1),.i (cI (gR r6 0) 0 2)];qL5 r7 (qL7 [.s (gS r6 6),.s (gS r6 7),.s (gS r6 8),.s (gS r7 0),.r (gR r6 5),.b true,.i (gI r7 1)]))) (qL7 [.s (gS r6 2),.s (gS r6 3),.s (gS r6 4),.s (gS r6 5),.r [],.b (gB r6 0),.i (gI r6 1)])))))))))))))))):=by kernel_rfl
theorem qbq:jO [.r a0,.r a1,.i c2,.i c3,.r a4]=(.br (ilt c3 c2) (qL6 (inb c3 (qg a1)) (qL6 (inb (cI a1 c3 0) (qg a0)) (qL6 (ile ((qg a4)+(qg [[.i (cI a0 (cI a1 c3 0) 0),.i (cI a0 (cI a1 c3 0) 1),.i (cI a0 (cI a1 c3 0) 2)]])) 5864062014805) (qL7 [.r a0,.r a1,.i c2,.i (qw .i64 c3 1),.r (jo a4 [[.i (cI a0 (cI a1 c3 0) 0),.i (cI a0 (cI a1 c3 0) 1),.i (cI a0 (cI a1 c3 0) 2)]])])))) (.leaf (1,[.r a4]))):=by kernel_rfl
theorem qoq:q1h [.r a0,.r a1]=(let r0:=qf jO [.r a0,.r a1,.i (qg a1),.i 0,.r []];qL5 r0 (qL7 [.r (gR r0 0)])):=by kernel_rfl
theorem qsz:q5E [.s e0]=(let r0:=zh [.s e0];qL5 r0 (.br (ine (gI r0 0) 0) (qL7 [.s [],.s [],.i (gI r0 0)]) (let r1:=za [.s e0];qL5 r1 (qL7 [.s (gS r1 0),.s (gS r1 1),.i 0])))):=by kernel_rfl
theorem qw2:q8u [.s e0]=(let r0:=zd [.s e0];qL5 r0 (.br (ine (gI r0 0) 0) (qL7 [.i 0,.i (gI r0 0)]) (let r1:=yJ [.s e0];qL5 r1 (qL7 [.i (gI r1 0),.i 0])))):=by kernel_rfl
theorem qwf:q5m [.s e0]=(let r0:=q5E [.s e0];qL5 r0 (.br (ine (gI r0 2) 0) (qL7 [.i 0,.i (gI r0 2)]) (let r1:=q8u [.s (gS r0 0)];qL5 r1 (qL7 [.i (gI r1 0),.i (gI r1 1)])))):=by kernel_rfl
theorem qcl:zk [.s e0]=(qL5 (q5m [.s e0]) (qL7 [.b (ilt (gI (q5m [.s e0]) 0) 0)])):=by kernel_rfl
theorem qA:qh [.r a0,.i c1,.i c2,.r a3,.r a4]=(.br (ilt c2 c1) (qL6 (inb c2 (qg a0)) (let r0:=zk [.s (cS a0 c2 0)];qL5 r0 (.br (gB r0 0) (.leaf (2,[.i c2,.r a3,.r a4])) (qL7 [.r a0,.i c1,.i (qw .i64 c2 1),.r a3,.r a4])))) (.leaf (1,[.r a3,.r a4]))):=by kernel_rfl
theorem vX:qo [.r a0]=(let r0:=qf qh [.r a0,.i (qg a0),.i 0,.r a0,.r a0];qL5 r0 (.br (jIs r0 0) (qL7 [.b false]) (qL7 [.b (ile 0 (gI r0 0))]))):=by kernel_rfl
theorem qf0:vw [.s e0,.s e1,.s e2,.s e3,.r a4]=(let r0:=qo [.r a4];qL5 r0 (qL7 [.b (not (gB r0 0))])):=by kernel_rfl
theorem qpI:uk [.s e0,.s e1]=(let r0:=qF [.r [[.s e0],[.s e1]]];qL5 r0 (.br (ine (gI r0 0) 0) (qL7 [.i 0,.i (gI r0 0)]) (let r1:=za [.s e0];qL5 r1 (let r2:=za [.s e1];qL5 r2 (let r3:=qv [.r [[.s (gS r1 0)],[.s (gS r2 1)]],.i 0];qL5 r3 (let r4:=qv [.r [[.s (gS r2 0)],[.s (gS r1 1)]],.i (gI r3 1)];qL5 r4 (.br (ine (gI r4 1) 0) (qL7 [.i 0,.i (gI r4 1)]) (let r5:=ug [.s (gS r3 0),.s (gS r4 0)];qL5 r5 (qL7 [.i (gI r5 0),.i (gI r5 1)]))))))))):=by kernel_rfl
theorem yv:z7 [.r a0,.i c1,.i c2,.s e3,.s e4,.s e5,.s e6,.r a7]=(.br (ilt c2 c1) (qL6 (inb c2 (qg a0)) (let r0:=vl [.s e3,.s e4,.s e5,.i (cI a0 c2 0),.i (cI a0 c2 1),.i (cI a0 c2 2)];qL5 r0 (.br (ine (gI r0 1) 0) (.leaf (2,[.b false,.i (gI r0 1)])) (let r1:=uk [.s (gS r0 0),.s e6];qL5 r1 (.br (ine (gI r1 1) 0) (.leaf (2,[.b false,.i (gI r1 1)])) (.br (ilt 0 (gI r1 0)) (.leaf (2,[.b false,.i (gI r1 1)])) (qL7 [.r a0,.i c1,.i (qw .i64 c2 1),.s e3,.s e4,.s e5,.s e6,.r a7]))))))) (.leaf (1,[]))):=by kernel_rfl
theorem qcg:wH [.s e0,.s e1,.s e2,.s e3,.r a4,.r a5]=(let r0:=qf z7 [.r a5,.i (qg a5),.i 0,.s e0,.s e1,.s e2,.s e3,.r a4];qL5 r0 (.br (jIs r0 0) (qL7 [.b true,.i 0]) (qL7 [.b (gB r0 0),.i (gI r0 1)]))):=by kernel_rfl
theorem q9S:zl [.r a0,.r a1]=(let t0:=q1h [.r a0,.r a1];let t1:=vZ [.r (gR t0 0)];let t2:TR:=(qL7 [.s [],.s [],.s [],.s [],.r [],.b false,.i (gI t1 6)]);let t3:=vw [.s (gS t1 0),.s (gS t1 1),.s (gS t1 2),.s (gS t1 3),.r (gR t1 4)];let t4:=wH [.s (gS t1 0),.s (gS t1 1),.s (gS t1 2),.s (gS t1 3),.r (gR t1 4),.r a0];(qL5 t0 (qL5 t1 (.br (ine (gI t1 6) 0) t2 (.br (not (gB t1 5)) t2 (qL5 t3 (.br (not (gB t3 0)) t2 (qL5 t4 (qL7 [.s (gS t1 0),.s (gS t1 1),.s (gS t1 2),.s (gS t1 3),.r (gR t1 4),.b (gB t4 0),.i (gI t4 1)]))))))))):=by kernel_rfl
theorem q0H:qO [.r a0,.i c1,.i c2,.i c3,.i c4,.i c5,.r a6,.s e7,.s e8,.s e9,.s e10,.i c11,.i c12,.i c13,.r a14,.r a15]=(.br (ilt c1 c12) (let r0:=wA [.r a0];qL5 r0 (qL6 (ile ((qg (gR r0 0))+(qg [[.i c1]])) 17592186044416) (qL6 (ile ((qg a15)+(qg [[.l (jo (gR r0 0) [[.i c1]])]])) 5864062014805) (let r1:=zl [.r a6,.r (jo (gR r0 0) [[.i c1]])];qL5 r1 (.br (ine (gI r1 6) 0) .fail (.br (gB r1 5) (.leaf (2,[.r a6,.s (gS r1 0),.s (gS r1 1),.s (gS r1 2),.s (gS r1 3),.r (gR r1 4),.i 0,.i c12,.i c13,.r (jo (gR r0 0) [[.i c1]])])) (qL7 [.r a0,.i (qw .i64 c1 1),.i c2,.i c3,.i c4,.i c5,.r a6,.s e7,.s e8,.s e9,.s e10,.i c11,.i c12,.i c13,.r a14,.r (jo a15 [[.l (jo (gR r0 0) [[.i c1]])]])]))))))) (.leaf (1,[.i c2,.i c3,.i c4,.i c5,.r a6,.s e7,.s e8,.s e9,.s e10,.i c11,.i c12,.i c13,.r a14,.r a15]))):=by kernel_rfl
theorem q1P:va [.i c0,.i c1,.i c2,.i c3,.r a4,.s e5,.s e6,.s e7,.s e8,.i c9,.i c10,.i c11,.r a12,.r a13]=(let l0:R:=(cR a12 c3 0);let i0:Int:=(qg l0);let p0:List PV:=[.i c0,.i c1,.i c2,.i c3,.r a4,.s e5,.s e6,.s e7,.s e8,.i c9,.i c10,.i c11,.r a12,.r a13];let t0:=qf qO ((.r l0)::(.i (qw .i64 (cI l0 (jq .i64 i0 1) 0) 1))::p0);let t1:=qf qO ((.r l0)::(.i 0)::p0);(.br (ilt c3 c2) (qL6 (inb c3 (qg a12)) (.br (ilt 0 i0) (qL6 (inb (jq .i64 i0 1) i0) (qL5 t0 (.br (jIs t0 0) (qL7 [.i (gI t0 0),.i (gI t0 1),.i (gI t0 2),.i (qw .i64 (gI t0 3) 1),.r (gR t0 4),.s (gS t0 5),.s (gS t0 6),.s (gS t0 7),.s (gS t0 8),.i (gI t0 9),.i (gI t0 10),.i (gI t0 11),.r (gR t0 12),.r (gR t0 13)]) (.leaf (2,[.r (gR t0 0),.s (gS t0 1),.s (gS t0 2),.s (gS t0 3),.s (gS t0 4),.r (gR t0 5),.i (gI t0 6),.i (gI t0 7),.i (gI t0 8),.r (gR t0 9)]))))) (qL5 t1 (.br (jIs t1 0) (qL7 [.i (gI t1 0),.i (gI t1 1),.i (gI t1 2),.i (qw .i64 (gI t1 3) 1),.r (gR t1 4),.s (gS t1 5),.s (gS t1 6),.s (gS t1 7),.s (gS t1 8),.i (gI t1 9),.i (gI t1 10),.i (gI t1 11),.r (gR t1 12),.r (gR t1 13)]) (.leaf (2,[.r (gR t1 0),.s (gS t1 1),.s (gS t1 2),.s (gS t1 3),.s (gS t1 4),.r (gR t1 5),.i (gI t1 6),.i (gI t1 7),.i (gI t1 8),.r (gR t1 9)])))))) (.leaf (1,[.i c0,.i c1,.r a4,.s e5,.s e6,.s e7,.s e8,.i c9,.i c10,.i c11,.r a13])))):=by kernel_rfl
theorem q1A:wZ [.i c0,.i c1,.r a2,.s e3,.s e4,.s e5,.s e6,.i c7,.i c8,.i c9,.r a10]=(.br (ilt c1 c0) (let r0:=qf va [.i c0,.i c1,.i (qg a10),.i 0,.r a2,.s e3,.s e4,.s e5,.s e6,.i c7,.i c8,.i c9,.r a10,.r []];qL5 r0 (.br (jIs r0 0) (qL7 [.i (gI r0 0),.i (qw .i64 (gI r0 1) 1),.r (gR r0 2),.s (gS r0 3),.s (gS r0 4),.s (gS r0 5),.s (gS r0 6),.i (gI r0 7),.i (gI r0 8),.i (gI r0 9),.r (gR r0 10)]) (.leaf (2,[.r (gR r0 0),.s (gS r0 1),.s (gS r0 2),.s (gS r0 3),.s (gS r0 4),.r (gR r0 5),.i (gI r0 6),.i (gI r0 7),.i (gI r0 8),.r (gR r0 9)])))) (.leaf (1,[.r a2,.s e3,.s e4,.s e5,.s e6,.i c7,.i c8,.i c9]))):=by kernel_rfl
theorem qpM:vt [.r a0,.i c1]=(let r0:=qf wZ [.i c1,.i 0,.r a0,.s [],.s [],.s [],.s [],.i 0,.i (qg a0),.i c1,.r [[.l []]]];qL5 r0 (.br (jIs r0 0) (qL7 [.s [],.s [],.s [],.s [],.r [],.r [],.i 6]) (qL7 [.s (gS r0 1),.s (gS r0 2),.s (gS r0 3),.s (gS r0 4),.r (gR r0 5),.r (gR r0 9),.i (gI r0 6)]))):=by kernel_rfl
theorem qbu:jL [.r a0,.i c1,.i c2,.r a3]=(.br (ilt c2 c1) (qL6 (inb c2 (qg a0)) (qL6 (ile ((qg a3)+(qg [[.i (cI a0 c2 0),.i (cI a0 c2 1),.i 0]])) 5864062014805) (qL7 [.r a0,.i c1,.i (qw .i64 c2 1),.r (jo a3 [[.i (cI a0 c2 0),.i (cI a0 c2 1),.i 0]])]))) (.leaf (1,[.r a3]))):=by kernel_rfl
theorem qnF:wQ [.r a0]=(let r0:=qf jL [.r a0,.i (qg a0),.i 0,.r []];qL5 r0 (qL7 [.r (gR r0 0)])):=by kernel_rfl
theorem q5G:wD [.s e0,.s e1,.s e2,.s e3,.r a4]=(qL7 [.s e0,.s e1]):=by kernel_rfl
theorem qnN:yh [.r a0]=(let r0:=jw [.r a0];qL5 r0 (.br (ine (gI r0 0) 0) (qL7 [.s [],.s [],.s [],.r [],.i (gI r0 0)]) (let r1:=wQ [.r a0];qL5 r1 (let r2:=vt [.r (gR r1 0),.i 3];qL5 r2 (.br (ine (gI r2 6) 0) (qL7 [.s [],.s [],.s [],.r [],.i (gI r2 6)]) (let r3:=wD [.s (gS r2 0),.s (gS r2 1),.s (gS r2 2),.s (gS r2 3),.r (gR r2 4)];qL5 r3 (qL7 [.s (gS r3 0),.s (gS r3 1),.s (gS r2 3),.r (gR r2 5),.i 0]))))))):=by kernel_rfl
theorem qty:kw [.i c0,.i c1,.i c2]=(qL5 (z6 [.i c0]) (.br (gB (z6 [.i c0]) 0) (qL5 (z6 [.i c1]) (.br (gB (z6 [.i c1]) 0) (qL5 (z6 [.i c2]) (qL7 [.b (gB (z6 [.i c2]) 0)])) (qL7 [.b false]))) (qL7 [.b false]))):=by kernel_rfl
theorem q54:zv [.r a0,.i c1,.i c2]=(.br (ilt c2 c1) (qL6 (inb c2 (qg a0)) (let r0:=kw [.i (cI a0 c2 0),.i (cI a0 c2 1),.i (cI a0 c2 2)];qL5 r0 (.br (not (gB r0 0)) (.leaf (2,[.i 2])) (qL7 [.r a0,.i c1,.i (qw .i64 c2 1)])))) (.leaf (1,[]))):=by kernel_rfl
theorem qh7:jK [.r a0]=(let r0:=qf zv [.r a0,.i (qg a0),.i 0];qL5 r0 (.br (jIs r0 0) (qL7 [.i 0]) (qL7 [.i (gI r0 0)]))):=by kernel_rfl
theorem qca:wI [.r a0]=(.br (ilt 64 (qg a0)) (qL7 [.i 5]) (let r0:=jK [.r a0];qL5 r0 (qL7 [.i (gI r0 0)]))):=by kernel_rfl
theorem qjA:u9 [.r a0]=(let r0:=wI [.r a0];qL5 r0 (qL7 [.i (gI r0 0)])):=by kernel_rfl
theorem qr5:kK [.r a0]=(let r0:=u9 [.r a0];qL5 r0 (.br (ine (gI r0 0) 0) (qL7 [.i (gI r0 0)]) (let r1:=kG [.i (qg a0)];qL5 r1 (qL7 [.i (gI r1 0)])))):=by kernel_rfl
theorem qnT:yf [.r a0]=(let r0:=kK [.r a0];qL5 r0 (.br (ine (gI r0 0) 0) (qL7 [.s [],.s [],.s [],.s [],.r [],.i (gI r0 0)]) (let r1:=vt [.r a0,.i 4];qL5 r1 (.br (ine (gI r1 6) 0) (qL7 [.s [],.s [],.s [],.s [],.r [],.i (gI r1 6)]) (qL7 [.s (gS r1 0),.s (gS r1 1),.s (gS r1 2),.s (gS r1 3),.r (gR r1 5),.i 0]))))):=by kernel_rfl
theorem qpA:q2g [.s e0,.i c1]=(.br (ilt c1 (qu e0)) (qL6 (inb c1 (qu e0)) (.br (ieq (sat e0 c1) 47) (.leaf (2,[.i c1])) (qL7 [.s e0,.i (qw .i64 c1 1)]))) (.leaf (1,[]))):=by kernel_rfl
theorem qsF:q0U [.s e0]=(let r0:=qf q2g [.s e0,.i 0];qL5 r0 (.br (jIs r0 0) (qL7 [.i (-1)]) (qL7 [.i (gI r0 0)]))):=by kernel_rfl
theorem qt7:w9 [.s e0]=(let r0:=q0U [.s e0];qL5 r0 (.br (ilt (gI r0 0) 0) (qL7 [.s e0,.s [49]]) (qL6 (q5c (gI r0 0) (qu e0)) (qL6 (q5c 0 (gI r0 0)) (qL6 (q5c (qu e0) (qu e0)) (qL6 (q5c (qw .i64 (gI r0 0) 1) (qu e0)) (qL7 [.s (qcO e0 0 (gI r0 0)),.s (qcO e0 (qw .i64 (gI r0 0) 1) (qu e0))]))))))):=by kernel_rfl
theorem qmO:qt [.s e0]=(.br (not (seq e0 [])) (qL6 (inb 0 (qu e0)) (.br (ieq (sat e0 0) 45) (qL6 (q5c (qu e0) (qu e0)) (qL6 (q5c 1 (qu e0)) (qL7 [.s (qcO e0 1 (qu e0))]))) (qL7 [.s e0]))) (qL7 [.s e0])):=by kernel_rfl
theorem qpu:q2B [.s e0,.i c1]=(.br (ilt c1 (qu e0)) (qL6 (inb c1 (qu e0)) (.br (ilt (sat e0 c1) 48) (.leaf (2,[.i 3])) (qL6 (inb c1 (qu e0)) (.br (ilt 57 (sat e0 c1)) (.leaf (2,[.i 3])) (qL7 [.s e0,.i (qw .i64 c1 1)]))))) (.leaf (1,[.s e0]))):=by kernel_rfl
theorem qsH:q2X [.s e0]=(let s0:List UInt8:=(gS (qt [.s e0]) 0);let t0:TR:=(qL7 [.i 3]);let t1:=qf q2B [.s s0,.i 0];let t2:TR:=(qL5 t1 (.br (jIs t1 0) (.br (ilt 1024 (qu (gS t1 0))) (qL7 [.i 11]) (qL7 [.i 0])) (qL7 [.i (gI t1 0)])));(qL5 (qt [.s e0]) (.br (seq s0 []) t0 (qL6 (inb 0 (qu s0)) (.br (ieq (sat s0 0) 48) (.br (ilt 1 (qu s0)) t0 (.br (ilt 1 (qu e0)) t0 t2)) t2))))):=by kernel_rfl
theorem qsX:qz [.s e0]=(qL6 (inb 0 (qu e0)) (qL7 [.b (ieq (sat e0 0) 45)])):=by kernel_rfl
theorem qqL:zf [.s e0,.b d1]=(.br d1 (.br (not (seq e0 [48])) (qL6 (ile ((qu [45])+(qu e0)) 140737488355328) (qL7 [.s (qfa [45] e0)])) (qL7 [.s e0])) (qL7 [.s e0])):=by kernel_rfl
theorem qrH:zU [.s e0]=(let r0:=qt [.s e0];qL5 r0 (let r1:=qz [.s e0];qL5 r1 (let r2:=zf [.s (gS r0 0),.b (not (gB r1 0))];qL5 r2 (qL7 [.s (gS r2 0)])))):=by kernel_rfl
theorem qsM(y0:Int)(y1:qL8):qa8 [.i y0,.s y1]=(.br (ilt 9 y0) (qL6 (ile ((qu (qnM [[.i (q36 .u8 (qw .i64 48 (qch y0 10)))]]))+(qu y1)) 140737488355328) (qL7 [.i (qcJ .i64 y0 10),.s (qfa (qnM [[.i (q36 .u8 (qw .i64 48 (qch y0 10)))]]) y1)])) (.leaf (1,[.i y0,.s y1]))):=by kernel_rfl
theorem qxv:q4B [.i c0]=(let t0:=qf qa8 [.i c0,.s []];let s0:List UInt8:=(qnM [[.i (q36 .u8 (qw .i64 48 (gI t0 0)))]]);let t1:TR:=(.br (ilt c0 0) .fail (qL5 t0 (qL6 (ile ((qu s0)+(qu (gS t0 1))) 140737488355328) (qL7 [.s (qfa s0 (gS t0 1))]))));(.br (ieq c0 (jq .i64 0 c0)) (.br (ine c0 0) (qL7 [.s [45,57,50,50,51,51,55,50,48,51,54,56,53,52,55,55,53,56,48,56]]) t1) t1)):=by kernel_rfl
theorem qvM(y0:Int)(y1:qL8):qcA [.i y0,.s y1]=(.br (ilt 9 y0) (qL6 (ile ((qu (qnM [[.i (q36 .u8 (qw .i64 48 (qch y0 10)))]]))+(qu y1)) 140737488355328) (qL7 [.i (qcJ .i64 y0 10),.s (qfa (qnM [[.i (q36 .u8 (qw .i64 48 (qch y0 10)))]]) y1)])) (.leaf (1,[.i y0,.s y1]))):=by kernel_rfl
theorem qrw:zK [.i c0]=(let i0:Int:=(jq .i64 0 c0);let t0:=zU [.s (gS (q4B [.i i0]) 0)];let t1:=qf qcA [.i c0,.s []];let s0:List UInt8:=(qnM [[.i (q36 .u8 (qw .i64 48 (gI t1 0)))]]);let t2:TR:=(.br (ilt c0 0) (qL5 (q4B [.i i0]) (qL5 t0 (qL7 [.s (gS t0 0)]))) (qL5 t1 (qL6 (ile ((qu s0)+(qu (gS t1 1))) 140737488355328) (qL7 [.s (qfa s0 (gS t1 1))]))));(.br (ieq c0 i0) (.br (ine c0 0) (qL7 [.s [45,57,50,50,51,51,55,50,48,51,54,56,53,52,55,55,53,56,48,56]]) t2) t2)):=by kernel_rfl
theorem qeL:uS [.s e0,.i c1,.s e2,.i c3]=(.br (ilt c3 (qu e2)) (qL6 (inb c3 (qu e2)) (qL7 [.s e0,.i (qw .i64 (vT .i64 10 c1) (q36 .i64 (jq .u8 (sat e2 c3) 48))),.s e2,.i (qw .i64 c3 1)])) (.leaf (1,[.s e0,.i c1]))):=by kernel_rfl
theorem qqw:yI [.s e0]=(let r0:=qt [.s e0];qL5 r0 (let r1:=qf uS [.s e0,.i 0,.s (gS r0 0),.i 0];qL5 r1 (let r2:=qz [.s (gS r1 0)];qL5 r2 (.br (gB r2 0) (qL7 [.i (jq .i64 0 (gI r1 1))]) (qL7 [.i (gI r1 1)]))))):=by kernel_rfl
theorem qt0:vH [.s e0,.s e1]=(qL5 (qt [.s e0]) (.br (ilt 18 (qu (gS (qt [.s e0]) 0))) (qL7 [.i 0,.i 0,.b false]) (qL5 (qt [.s e1]) (.br (ilt 18 (qu (gS (qt [.s e1]) 0))) (qL7 [.i 0,.i 0,.b false]) (qL5 (yI [.s e0]) (qL5 (yI [.s e1]) (qL7 [.i (gI (yI [.s e0]) 0),.i (gI (yI [.s e1]) 0),.b true]))))))):=by kernel_rfl
theorem qrc:q3W [.s e0]=(.br (ilt 1 (qu e0)) (qL6 (inb 0 (qu e0)) (.br (ieq (sat e0 0) 48) (qL6 (q5c (qu e0) (qu e0)) (qL6 (q5c 1 (qu e0)) (qL7 [.s (qcO e0 1 (qu e0))]))) (.leaf (1,[.s e0])))) (.leaf (1,[.s e0]))):=by kernel_rfl
theorem qvc:yK [.s e0]=(let r0:=qf q3W [.s e0];qL5 r0 (qL7 [.s (gS r0 0)])):=by kernel_rfl
theorem qhX:q1o [.s e0,.i c1,.i c2,.r a3]=(.br (ilt c2 c1) (qL6 (inb c2 (qg a3)) (qL7 [.s e0,.i c1,.i (qw .i64 c2 1),.r (qbB a3 c2 0 [.i 48])])) (.leaf (1,[.s e0,.i c1,.r a3]))):=by kernel_rfl
theorem qvE:q56 [.s e0,.i c1]=(let t0:=qf q1o [.s e0,.i c1,.i 0,.r (q3r c1 [.i 0])];let i0:Int:=(qg (gR t0 2));let i1:Int:=(jq .i64 (gI t0 1) (qu (gS t0 0)));(qL6 (ieq c1 c1) (qL6 (q5c c1 140737488355328) (qL5 t0 (qL6 (ilt 0 i0) (qL6 (q5c i1 i0) (qL6 (ile (qu (gS t0 0)) (qzA i0 i1)) (qL7 [.s (qnM (qyh (gR t0 2) i1 (gS t0 0)))])))))))):=by kernel_rfl
theorem qs1:q3U [.i c0,.i c1,.i c2,.b d3]=(let i0:Int:=(q36 .i64 (jq .u8 c0 48));let i1:Int:=(q36 .i64 (jq .u8 c1 48));let i2:Int:=(qw .i64 (qw .i64 i0 i1) c2);let i3:Int:=(qw .i64 48 i2);let i4:Int:=(jq .i64 (jq .i64 i0 i1) c2);let i5:Int:=(qw .i64 48 i4);(.br d3 (.br (ilt 9 i2) (qL7 [.i (q36 .u8 (jq .i64 i3 10)),.i 1]) (.br (ilt i2 0) (qL7 [.i (q36 .u8 (qw .i64 i3 10)),.i 1]) (qL7 [.i (q36 .u8 i3),.i 0]))) (.br (ilt 9 i4) (qL7 [.i (q36 .u8 (jq .i64 i5 10)),.i 1]) (.br (ilt i4 0) (qL7 [.i (q36 .u8 (qw .i64 i5 10)),.i 1]) (qL7 [.i (q36 .u8 i5),.i 0]))))):=by kernel_rfl
theorem qpt:q0k [.s e0,.s e1,.b d2,.i c3,.i c4,.r a5]=(.br (ile 0 c4) (qL6 (inb c4 (qu e0)) (qL6 (inb c4 (qu e1)) (let r0:=q3U [.i (sat e0 c4),.i (sat e1 c4),.i c3,.b d2];qL5 r0 (qL6 (inb c4 (qg a5)) (qL7 [.s e0,.s e1,.b d2,.i (gI r0 1),.i (jq .i64 c4 1),.r (qbB a5 c4 0 [.i (gI r0 0)])]))))) (.leaf (1,[.r a5]))):=by kernel_rfl
theorem qsT:yw [.s e0,.s e1,.b d2]=(let i0:Int:=(qw .i64 (qwq (qu e0) (qu e1)) 1);let t0:=q56 [.s e0,.i i0];let t1:=q56 [.s e1,.i i0];let t2:=qf q0k [.s (gS t0 0),.s (gS t1 0),.b d2,.i 0,.i (jq .i64 i0 1),.r (q3r i0 [.i 0])];let t3:=yK [.s (qnM (gR t2 0))];(qL5 t0 (qL5 t1 (qL6 (ieq i0 i0) (qL6 (q5c i0 140737488355328) (qL5 t2 (qL5 t3 (qL7 [.s (gS t3 0)])))))))):=by kernel_rfl
theorem quS:q2y [.s e0,.s e1]=(.br (ilt (qu e0) (qu e1)) (qL7 [.b true]) (.br (ieq (qu e0) (qu e1)) (qL7 [.b (slt e0 e1)]) (qL7 [.b false]))):=by kernel_rfl
theorem qvP:q2F [.s e0,.s e1]=(let r0:=vH [.s e0,.s e1];qL5 r0 (.br (gB r0 2) (let r1:=zK [.i (qw .i64 (gI r0 0) (gI r0 1))];qL5 r1 (qL7 [.s (gS r1 0)])) (let r1:=qt [.s e0];qL5 r1 (let r2:=qt [.s e1];qL5 r2 (let r3:=qz [.s e0];qL5 r3 (let r4:=qz [.s e1];qL5 r4 (.br (beq (gB r3 0) (gB r4 0)) (let r5:=yw [.s (gS r1 0),.s (gS r2 0),.b true];qL5 r5 (qL5 r3 (let r6:=zf [.s (gS r5 0),.b (gB r3 0)];qL5 r6 (qL7 [.s (gS r6 0)])))) (let r5:=q2y [.s (gS r1 0),.s (gS r2 0)];qL5 r5 (.br (gB r5 0) (let r6:=yw [.s (gS r2 0),.s (gS r1 0),.b false];qL5 r6 (qL5 r4 (let r7:=zf [.s (gS r6 0),.b (gB r4 0)];qL5 r7 (qL7 [.s (gS r7 0)])))) (let r6:=yw [.s (gS r1 0),.s (gS r2 0),.b false];qL5 r6 (qL5 r3 (let r7:=zf [.s (gS r6 0),.b (gB r3 0)];qL5 r7 (qL7 [.s (gS r7 0)]))))))))))))):=by kernel_rfl
theorem qt8:vE [.s e0,.s e1]=(let r0:=zU [.s e1];qL5 r0 (let r1:=q2F [.s e0,.s (gS r0 0)];qL5 r1 (qL7 [.s (gS r1 0)]))):=by kernel_rfl
theorem qsx:yF [.s e0,.s e1]=(let r0:=vE [.s e0,.s e1];qL5 r0 (.br (seq (gS r0 0) [48]) (qL7 [.i 0]) (let r1:=qz [.s (gS r0 0)];qL5 r1 (.br (gB r1 0) (qL7 [.i (-1)]) (qL7 [.i 1]))))):=by kernel_rfl
theorem qm4:yR [.s e0,.s e1,.i c2,.i c3,.r a4]=(let i0:Int:=(qw .i64 (qw .i64 c2 c3) 1);(.br (ilt c3 (qu e1)) (qL6 (inb i0 (qg a4)) (qL6 (inb c2 (qu e0)) (qL6 (inb c3 (qu e1)) (qL6 (inb i0 (qg a4)) (qL7 [.s e0,.s e1,.i c2,.i (qw .i64 c3 1),.r (qbB a4 i0 0 [.i (qw .i64 (cI a4 i0 0) (vT .i64 (q36 .i64 (jq .u8 (sat e0 c2) 48)) (q36 .i64 (jq .u8 (sat e1 c3) 48))))])]))))) (.leaf (1,[.s e0,.s e1,.i c2,.r a4])))):=by kernel_rfl
theorem qmu:yN [.s e0,.s e1,.i c2,.r a3]=(.br (ilt c2 (qu e0)) (let r0:=qf yR [.s e0,.s e1,.i c2,.i 0,.r a3];qL5 r0 (qL7 [.s (gS r0 0),.s (gS r0 1),.i (qw .i64 (gI r0 2) 1),.r (gR r0 3)])) (.leaf (1,[.r a3]))):=by kernel_rfl
theorem ql5:jY [.i c0,.i c1,.r a2,.r a3]=(.br (ile 0 c1) (qL6 (inb c1 (qg a2)) (qL6 (inb c1 (qg a3)) (qL7 [.i (qcJ .i64 (qw .i64 c0 (cI a2 c1 0)) 10),.i (jq .i64 c1 1),.r a2,.r (qbB a3 c1 0 [.i (q36 .u8 (qw .i64 48 (qch (qw .i64 c0 (cI a2 c1 0)) 10)))])]))) (.leaf (1,[.r a3]))):=by kernel_rfl
theorem qpy:q2i [.s e0,.s e1]=(let i0:Int:=(qw .i64 (qu e0) (qu e1));let t0:=qf yN [.s e0,.s e1,.i 0,.r (q3r i0 [.i 0])];let i1:Int:=(qg (gR t0 0));let t1:=qf jY [.i 0,.i (jq .i64 i1 1),.r (gR t0 0),.r (q3r i1 [.i 0])];let t2:=yK [.s (qnM (gR t1 0))];(qL6 (ieq i0 i0) (qL6 (q5c i0 17592186044416) (qL5 t0 (qL6 (ieq i1 i1) (qL6 (q5c i1 140737488355328) (qL5 t1 (qL5 t2 (qL7 [.s (gS t2 0)]))))))))):=by kernel_rfl
theorem qsN:wP [.s e0,.s e1]=(let p0:List PV:=[.s e1];let t0:=vH ((.s e0)::p0);let t1:=zK [.i (vT .i64 (gI t0 0) (gI t0 1))];let t2:=q2i [.s (gS (qt [.s e0]) 0),.s (gS (qt p0) 0)];let t3:=zf [.s (gS t2 0),.b (not (beq (gB (qz [.s e0]) 0) (gB (qz p0) 0)))];let t4:TR:=(qL5 (qt [.s e0]) (qL5 (qt p0) (qL5 t2 (qL5 (qz [.s e0]) (qL5 (qz p0) (qL5 t3 (qL7 [.s (gS t3 0)])))))));(qL5 t0 (.br (gB t0 2) (.br (ile (qw .i64 (qu e0) (qu e1)) 18) (qL5 t1 (qL7 [.s (gS t1 0)])) t4) t4))):=by kernel_rfl
theorem qlz:jV [.s e0,.s e1,.s e2,.s e3,.i c4,.i c5]=(let r0:=q2y [.s e3,.s e1];qL5 r0 (.br (not (gB r0 0)) (let r1:=yw [.s e3,.s e1,.b false];qL5 r1 (qL7 [.s e0,.s e1,.s e2,.s (gS r1 0),.i c4,.i (qw .u8 c5 1)])) (.leaf (1,[.s e0,.s e1,.s e2,.s e3,.i c4,.i c5])))):=by kernel_rfl
theorem qnq:q09 [.s e0,.s e1,.s e2,.s e3,.i c4]=(.br (ilt c4 (qu e0)) (qL6 (q5c (qw .i64 c4 1) (qu e0)) (qL6 (q5c c4 (qw .i64 c4 1)) (qL6 (ile ((qu e3)+(qu (qcO e0 c4 (qw .i64 c4 1)))) 140737488355328) (let r0:=yK [.s (qfa e3 (qcO e0 c4 (qw .i64 c4 1)))];qL5 r0 (let r1:=qf jV [.s e0,.s e1,.s e2,.s (gS r0 0),.i c4,.i 48];qL5 r1 (qL6 (ile ((qu (gS r1 2))+(qu (qnM [[.i (gI r1 5)]]))) 140737488355328) (qL7 [.s (gS r1 0),.s (gS r1 1),.s (qfa (gS r1 2) (qnM [[.i (gI r1 5)]])),.s (gS r1 3),.i (qw .i64 (gI r1 4) 1)]))))))) (.leaf (1,[.s e2,.s e3]))):=by kernel_rfl
theorem qpz:q2s [.s e0,.s e1]=(let r0:=qf q09 [.s e0,.s e1,.s [],.s [48],.i 0];qL5 r0 (let r1:=yK [.s (gS r0 0)];qL5 r1 (qL7 [.s (gS r1 0),.s (gS r0 1)]))):=by kernel_rfl
theorem qqT:vk [.s e0,.s e1]=(let p0:List PV:=[.s e1];let t0:=vH ((.s e0)::p0);let i0:Int:=(gI t0 1);let i1:Int:=(qch (gI t0 0) i0);let i2:Int:=(qw .i64 i1 i0);let t1:=zK [.i (qcJ .i64 (jq .i64 (gI t0 0) i2) i0)];let t2:=zK [.i (qcJ .i64 (jq .i64 (gI t0 0) i1) i0)];let t3:TR:=(qL6 (ine i0 0) (qL5 t2 (qL5 (zK [.i i1]) (qL7 [.s (gS t2 0),.s (gS (zK [.i i1]) 0)]))));let t4:=q2s [.s (gS (qt [.s e0]) 0),.s (gS (qt p0) 0)];let t5:=qz [.s e0];let b0:Bool:=(not (beq (gB t5 0) (gB (qz p0) 0)));let t6:=zf [.s (gS t4 0),.b b0];let t7:=vE [.s (gS t6 0),.s [49]];let t8:=wP ((.s (gS t7 0))::p0);let t9:=vE [.s e0,.s (gS t8 0)];let t10:=wP ((.s (gS t6 0))::p0);let t11:=vE [.s e0,.s (gS t10 0)];let t12:TR:=(qL5 t10 (qL5 t11 (qL7 [.s (gS t6 0),.s (gS t11 0)])));(qL5 t0 (.br (gB t0 2) (qL6 (ine i0 0) (.br (ine i1 0) (.br (not (beq (ilt i1 0) (ilt i0 0))) (qL6 (ine i0 0) (qL5 t1 (qL5 (zK [.i i2]) (qL7 [.s (gS t1 0),.s (gS (zK [.i i2]) 0)])))) t3) t3)) (qL5 (qt [.s e0]) (qL5 (qt p0) (qL5 t4 (qL5 t5 (qL5 (qz p0) (qL5 t6 (.br (not (seq (gS t4 1) [48])) (qL5 t5 (qL5 (qz p0) (.br b0 (qL5 t7 (qL5 t8 (qL5 t9 (qL7 [.s (gS t7 0),.s (gS t9 0)])))) t12))) t12)))))))))):=by kernel_rfl
theorem qne:yP [.i c0,.i c1]=(.br (ilt 0 c1) (qL6 (ine c1 0) (qL7 [.i c1,.i (qch c0 c1)])) (.leaf (1,[.i c0]))):=by kernel_rfl
theorem qod:q1f [.s e0,.s e1]=(.br (not (seq e1 [48])) (let r0:=vH [.s e0,.s e1];qL5 r0 (.br (gB r0 2) (let r1:=qf yP [.i (gI r0 0),.i (gI r0 1)];qL5 r1 (let r2:=zK [.i (gI r1 0)];qL5 r2 (.leaf (2,[.s (gS r2 0)])))) (let r1:=vk [.s e0,.s e1];qL5 r1 (qL7 [.s e1,.s (gS r1 1)])))) (.leaf (1,[.s e0]))):=by kernel_rfl
theorem qr6:kH [.s e0,.s e1]=(let r0:=qt [.s e0];qL5 r0 (let r1:=zf [.s (gS r0 0),.b false];qL5 r1 (let r2:=qt [.s e1];qL5 r2 (let r3:=zf [.s (gS r2 0),.b false];qL5 r3 (let r4:=qf q1f [.s (gS r1 0),.s (gS r3 0)];qL5 r4 (.br (jIs r4 0) (qL7 [.s (gS r4 0)]) (qL7 [.s (gS r4 0)]))))))):=by kernel_rfl
theorem qt4:q0E [.s e0]=(let r0:=w9 [.s e0];qL5 r0 (let r1:=q2X [.s (gS r0 0)];qL5 r1 (.br (ieq (gI r1 0) 3) (qL7 [.i 3]) (let r2:=q2X [.s (gS r0 1)];qL5 r2 (.br (ieq (gI r2 0) 3) (qL7 [.i 3]) (qL5 r1 (.br (ine (gI r1 0) 0) (qL7 [.i 11]) (qL5 r2 (.br (ine (gI r2 0) 0) (qL7 [.i 11]) (let r3:=q0U [.s e0];qL5 r3 (.br (ile 0 (gI r3 0)) (let r4:=yF [.s (gS r0 1),.s [49]];qL5 r4 (.br (ile (gI r4 0) 0) (qL7 [.i 3]) (let r5:=kH [.s (gS r0 0),.s (gS r0 1)];qL5 r5 (.br (not (seq (gS r5 0) [49])) (qL7 [.i 3]) (qL7 [.i 0]))))) (qL7 [.i 0])))))))))))):=by kernel_rfl
theorem qpW:zq [.s e0,.s e1]=(let r0:=w9 [.s e0];qL5 r0 (let r1:=w9 [.s e1];qL5 r1 (let r2:=wP [.s (gS r0 0),.s (gS r1 1)];qL5 r2 (let r3:=wP [.s (gS r1 0),.s (gS r0 1)];qL5 r3 (let r4:=wP [.s (gS r0 1),.s (gS r1 1)];qL5 r4 (let r5:=wP [.s (gS r0 0),.s (gS r1 0)];qL5 r5 (let r6:=wP [.s (gS r0 1),.s (gS r1 0)];qL5 r6 (qL7 [.r [[.s (gS r2 0)],[.s (gS r3 0)],[.s (gS r4 0)],[.s (gS r5 0)],[.s (gS r6 0)]]])))))))):=by kernel_rfl
theorem qsV:q0A [.s e0,.s e1]=(let r0:=zq [.s e0,.s e1];qL5 r0 (qL6 (inb 0 (qg (gR r0 0))) (qL6 (inb 1 (qg (gR r0 0))) (let r1:=yF [.s (cS (gR r0 0) 0 0),.s (cS (gR r0 0) 1 0)];qL5 r1 (qL7 [.i (gI r1 0)]))))):=by kernel_rfl
theorem qen:uJ [.r a0,.r a1,.i c2,.r a3]=(.br (ilt c2 (qg a1)) (qL6 (inb c2 (qg a1)) (qL6 (inb (cI a1 c2 0) (qg a0)) (qL6 (ile ((qg a3)+(qg [[.i (cI a0 (cI a1 c2 0) 0),.i (cI a0 (cI a1 c2 0) 1),.i (cI a0 (cI a1 c2 0) 2)]])) 5864062014805) (qL7 [.r a0,.r a1,.i (qw .i64 c2 1),.r (jo a3 [[.i (cI a0 (cI a1 c2 0) 0),.i (cI a0 (cI a1 c2 0) 1),.i (cI a0 (cI a1 c2 0) 2)]])])))) (.leaf (1,[.r a3]))):=by kernel_rfl
theorem qqo:kN [.r a0,.r a1]=(let r0:=qf uJ [.r a0,.r a1,.i 0,.r []];qL5 r0 (qL7 [.r (gR r0 0)])):=by kernel_rfl
theorem qxt:qb6 [.r a0]=(.br (ile (qg a0) 8) (qL7 [.b true]) (.br (ilt 64 (qg a0)) (qL7 [.b (ilt (qg a0) 128)]) (qL7 [.b false]))):=by kernel_rfl
theorem qnZ:q1c [.r a0,.i c1]=(let t0:=vZ [.r a0];let t1:TR:=(qL7 [.s (gS t0 0),.s (gS t0 1),.s (gS t0 2),.s (gS t0 3),.r (gR t0 4),.i (gI t0 6)]);(.br (ilt c1 (qg a0)) (qL7 [.s [],.s [],.s [],.s [],.r [],.i 5]) (qL5 t0 (.br (ieq (gI t0 6) 0) (.br (not (gB t0 5)) (qL7 [.s (gS t0 0),.s (gS t0 1),.s (gS t0 2),.s (gS t0 3),.r (gR t0 4),.i 10]) t1) t1)))):=by kernel_rfl
theorem qo2:yi [.r a0]=(let r0:=jw [.r a0];qL5 r0 (.br (ine (gI r0 0) 0) (qL7 [.s [],.s [],.s [],.i (gI r0 0)]) (let r1:=wQ [.r a0];qL5 r1 (let r2:=q1c [.r (gR r1 0),.i 3];qL5 r2 (.br (ine (gI r2 5) 0) (qL7 [.s [],.s [],.s [],.i (gI r2 5)]) (let r3:=wD [.s (gS r2 0),.s (gS r2 1),.s (gS r2 2),.s (gS r2 3),.r (gR r2 4)];qL5 r3 (qL7 [.s (gS r3 0),.s (gS r3 1),.s (gS r2 3),.i 0]))))))):=by kernel_rfl
theorem vF:qK [.r a0,.r a1,.i c2,.i c3]=(.br (ilt c3 c2) (qL6 (inb c3 (qg a0)) (qL6 (inb c3 (qg a1)) (.br (not (seq (cS a0 c3 0) (cS a1 c3 0))) (.leaf (2,[.b false])) (qL7 [.r a0,.r a1,.i c2,.i (qw .i64 c3 1)])))) (.leaf (1,[]))):=by kernel_rfl
theorem q7I:qR [.r a0,.r a1]=(.br (ine (qg a0) (qg a1)) (qL7 [.b false]) (let r0:=qf qK [.r a0,.r a1,.i (qg a0),.i 0];qL5 r0 (.br (jIs r0 0) (qL7 [.b true]) (qL7 [.b (gB r0 0)])))):=by kernel_rfl
theorem q8j:vV [.r a0,.r a1,.r a2,.i c3,.r a4,.i c5,.i c6]=(.br (ilt c6 c5) (qL6 (inb c6 (qg a4)) (let r0:=zh [.s (cS a4 c6 0)];qL5 r0 (.br (ine (gI r0 0) 0) (.leaf (2,[.b false,.i (gI r0 0)])) (qL7 [.r a0,.r a1,.r a2,.i c3,.r a4,.i c5,.i (qw .i64 c6 1)])))) (.leaf (1,[.r a0,.r a1,.r a2,.i c3]))):=by kernel_rfl
theorem q7a:wX [.r a0,.r a1,.r a2,.i c3,.r a4,.i c5,.i c6]=(let i0:Int:=(cI a4 c6 0);let t0:TR:=(.leaf (2,[.b false,.i 2]));let t1:TR:=(qL7 [.r a0,.r a1,.r a2,.i c3,.r a4,.i c5,.i (qw .i64 c6 1)]);(.br (ilt c6 c5) (qL6 (inb c6 (qg a4)) (.br (ilt i0 0) t0 (.br (ile (qg a0) i0) t0 (.br (ilt 0 c6) (qL6 (inb (jq .i64 c6 1) (qg a2)) (.br (ile i0 (cI a2 (jq .i64 c6 1) 0)) (.leaf (2,[.b false,.i 9])) t1)) t1)))) (.leaf (1,[.r a0,.r a1,.r a2,.i c3])))):=by kernel_rfl
theorem q4L:qP [.r a0,.r a1,.r a2,.i c3]=(let t0:=qf vV [.r a0,.r a1,.r a2,.i c3,.r a1,.i (qg a1),.i 0];let l0:R:=(gR t0 2);let t1:=qf wX [.r (gR t0 0),.r (gR t0 1),.r l0,.i (gI t0 3),.r l0,.i (qg l0),.i 0];let t2:=zl [.r (gR t1 0),.r (gR t1 2)];let t3:TR:=(qL7 [.b false,.i (gI t2 6)]);let i0:Int:=(jq .i64 (gI t1 3) 1);let s0:List UInt8:=(cS [[.s (gS t2 0),.s (gS t2 1),.s (gS t2 2),.s (gS t2 3),.l (gR t2 4)]] 0 3);let l1:R:=(qr7 [[.s (gS t2 0)],[.s (gS t2 1)],[.s (gS t2 2)]] 0 i0);let t4:=qR [.r (jo l1 [[.s s0]]),.r (gR t1 1)];(qL5 t0 (.br (jIs t0 0) (.br (ieq (qg l0) 0) (qL7 [.b false,.i 13]) (.br (ilt (gI t0 3) (qg l0)) (qL7 [.b false,.i 5]) (qL5 t1 (.br (jIs t1 0) (qL5 t2 (.br (ine (gI t2 6) 0) t3 (.br (not (gB t2 5)) t3 (qL6 (q5c i0 3) (qL6 (q5c 0 i0) (qL6 (ieq i0 i0) (qL6 (ilt 0 (qg [[.s s0]])) (qL6 (ile ((qg l1)+(qg [[.s s0]])) 8796093022208) (qL5 t4 (qL7 [.b (gB t4 0),.i 0])))))))))) (qL7 [.b (gB t1 0),.i (gI t1 1)]))))) (qL7 [.b (gB t0 0),.i (gI t0 1)])))):=by kernel_rfl
theorem q5X:zc [.r a0,.s e1,.s e2,.s e3,.r a4]=(let r0:=jw [.r a0];qL5 r0 (.br (ine (gI r0 0) 0) (qL7 [.b false,.i (gI r0 0)]) (let r1:=wQ [.r a0];qL5 r1 (let r2:=qP [.r (gR r1 0),.r [[.s e1],[.s e2],[.s e3]],.r a4,.i 3];qL5 r2 (qL7 [.b (gB r2 0),.i (gI r2 1)]))))):=by kernel_rfl
theorem qyT:q1u [.i c0,.i c1]=(qL7 [.i c0,.i c1]):=by kernel_rfl
theorem q3G:zL [.r a0,.r a1,.i c2,.i c3]=(.br (ilt c3 c2) (qL6 (inb c3 (qg a0)) (qL6 (inb c3 (qg a1)) (.br (ine (cI a0 c3 0) (cI a1 c3 0)) (.leaf (2,[.b false])) (qL7 [.r a0,.r a1,.i c2,.i (qw .i64 c3 1)])))) (.leaf (1,[]))):=by kernel_rfl
theorem qfc:wy [.r a0,.r a1]=(.br (ine (qg a0) (qg a1)) (qL7 [.b false]) (let r0:=qf zL [.r a0,.r a1,.i (qg a0),.i 0];qL5 r0 (.br (jIs r0 0) (qL7 [.b true]) (qL7 [.b (gB r0 0)])))):=by kernel_rfl
theorem qtu  : vP []=(let t0:=q1u [.i 0,.i 0];let t1:=q1u [.i 4,.i 0];let t2:=q1u [.i 0,.i 2];let t3:=yi [.r [[.i (gI t0 0),.i (gI t0 1)],[.i (gI t1 0),.i (gI t1 1)],[.i (gI t2 0),.i (gI t2 1)]]];let t4:=q1u [.i 6,.i 0];let t5:=q1u [.i 3,.i 5];let t6:=yh [.r [[.i (gI t0 0),.i (gI t0 1)],[.i (gI t4 0),.i (gI t4 1)],[.i (gI t5 0),.i (gI t5 1)]]];let t7:=yf [.r [[.i 0,.i 0,.i 0],[.i 2,.i 0,.i 0],[.i 0,.i 2,.i 0],[.i 0,.i 0,.i 2]]];let t8:=q1u [.i 3,.i 1];let t9:=zc [.r [[.i (gI t0 0),.i (gI t0 1)],[.i (gI t4 0),.i (gI t4 1)],[.i (gI t8 0),.i (gI t8 1)]],.s [51],.s [48],.s [57],.r [[.i 0],[.i 1]]];let t10:=wy [.r (gR t6 3),.r [[.i 0],[.i 1],[.i 2]]];let t11:=wy [.r (gR t7 4),.r [[.i 1],[.i 2],[.i 3]]];let t12:TR:=(qL7 [.b false]);(qL5 t0 (qL5 t1 (qL5 t2 (qL5 t3 (qL5 t0 (qL5 t4 (qL5 t5 (qL5 t6 (qL5 t7 (qL5 t0 (qL5 t4 (qL5 t8 (qL5 t9 (.br (ieq (qw .i64 (qw .i64 (qw .i64 (gI t3 3) (gI t6 4)) (gI t7 5)) (gI t9 1)) 0) (.br (qtA (seq (gS t3 0) [50]) (qtA (seq (gS t3 1) [49]) true)) (.br (seq (gS t3 2) [53]) (.br (qtA (seq (gS t6 0) [51]) (qtA (seq (gS t6 1) [56,47,53]) true)) (.br (seq (gS t6 2) [50,56,57,47,50,53]) (qL5 t10 (.br (gB t10 0) (.br (qtA (seq (gS t7 0) [50,47,51]) (qtA (seq (gS t7 1) [50,47,51]) (qtA (seq (gS t7 2) [50,47,51]) true))) (.br (seq (gS t7 3) [56,47,51]) (qL5 t11 (.br (gB t11 0) (qL7 [.b (gB t9 0)]) t12)) t12) t12) t12)) t12) t12) t12) t12) t12))))))))))))))):=by kernel_rfl
theorem qeC:uN [.r a0,.i c1,.r a2]=(.br (ilt c1 (qg a0)) (qL6 (inb c1 (qg a0)) (qL6 (inb c1 (qg a0)) (qL6 (ile ((qg a2)+(qg [[.i (cI a0 c1 0),.i (cI a0 c1 1),.i 0]])) 5864062014805) (qL7 [.r a0,.i (qw .i64 c1 1),.r (jo a2 [[.i (cI a0 c1 0),.i (cI a0 c1 1),.i 0]])])))) (.leaf (1,[.r a2]))):=by kernel_rfl
theorem qr2:q3V [.r a0]=(let r0:=qf uN [.r a0,.i 0,.r []];qL5 r0 (qL7 [.r (gR r0 0)])):=by kernel_rfl
theorem qyZ:jh [.i c0]=(.br (ile (-100000) c0) (qL7 [.b (ile c0 100000)]) (qL7 [.b false])):=by kernel_rfl
theorem qsE:q3b [.i c0,.i c1]=(qL5 (jh [.i c0]) (.br (gB (jh [.i c0]) 0) (qL5 (jh [.i c1]) (qL7 [.b (gB (jh [.i c1]) 0)])) (qL7 [.b false]))):=by kernel_rfl
theorem qgu:ub [.r a0,.i c1]=(.br (ilt c1 (qg a0)) (qL6 (inb c1 (qg a0)) (let r0:=q3b [.i (cI a0 c1 0),.i (cI a0 c1 1)];qL5 r0 (.br (not (gB r0 0)) (.leaf (2,[.i 2])) (qL7 [.r a0,.i (qw .i64 c1 1)])))) (.leaf (1,[]))):=by kernel_rfl
theorem qta:q6z [.r a0]=(.br (ilt 64 (qg a0)) (qL7 [.i 5]) (let r0:=qf ub [.r a0,.i 0];qL5 r0 (.br (jIs r0 0) (qL7 [.i 0]) (qL7 [.i (gI r0 0)])))):=by kernel_rfl
theorem qvi:q8J [.r a0]=(let r0:=q6z [.r a0];qL5 r0 (.br (ine (gI r0 0) 0) (qL7 [.i (gI r0 0)]) (.br (ieq (qg a0) 0) (qL7 [.i 13]) (qL7 [.i 0])))):=by kernel_rfl
theorem qsv:zX [.i c0]=(qL5 (zK [.i c0]) (qL7 [.s (gS (zK [.i c0]) 0)])):=by kernel_rfl
theorem qqA:wL [.s e0,.s e1]=(let r0:=kH [.s e0,.s e1];qL5 r0 (let r1:=qz [.s e1];qL5 r1 (.br (gB r1 0) (let r2:=zU [.s (gS r0 0)];qL5 r2 (let r3:=vk [.s e0,.s (gS r2 0)];qL5 r3 (let r4:=vk [.s e1,.s (gS r2 0)];qL5 r4 (.br (seq (gS r4 0) [49]) (qL7 [.s (gS r3 0)]) (qL6 (ile ((qu (gS r3 0))+(qu [47])) 140737488355328) (qL6 (ile ((qu (qfa (gS r3 0) [47]))+(qu (gS r4 0))) 140737488355328) (qL7 [.s (qfa (qfa (gS r3 0) [47]) (gS r4 0))]))))))) (let r2:=vk [.s e0,.s (gS r0 0)];qL5 r2 (let r3:=vk [.s e1,.s (gS r0 0)];qL5 r3 (.br (seq (gS r3 0) [49]) (qL7 [.s (gS r2 0)]) (qL6 (ile ((qu (gS r2 0))+(qu [47])) 140737488355328) (qL6 (ile ((qu (qfa (gS r2 0) [47]))+(qu (gS r3 0))) 140737488355328) (qL7 [.s (qfa (qfa (gS r2 0) [47]) (gS r3 0))]))))))))):=by kernel_rfl
theorem qsO:zE [.s e0,.s e1]=(let r0:=zq [.s e0,.s e1];qL5 r0 (qL6 (inb 3 (qg (gR r0 0))) (qL6 (inb 2 (qg (gR r0 0))) (let r1:=wL [.s (cS (gR r0 0) 3 0),.s (cS (gR r0 0) 2 0)];qL5 r1 (qL7 [.s (gS r1 0)]))))):=by kernel_rfl
theorem qtx:vM [.s e0,.s e1]=(let r0:=zq [.s e0,.s e1];qL5 r0 (qL6 (inb 0 (qg (gR r0 0))) (qL6 (inb 1 (qg (gR r0 0))) (let r1:=vE [.s (cS (gR r0 0) 0 0),.s (cS (gR r0 0) 1 0)];qL5 r1 (qL6 (inb 2 (qg (gR r0 0))) (let r2:=wL [.s (gS r1 0),.s (cS (gR r0 0) 2 0)];qL5 r2 (qL7 [.s (gS r2 0)]))))))):=by kernel_rfl
theorem qvI:zR [.s e0,.s e1]=(let r0:=zq [.s e0,.s e1];qL5 r0 (qL6 (inb 0 (qg (gR r0 0))) (qL6 (inb 1 (qg (gR r0 0))) (let r1:=q2F [.s (cS (gR r0 0) 0 0),.s (cS (gR r0 0) 1 0)];qL5 r1 (qL6 (inb 2 (qg (gR r0 0))) (let r2:=wL [.s (gS r1 0),.s (cS (gR r0 0) 2 0)];qL5 r2 (qL7 [.s (gS r2 0)]))))))):=by kernel_rfl
theorem qiQ:q1k [.s e0,.i c1,.i c2,.i c3,.i c4,.s e5,.s e6,.s e7]=(let t0:=zX [.i (qsr [c1,c2,c3] c4)];let p0:List PV:=[.s (gS t0 0)];let t1:=vM ((.s e7)::p0);let t2:=zE [.s (gS t1 0),.s (gS t1 0)];let t3:=zR [.s e0,.s (gS t2 0)];let p1:List PV:=[.i c1,.i c2,.i c3,.i (qw .i64 c4 1),.s e5,.s e6,.s e7];let t4:=vM ((.s e6)::p0);let t5:=zE [.s (gS t4 0),.s (gS t4 0)];let t6:=zR [.s e0,.s (gS t5 0)];let t7:=vM ((.s e5)::p0);let t8:=zE [.s (gS t7 0),.s (gS t7 0)];let t9:=zR [.s e0,.s (gS t8 0)];(.br (ilt c4 3) (qL6 (inb c4 3) (.br (ieq c4 2) (qL5 t0 (qL5 t1 (qL5 t2 (qL5 t3 (qL7 ((.s (gS t3 0))::p1)))))) (.br (ieq c4 1) (qL5 t0 (qL5 t4 (qL5 t5 (qL5 t6 (qL7 ((.s (gS t6 0))::p1)))))) (qL6 (ieq c4 0) (qL5 t0 (qL5 t7 (qL5 t8 (qL5 t9 (qL7 ((.s (gS t9 0))::p1)))))))))) (.leaf (1,[.s e0])))):=by kernel_rfl
theorem qwe:yM [.s e0,.s e1,.s e2,.i c3,.i c4,.i c5]=(let r0:=qf q1k [.s [48],.i c3,.i c4,.i c5,.i 0,.s e0,.s e1,.s e2];qL5 r0 (qL7 [.s (gS r0 0)])):=by kernel_rfl
theorem quA:q55 [.i c0,.i c1,.i c2,.i c3,.i c4,.i c5]=(qL7 [.i (jq .i64 c0 c3),.i (jq .i64 c1 c4),.i (jq .i64 c2 c5)]):=by kernel_rfl
theorem qkQ:wt [.i c0,.i c1,.i c2,.i c3,.i c4,.i c5]=(qL7 [.i (qw .i64 (qw .i64 (vT .i64 c0 c3) (vT .i64 c1 c4)) (vT .i64 c2 c5))]):=by kernel_rfl
theorem q62:ji [.r a0,.i c1,.i c2,.r a3]=(.br (ilt c2 (qg a0)) (qL6 (inb c2 (qg a0)) (qL6 (inb c1 (qg (cR a0 c2 0))) (.br (not (seq (cS (cR a0 c2 0) c1 0) [48])) (qL6 (inb c2 (qg a0)) (qL6 (inb c1 (qg a0)) (qL6 (inb c1 (qg a3)) (qL6 (inb c2 (qg (qbB a3 c1 0 [.l (cR a0 c2 0)]))) (.leaf (2,[.b true,.r (qbB (qbB a3 c1 0 [.l (cR a0 c2 0)]) c2 0 [.l (cR a0 c1 0)])])))))) (qL7 [.r a0,.i c1,.i (qw .i64 c2 1),.r a3])))) (.leaf (1,[]))):=by kernel_rfl
theorem qpw:q2r [.r a0,.i c1]=(qL6 (ile ((qg [])+(qg a0)) 5864062014805) (let r0:=qf ji [.r a0,.i c1,.i c1,.r (jo [] a0)];qL5 r0 (.br (jIs r0 0) (qL7 [.r [],.b false]) (qL7 [.r (gR r0 1),.b (gB r0 0)])))):=by kernel_rfl
theorem qyx:qeg [.s e0,.s e1]=(let r0:=zq [.s e0,.s e1];qL5 r0 (qL6 (inb 0 (qg (gR r0 0))) (qL6 (inb 4 (qg (gR r0 0))) (let r1:=wL [.s (cS (gR r0 0) 0 0),.s (cS (gR r0 0) 4 0)];qL5 r1 (qL7 [.s (gS r1 0)]))))):=by kernel_rfl
theorem qgr:q0p [.r a0,.s e1,.i c2]=(.br (ilt c2 (qg a0)) (qL6 (inb c2 (qg a0)) (let r0:=zR [.s e1,.s (cS a0 c2 0)];qL5 r0 (qL7 [.r a0,.s (gS r0 0),.i (qw .i64 c2 1)]))) (.leaf (1,[.s e1]))):=by kernel_rfl
theorem qsC:q2O [.r a0]=(let r0:=qf q0p [.r a0,.s [48],.i 0];qL5 r0 (qL7 [.s (gS r0 0)])):=by kernel_rfl
theorem qbV:jQ [.r a0,.i c1,.i c2,.r a3,.i c4,.i c5,.i c6,.r a7]=(.br (ilt c2 (qg a0)) (qL6 (inb c2 (qg a0)) (qL6 (inb 0 (qg a0)) (let r0:=q55 [.i (cI a0 c2 0),.i (cI a0 c2 1),.i (cI a0 c2 2),.i (cI a0 0 0),.i (cI a0 0 1),.i (cI a0 0 2)];qL5 r0 (let r1:=wt [.i c4,.i c5,.i c6,.i (gI r0 0),.i (gI r0 1),.i (gI r0 2)];qL5 r1 (let r2:=zX [.i (vT .i64 2 (gI r1 0))];qL5 r2 (qL6 (ile ((qg a7)+(qg [[.s (gS r2 0)]])) 8796093022208) (qL7 [.r a0,.i c1,.i (qw .i64 c2 1),.r a3,.i c4,.i c5,.i c6,.r (jo a7 [[.s (gS r2 0)]])]))))))) (.leaf (1,[.r a0,.i c1,.r a3,.i c4,.i c5,.i c6,.r a7]))):=by kernel_rfl
theorem qcC:yU [.r a0,.i c1,.r a2]=(.br (ilt c1 (qg a0)) (qL6 (inb c1 (qg a0)) (qL6 (inb 0 (qg a0)) (let r0:=q55 [.i (cI a0 c1 0),.i (cI a0 c1 1),.i (cI a0 c1 2),.i (cI a0 0 0),.i (cI a0 0 1),.i (cI a0 0 2)];qL5 r0 (let r1:=qf jQ [.r a0,.i c1,.i 1,.r a2,.i (gI r0 0),.i (gI r0 1),.i (gI r0 2),.r []];qL5 r1 (let r2:=wt [.i (gI r1 3),.i (gI r1 4),.i (gI r1 5),.i (gI r1 3),.i (gI r1 4),.i (gI r1 5)];qL5 r2 (let r3:=zX [.i (gI r2 0)];qL5 r3 (qL6 (ile ((qg (gR r1 6))+(qg [[.s (gS r3 0)]])) 8796093022208) (qL6 (ile ((qg (gR r1 2))+(qg [[.l (jo (gR r1 6) [[.s (gS r3 0)]])]])) 5864062014805) (qL7 [.r (gR r1 0),.i (qw .i64 (gI r1 1) 1),.r (jo (gR r1 2) [[.l (jo (gR r1 6) [[.s (gS r3 0)]])]])]))))))))) (.leaf (1,[.r a2]))):=by kernel_rfl
theorem q5M:zC [.i c0,.r a1,.i c2,.i c3,.r a4,.r a5]=(qL6 (inb c2 (qg a1)) (.br (ilt c3 (qg (cR a1 c2 0))) (qL6 (inb c0 (qg a1)) (qL6 (inb c3 (qg (cR a1 c0 0))) (qL6 (inb c0 (qg a1)) (qL6 (inb c0 (qg (cR a1 c0 0))) (let r0:=qeg [.s (cS (cR a1 c0 0) c3 0),.s (cS (cR a1 c0 0) c0 0)];qL5 r0 (.br (ine c2 c0) (qL6 (inb c2 (qg a1)) (qL6 (inb c3 (qg (cR a1 c2 0))) (qL6 (inb c2 (qg a1)) (qL6 (inb c0 (qg (cR a1 c2 0))) (let r1:=zE [.s (cS (cR a1 c2 0) c0 0),.s (gS r0 0)];qL5 r1 (let r2:=vM [.s (cS (cR a1 c2 0) c3 0),.s (gS r1 0)];qL5 r2 (qL6 (ile ((qg a5)+(qg [[.s (gS r2 0)]])) 8796093022208) (qL7 [.i c0,.r a1,.i c2,.i (qw .i64 c3 1),.r a4,.r (jo a5 [[.s (gS r2 0)]])])))))))) (qL6 (ile ((qg a5)+(qg [[.s (gS r0 0)]])) 8796093022208) (qL7 [.i c0,.r a1,.i c2,.i (qw .i64 c3 1),.r a4,.r (jo a5 [[.s (gS r0 0)]])])))))))) (.leaf (1,[.i c0,.r a1,.i c2,.r a4,.r a5])))):=by kernel_rfl
theorem q6i:wC [.i c0,.r a1,.i c2,.r a3]=(.br (ilt c2 (qg a1)) (let r0:=qf zC [.i c0,.r a1,.i c2,.i 0,.r a3,.r []];qL5 r0 (qL6 (ile ((qg (gR r0 3))+(qg [[.l (gR r0 4)]])) 5864062014805) (qL7 [.i (gI r0 0),.r (gR r0 1),.i (qw .i64 (gI r0 2) 1),.r (jo (gR r0 3) [[.l (gR r0 4)]])]))) (.leaf (1,[.i c0,.r a3]))):=by kernel_rfl
theorem qhf:zT [.i c0,.r a1]=(.br (ilt c0 (qg a1)) (let r0:=q2r [.r a1,.i c0];qL5 r0 (.br (not (gB r0 1)) (.leaf (2,[.b false])) (let r1:=qf wC [.i c0,.r (gR r0 0),.i 0,.r []];qL5 r1 (qL7 [.i (qw .i64 (gI r1 0) 1),.r (gR r1 1)])))) (.leaf (1,[.r a1]))):=by kernel_rfl
theorem q61:wz [.i c0,.r a1,.r a2]=(.br (ilt c0 (qg a1)) (qL6 (inb c0 (qg a1)) (qL6 (inb (qg a1) (qg (cR a1 c0 0))) (qL6 (ile ((qg a2)+(qg [[.s (cS (cR a1 c0 0) (qg a1) 0)]])) 8796093022208) (qL7 [.i (qw .i64 c0 1),.r a1,.r (jo a2 [[.s (cS (cR a1 c0 0) (qg a1) 0)]])])))) (.leaf (1,[.r a2]))):=by kernel_rfl
theorem qgw:vJ [.r a0]=(let r0:=qf yU [.r a0,.i 1,.r []];qL5 r0 (let r1:=qf zT [.i 0,.r (gR r0 0)];qL5 r1 (.br (jIs r1 0) (let r2:=qf wz [.i 0,.r (gR r1 0),.r []];qL5 r2 (let r3:=q2O [.r (gR r2 0)];qL5 r3 (let r4:=vM [.s [49],.s (gS r3 0)];qL5 r4 (qL6 (ile ((qg [[.s (gS r4 0)]])+(qg (gR r2 0))) 8796093022208) (qL7 [.r (jo [[.s (gS r4 0)]] (gR r2 0)),.b true]))))) (.br (not (gB r1 0)) (qL7 [.r [],.b false]) (let r2:=q2O [.r []];qL5 r2 (let r3:=vM [.s [49],.s (gS r2 0)];qL5 r3 .fail)))))):=by kernel_rfl
theorem qeN:uQ [.r a0,.r a1,.i c2,.i c3,.i c4,.i c5,.i c6,.s e7,.s e8,.s e9,.s e10,.s e11,.s e12]=(.br (ilt c6 3) (qL6 (inb c6 3) (.br (ieq c6 2) (qL6 (inb c2 (qg a1)) (let r0:=zX [.i (qsr [c3,c4,c5] c6)];qL5 r0 (let r1:=zE [.s (cS a1 c2 0),.s (gS r0 0)];qL5 r1 (let r2:=zR [.s e12,.s (gS r1 0)];qL5 r2 (.br (ieq c6 2) (qL7 [.r a0,.r a1,.i c2,.i c3,.i c4,.i c5,.i (qw .i64 c6 1),.s e7,.s e8,.s e9,.s e10,.s e11,.s (gS r2 0)]) (.br (ieq c6 1) (qL7 [.r a0,.r a1,.i c2,.i c3,.i c4,.i c5,.i (qw .i64 c6 1),.s e7,.s e8,.s e9,.s e10,.s (gS r2 0),.s e12]) (qL6 (ieq c6 0) (qL7 [.r a0,.r a1,.i c2,.i c3,.i c4,.i c5,.i (qw .i64 c6 1),.s e7,.s e8,.s e9,.s (gS r2 0),.s e11,.s e12])))))))) (.br (ieq c6 1) (qL6 (inb c2 (qg a1)) (let r0:=zX [.i (qsr [c3,c4,c5] c6)];qL5 r0 (let r1:=zE [.s (cS a1 c2 0),.s (gS r0 0)];qL5 r1 (let r2:=zR [.s e11,.s (gS r1 0)];qL5 r2 (.br (ieq c6 2) (qL7 [.r a0,.r a1,.i c2,.i c3,.i c4,.i c5,.i (qw .i64 c6 1),.s e7,.s e8,.s e9,.s e10,.s e11,.s (gS r2 0)]) (.br (ieq c6 1) (qL7 [.r a0,.r a1,.i c2,.i c3,.i c4,.i c5,.i (qw .i64 c6 1),.s e7,.s e8,.s e9,.s e10,.s (gS r2 0),.s e12]) (qL6 (ieq c6 0) (qL7 [.r a0,.r a1,.i c2,.i c3,.i c4,.i c5,.i (qw .i64 c6 1),.s e7,.s e8,.s e9,.s (gS r2 0),.s e11,.s e12])))))))) (qL6 (ieq c6 0) (qL6 (inb c2 (qg a1)) (let r0:=zX [.i (qsr [c3,c4,c5] c6)];qL5 r0 (let r1:=zE [.s (cS a1 c2 0),.s (gS r0 0)];qL5 r1 (let r2:=zR [.s e10,.s (gS r1 0)];qL5 r2 (.br (ieq c6 2) (qL7 [.r a0,.r a1,.i c2,.i c3,.i c4,.i c5,.i (qw .i64 c6 1),.s e7,.s e8,.s e9,.s e10,.s e11,.s (gS r2 0)]) (.br (ieq c6 1) (qL7 [.r a0,.r a1,.i c2,.i c3,.i c4,.i c5,.i (qw .i64 c6 1),.s e7,.s e8,.s e9,.s e10,.s (gS r2 0),.s e12]) (qL6 (ieq c6 0) (qL7 [.r a0,.r a1,.i c2,.i c3,.i c4,.i c5,.i (qw .i64 c6 1),.s e7,.s e8,.s e9,.s (gS r2 0),.s e11,.s e12])))))))))))) (.leaf (1,[.r a0,.r a1,.i c2,.s e7,.s e8,.s e9,.s e10,.s e11,.s e12]))):=by kernel_rfl
theorem qeY:uT [.r a0,.r a1,.i c2,.s e3,.s e4,.s e5,.s e6,.s e7,.s e8]=(.br (ilt c2 (qg a0)) (qL6 (inb c2 (qg a0)) (qL6 (inb c2 (qg a0)) (qL6 (inb c2 (qg a0)) (let r0:=qf uQ [.r a0,.r a1,.i c2,.i (cI a0 c2 0),.i (cI a0 c2 1),.i (cI a0 c2 2),.i 0,.s e3,.s e4,.s e5,.s e6,.s e7,.s e8];qL5 r0 (qL7 [.r (gR r0 0),.r (gR r0 1),.i (qw .i64 (gI r0 2) 1),.s (gS r0 3),.s (gS r0 4),.s (gS r0 5),.s (gS r0 6),.s (gS r0 7),.s (gS r0 8)]))))) (.leaf (1,[.s e3,.s e4,.s e5,.s e6,.s e7,.s e8]))):=by kernel_rfl
theorem qqr:q41 [.r a0,.r a1]=(let r0:=qf uT [.r a0,.r a1,.i 0,.s [],.s [],.s [],.s [48],.s [48],.s [48]];qL5 r0 (qL7 [.s (gS r0 3),.s (gS r0 4),.s (gS r0 5)])):=by kernel_rfl
theorem qm8:k8 [.r a0]=(let r0:=vJ [.r a0];qL5 r0 (.br (not (gB r0 1)) (qL7 [.s [],.s [],.s [],.s [],.b false]) (let r1:=q41 [.r a0,.r (gR r0 0)];qL5 r1 (qL6 (inb 0 (qg a0)) (let r2:=yM [.s (gS r1 0),.s (gS r1 1),.s (gS r1 2),.i (cI a0 0 0),.i (cI a0 0 1),.i (cI a0 0 2)];qL5 r2 (qL7 [.s (gS r1 0),.s (gS r1 1),.s (gS r1 2),.s (gS r2 0),.b true])))))):=by kernel_rfl
theorem qqE:kz [.s e0]=(let r0:=w9 [.s e0];qL5 r0 (let r1:=yF [.s (gS r0 0),.s [48]];qL5 r1 (qL7 [.i (gI r1 0)]))):=by kernel_rfl
theorem qeT:uM [.r a0,.b d1,.i c2]=(.br (ilt c2 (qg a0)) (.br d1 (qL6 (inb c2 (qg a0)) (qL5 (kz [.s (cS a0 c2 0)]) (qL7 [.r a0,.b (ile 0 (gI (kz [.s (cS a0 c2 0)]) 0)),.i (qw .i64 c2 1)]))) (qL7 [.r a0,.b false,.i (qw .i64 c2 1)])) (.leaf (1,[.b d1]))):=by kernel_rfl
theorem qqG:q42 [.r a0]=(let r0:=vJ [.r a0];qL5 r0 (let r1:=qf uM [.r (gR r0 0),.b (gB r0 1),.i 0];qL5 r1 (qL7 [.b (gB r1 0)]))):=by kernel_rfl
theorem q4H:vA [.r a0,.s e1,.i c2,.s e3,.s e4,.s e5]=(.br (ilt c2 (qg a0)) (qL6 (inb c2 (qg a0)) (let r0:=yM [.s e3,.s e4,.s e5,.i (cI a0 c2 0),.i (cI a0 c2 1),.i (cI a0 c2 2)];qL5 r0 (let r1:=q0A [.s (gS r0 0),.s e1];qL5 r1 (.br (ilt 0 (gI r1 0)) (.leaf (2,[.b false])) (qL7 [.r a0,.s e1,.i (qw .i64 c2 1),.s e3,.s e4,.s e5]))))) (.leaf (1,[]))):=by kernel_rfl
theorem qoz:q16 [.r a0,.s e1,.s e2,.s e3,.s e4]=(let r0:=qf vA [.r a0,.s e4,.i 0,.s e1,.s e2,.s e3];qL5 r0 (.br (jIs r0 0) (qL7 [.b true]) (qL7 [.b (gB r0 0)]))):=by kernel_rfl
theorem qeA:q1b [.r a0,.r a1]=(let r0:=kN [.r a0,.r a1];qL5 r0 (let r1:=k8 [.r (gR r0 0)];qL5 r1 (.br (gB r1 4) (let r2:=q42 [.r (gR r0 0)];qL5 r2 (.br (gB r2 0) (let r3:=q16 [.r a0,.s (gS r1 0),.s (gS r1 1),.s (gS r1 2),.s (gS r1 3)];qL5 r3 (qL7 [.b (gB r3 0)])) (qL7 [.b false]))) (qL7 [.b false])))):=by kernel_rfl
theorem qsS:wR [.s e0]=(let r0:=w9 [.s e0];qL5 r0 (.br (ile (qu (gS r0 0)) 30) (qL7 [.b (ile (qu (gS r0 1)) 30)]) (qL7 [.b false]))):=by kernel_rfl
theorem qsW:q0X [.s e0,.s e1,.s e2,.s e3,.r a4]=(let t0:TR:=(qL7 [.b false]);(qL5 (wR [.s e0]) (.br (gB (wR [.s e0]) 0) (qL5 (wR [.s e1]) (.br (gB (wR [.s e1]) 0) (qL5 (wR [.s e2]) (.br (gB (wR [.s e2]) 0) (qL5 (wR [.s e3]) (.br (gB (wR [.s e3]) 0) (qL7 [.b (ilt (qg a4) 20)]) t0)) t0)) t0)) t0))):=by kernel_rfl
theorem qgy:yY [.i c0,.r a1,.i c2,.i c3,.i c4,.r a5]=(.br (ilt c4 c3) (qL6 (inb c4 (qg a5)) (let r0:=q0E [.s (cS a5 c4 0)];qL5 r0 (.br (ine (gI r0 0) 0) (.leaf (2,[.i (gI r0 0)])) (qL7 [.i c0,.r a1,.i c2,.i c3,.i (qw .i64 c4 1),.r a5])))) (.leaf (1,[.i c0,.r a1,.i c2]))):=by kernel_rfl
theorem qeV:uL [.i c0,.r a1,.i c2]=(.br (ilt c2 (qg a1)) (qL6 (inb c2 (qg a1)) (.br (ilt (cI a1 c2 0) 0) (.leaf (2,[.i 2])) (qL6 (inb c2 (qg a1)) (.br (ile c0 (cI a1 c2 0)) (.leaf (2,[.i 2])) (.br (ilt 0 c2) (qL6 (inb c2 (qg a1)) (qL6 (inb (jq .i64 c2 1) (qg a1)) (.br (ile (cI a1 c2 0) (cI a1 (jq .i64 c2 1) 0)) (.leaf (2,[.i 9])) (qL7 [.i c0,.r a1,.i (qw .i64 c2 1)])))) (qL7 [.i c0,.r a1,.i (qw .i64 c2 1)])))))) (.leaf (1,[]))):=by kernel_rfl
theorem qsI:yD [.i c0,.s e1,.s e2,.s e3,.s e4,.r a5,.i c6]=(let r0:=qf yY [.i c0,.r a5,.i c6,.i (qg [[.s e1],[.s e2],[.s e3],[.s e4]]),.i 0,.r [[.s e1],[.s e2],[.s e3],[.s e4]]];qL5 r0 (.br (jIs r0 0) (.br (ieq (qg (gR r0 1)) 0) (qL7 [.i 13]) (.br (ilt (gI r0 2) (qg (gR r0 1))) (qL7 [.i 5]) (let r1:=qf uL [.i (gI r0 0),.r (gR r0 1),.i 0];qL5 r1 (.br (jIs r1 0) (qL7 [.i 0]) (qL7 [.i (gI r1 0)]))))) (qL7 [.i (gI r0 0)]))):=by kernel_rfl
theorem qsY:q0V [.r a0,.s e1,.s e2,.s e3,.s e4,.r a5]=(let r0:=kN [.r a0,.r a5];qL5 r0 (let r1:=k8 [.r (gR r0 0)];qL5 r1 (.br (gB r1 4) (.br (qtA (seq (gS r1 0) e1) (qtA (seq (gS r1 1) e2) (qtA (seq (gS r1 2) e3) true))) (.br (seq (gS r1 3) e4) (let r2:=q1b [.r a0,.r a5];qL5 r2 (qL7 [.b (gB r2 0)])) (qL7 [.b false])) (qL7 [.b false])) (qL7 [.b false])))):=by kernel_rfl
theorem qiS:yq [.r a0,.s e1,.s e2,.s e3,.r a4]=(let r0:=q8J [.r a0];qL5 r0 (.br (ine (gI r0 0) 0) (qL7 [.b false,.i (gI r0 0)]) (let r1:=yD [.i (qg a0),.s e1,.s e2,.s [48],.s e3,.r a4,.i 3];qL5 r1 (.br (ine (gI r1 0) 0) (qL7 [.b false,.i (gI r1 0)]) (let r2:=q3V [.r a0];qL5 r2 (let r3:=q0V [.r (gR r2 0),.s e1,.s e2,.s [48],.s e3,.r a4];qL5 r3 (qL7 [.b (gB r3 0),.i 0]))))))):=by kernel_rfl
theorem qez:vr [.r a0,.s e1,.s e2,.s e3,.s e4,.r a5]=(let r0:=qb6 [.r a0];qL5 r0 (.br (not (gB r0 0)) (let r1:=vP [];qL5 r1 (qL7 [.b (gB r1 0)])) (let r1:=q0X [.s e1,.s e2,.s e3,.s e4,.r a5];qL5 r1 (.br (not (gB r1 0)) (let r2:=vP [];qL5 r2 (qL7 [.b (gB r2 0)])) (let r2:=zc [.r a0,.s e1,.s e2,.s e4,.r a5];qL5 r2 (let r3:=yq [.r a0,.s e1,.s e2,.s e4,.r a5];qL5 r3 (let r4:=vP [];qL5 r4 (.br (gB r4 0) (.br (beq (gB r2 0) (gB r3 0)) (qL7 [.b (ieq (gI r2 1) (gI r3 1))]) (qL7 [.b false])) (qL7 [.b false]))))))))):=by kernel_rfl
theorem qoD:q1j [.r a0]=(.br (ile (qg a0) 6) (qL7 [.b true]) (.br (ilt 64 (qg a0)) (qL7 [.b (ilt (qg a0) 128)]) (qL7 [.b false]))):=by kernel_rfl
theorem q7v:zu [.r a0]=(qL6 (ilt 0 (qg a0)) (qL6 (ile ((qg [])+(qg a0)) 8796093022208) (qL7 [.r (jo [] a0)]))):=by kernel_rfl
theorem qfL:jc [.r a0,.s e1,.s e2,.s e3,.s e4,.r a5]=(let r0:=kK [.r a0];qL5 r0 (.br (ine (gI r0 0) 0) (qL7 [.b false,.i (gI r0 0)]) (qL6 (q5c 3 3) (qL6 (q5c 0 3) (let r1:=zu [.r (qr7 [[.s e1],[.s e2],[.s e3]] 0 3)];qL5 r1 (qL6 (ile ((qg (gR r1 0))+(qg [[.s e4]])) 8796093022208) (let r2:=qP [.r a0,.r (jo (gR r1 0) [[.s e4]]),.r a5,.i 4];qL5 r2 (qL7 [.b (gB r2 0),.i (gI r2 1)])))))))):=by kernel_rfl
theorem qml:yS [.i c0,.i c1,.i c2]=(qL5 (jh [.i c0]) (.br (gB (jh [.i c0]) 0) (qL5 (jh [.i c1]) (.br (gB (jh [.i c1]) 0) (qL5 (jh [.i c2]) (qL7 [.b (gB (jh [.i c2]) 0)])) (qL7 [.b false]))) (qL7 [.b false]))):=by kernel_rfl
theorem q8s:wj [.r a0,.i c1]=(.br (ilt c1 (qg a0)) (qL6 (inb c1 (qg a0)) (let r0:=yS [.i (cI a0 c1 0),.i (cI a0 c1 1),.i (cI a0 c1 2)];qL5 r0 (.br (not (gB r0 0)) (.leaf (2,[.i 2])) (qL7 [.r a0,.i (qw .i64 c1 1)])))) (.leaf (1,[]))):=by kernel_rfl
theorem qlb:kr [.r a0]=(.br (ilt 64 (qg a0)) (qL7 [.i 5]) (let r0:=qf wj [.r a0,.i 0];qL5 r0 (.br (jIs r0 0) (qL7 [.i 0]) (qL7 [.i (gI r0 0)])))):=by kernel_rfl
theorem qw6:q8G [.r a0]=(let r0:=kr [.r a0];qL5 r0 (.br (ine (gI r0 0) 0) (qL7 [.i (gI r0 0)]) (.br (ieq (qg a0) 0) (qL7 [.i 13]) (qL7 [.i 0])))):=by kernel_rfl
theorem qhV:yl [.r a0,.s e1,.s e2,.s e3,.s e4,.r a5]=(let r0:=q8G [.r a0];qL5 r0 (.br (ine (gI r0 0) 0) (qL7 [.b false,.i (gI r0 0)]) (let r1:=yD [.i (qg a0),.s e1,.s e2,.s e3,.s e4,.r a5,.i 4];qL5 r1 (.br (ine (gI r1 0) 0) (qL7 [.b false,.i (gI r1 0)]) (let r2:=q0V [.r a0,.s e1,.s e2,.s e3,.s e4,.r a5];qL5 r2 (qL7 [.b (gB r2 0),.i 0])))))):=by kernel_rfl
theorem qhb:jG [.r a0,.s e1,.s e2,.s e3,.s e4,.r a5]=(let r0:=q1j [.r a0];qL5 r0 (.br (not (gB r0 0)) (let r1:=vP [];qL5 r1 (qL7 [.b (gB r1 0)])) (let r1:=q0X [.s e1,.s e2,.s e3,.s e4,.r a5];qL5 r1 (.br (not (gB r1 0)) (let r2:=vP [];qL5 r2 (qL7 [.b (gB r2 0)])) (let r2:=jc [.r a0,.s e1,.s e2,.s e3,.s e4,.r a5];qL5 r2 (let r3:=yl [.r a0,.s e1,.s e2,.s e3,.s e4,.r a5];qL5 r3 (let r4:=vP [];qL5 r4 (.br (gB r4 0) (.br (beq (gB r2 0) (gB r3 0)) (qL7 [.b (ieq (gI r2 1) (gI r3 1))]) (qL7 [.b false])) (qL7 [.b false]))))))))):=by kernel_rfl
end Go.Eng

namespace Go.Eng
variable {n:Nat}
theorem qJo {α:Type}(b:Bool)(t e:Tree α):(Tree.br b t e).run=if b=true then t.run else e.run:=by cases b<;>rfl
theorem qGq {α:Type}(a:α):(Tree.leaf a).run=some a:=rfl
theorem qFK {α:Type}:(Tree.fail:Tree α).run=none:=rfl
theorem qW {x y:Int}(h:-9223372036854775808<=x+y/\x+y<=9223372036854775807):qw .i64 x y=x+y:=by unfold qw IntKind.wrap;simp[IntKind.signed,IntKind.bits];omega
theorem vO {x y:Int}(h:-9223372036854775808<=x-y/\x-y<=9223372036854775807):jq .i64 x y=x-y:=by unfold jq IntKind.wrap;simp[IntKind.signed,IntKind.bits];omega
theorem q7F {x y:Int}(h:-9223372036854775808<=x*y/\x*y<=9223372036854775807):vT .i64 x y=x*y:=by unfold vT IntKind.wrap;simp[IntKind.signed,IntKind.bits];omega
theorem qD6 (x y:Int):(ieq x y=true)=(x=y):=by simp[ieq]
theorem qHE (x y:Int):(ine x y=true)=(x≠y):=by simp[ine]
theorem qI3 (x y:Int):(ilt x y=true)=(x<y):=by simp[ilt]
theorem qEO (x y:Int):(ile x y=true)=(x<=y):=by simp[ile]
theorem qIA (x y:Bool):(Go.Eng.beq x y=true)=(x=y):=by simp[Go.Eng.beq]
theorem qKi {a b A B:Int}(h1:-A<=a)(h2:a<=A)(h3:-B<=b)(h4:b<=B):-(A*B)<=a*b/\a*b<=A*B:=by have e1:=qN5 (show 0<=A-a by omega) (show 0<=B-b by omega);have e2:=qN5 (show 0<=A+a by omega) (show 0<=B+b by omega);have e3:=qN5 (show 0<=A-a by omega) (show 0<=B+b by omega);have e4:=qN5 (show 0<=A+a by omega) (show 0<=B-b by omega);simp only[Int.sub_mul,Int.mul_sub,Int.add_mul,Int.mul_add] at e1 e2 e3 e4;omega
theorem qyD {x:Int}(h:-9223372036854775807<=x/\x<=9223372036854775807):jq .i64 0 x=-x:=by rw[vO (by omega)];omega
theorem quB {x:Int}(h:-9223372036854775808<=x/\x<=9223372036854775807):q36 .i64 x=x:=by unfold q36 IntKind.wrap;simp[IntKind.signed,IntKind.bits];omega
theorem qFF (b:Bool):((!b)=true)=¬(b=true):=by cases b<;>simp
theorem qGx (x y:Bool):(qtA x y=true)=(x=true/\y=true):=by simp[qtA]
theorem qJ1 (i n:Int):(inb i n=true)=(0<=i/\i<n):=by simp[inb]
theorem qHU (i n:Int):(q5c i n=true)=(0<=i/\i<=n):=by simp[q5c]
theorem STD:(∀(α:Type) (b:Bool) (t e:Tree α),(Tree.br b t e).run=if b=true then t.run else e.run)/\(∀(α:Type) (a:α),(Tree.leaf a).run=some a)/\(∀(α:Type),(Tree.fail:Tree α).run=none) /\(∀R:TR,okR R=R.run.isSome)/\(∀(α:Type) (a:α),(some a).isSome=true)/\(∀(R:TR) (i:Nat),gI R i=(pR R i).toI)/\(∀(R:TR) (i:Nat),gB R i=(pR R i).toB)/\(∀(R:TR) (i:Nat),gS R i=(pR R i).toS)/\(∀(R:TR) (i:Nat),gR R i=(pR R i).toR) /\(∀(R:TR) (i:Nat),pR R i=R.run.elim (.i 0) fun r=>r.2.getD i (.i 0))/\(∀(α β:Type) (b:β) (f:α->β) (a:α),(some a).elim b f=f a) /\(∀(a:PV) (l:List PV) (d:PV),(a::l).getD 0 d=a)/\(∀(a:PV) (l:List PV) (d:PV) (n:Nat),(a::l).getD (n+1) d=l.getD n d) /\(∀n,(PV.i n).toI=n)/\(∀b,(PV.b b).toB=b)/\(∀s,(PV.s s).toS=s)/\(∀l,(PV.r l).toR=l) /\(∀(α:Type) (h:Decidable True) (a b:α),@ite α True h a b=a)/\(∀(α:Type) (h:Decidable False) (a b:α),@ite α False h a b=b)/\((false=true)=False)/\((true=false)=False)/\((true=true)=True) /\(∀x y,(ieq x y=true)=(x=y))/\(∀x y,(ine x y=true)=(x≠y))/\(∀x y,(ilt x y=true)=(x<y))/\(∀x y,(ile x y=true)=(x<=y))/\(∀x y,(Go.Eng.beq x y=true)=(x=y)) /\(∀x y,(qtA x y=true)=(x=true/\y=true))/\(∀b:Bool,((!b)=true)=¬(b=true))/\(∀i n,(inb i n=true)=(0<=i/\i<n))/\(∀i n,(q5c i n=true)=(0<=i/\i<=n)) /\(∀(p:Prop) (_:Decidable p),(decide p=true)=p)/\(∀(α:Type) (a b:α),(a≠b)=¬(a=b))/\(¬True)=False/\(¬False)=True:=
 ⟨fun _=>qJo,fun _=>qGq,fun _=>qFK,fun _=>rfl,fun _ _=>rfl,fun _ _=>rfl,fun _ _=>rfl,fun _ _=>rfl,fun _ _=>rfl,fun R i=>by unfold pR;cases R.run<;>rfl,fun _ _ _ _ _=>rfl,
  fun _ _ _=>rfl,fun _ _ _ _=>rfl,fun _=>rfl,fun _=>rfl,fun _=>rfl,fun _=>rfl,fun _ _ _ _=>by simp,fun _ _ _ _=>by simp,by simp,by simp,by simp,qD6,qHE,qI3,qEO,qIA,
  qGx,qFF,qJ1,qHU,fun _ _=>by simp,fun _ _ _=>rfl,by simp,by simp⟩
theorem qV {R:TR}{j:Nat}{ps:List PV}(h:R.run=some (j,ps))(i:Nat):(jIs R i=true)=(j=i):=by simp[jIs,jR,h]
theorem run_bind {α β:Type}(t:Tree α)(f:α->Tree β):(t.bind f).run=t.run.bind fun a=>(f a).run:=by
 induction t with
 | leaf a=>rfl
 | br b t e iht ihe=>cases b<;>simp[Tree.bind,Tree.run,iht,ihe]
 | fail=>rfl
theorem qvj {S:List PV->TR}{ps qs:List PV}(h:(S ps).run=some (0,qs)):(qmt S (n+1) ps).run=(qmt S n qs).run:=by simp[qmt,run_bind,h]
theorem qmS {S:List PV->TR}{n j:Nat}{ps qs:List PV}(h:(S ps).run=some (j+1,qs)):(qmt S (n+1) ps).run=some (j,qs):=by simp[qmt,run_bind,h,Tree.run]
noncomputable def qdb{α:Type}(f:Nat->Option α):Nat->Nat->Option α
 | _,0=>none
 | i,k+1=>match f i with
  | some a=>some a
  | none=>qdb f (i+1) k
theorem qu1{S:List PV->TR}(st:Nat->List PV)(f:Nat->Option (Nat×List PV))(fin:Nat×List PV)(n:Nat)
  (h1:∀i,i<n->f i=none->(S (st i)).run=some (0,st (i+1))) (h2:∀i r,i<n->f i=some r->(S (st i)).run=some (r.1+1,r.2))
  (h3:(S (st n)).run=some (fin.1+1,fin.2)):∀(k i m:Nat),i+k=n->k<m->(qmt S m (st i)).run=some ((qdb f i k).getD fin)
 | 0,i,m,hi,hm=>by
  obtain⟨m,rfl⟩:∃m',m=m'+1:=⟨m-1,by omega⟩;have:i=n:=by omega
  subst this;rw[qmS h3];rfl
 | k+1,i,m,hi,hm=>by
  obtain⟨m,rfl⟩:∃m',m=m'+1:=⟨m-1,by omega⟩;cases hf:f i with
  | none=>
   rw[qvj (h1 i (by omega) hf),qu1 st f fin n h1 h2 h3 k (i+1) m (by omega) (by omega)];simp[qdb,hf]
  | some r=>
   rw[qmS (h2 i r (by omega) hf)];simp[qdb,hf]
theorem q2v {S:List PV->TR}(st:Nat->List PV)(f:Nat->Option (Nat×List PV))(fin:Nat×List PV)(n:Nat)(hn:n<9223372036854775808)(h1:∀i,i<n->f i=none->(S (st i)).run=some (0,st (i+1))) (h2:∀i r,i<n->f i=some r->(S (st i)).run=some (r.1+1,r.2))(h3:(S (st n)).run=some (fin.1+1,fin.2)):(qf S (st 0)).run=some ((qdb f 0 n).getD fin):=qu1 st f fin n h1 h2 h3 n 0 qoR (by omega) (Nat.lt_trans hn (by unfold qoR;decide))
theorem qG {S:List PV->TR}(st:Nat->List PV)(fin:Nat×List PV)(n:Nat)(hn:n<9223372036854775808)(h1:∀i,i<n->(S (st i)).run=some (0,st (i+1))) (h3:(S (st n)).run=some (fin.1+1,fin.2)):(qf S (st 0)).run=some fin:=by
 have h:=q2v st (fun _=>none) fin n hn (fun i hi _=>h1 i hi) (fun i r _ h=>by cases h) h3;have e:∀k i,qdb (fun _=>(none:Option (Nat×List PV))) i k=none:=by
  intro k;induction k with
  | zero=>intro i;rfl
  | succ k ih=>intro i;simp[qdb,ih]
 rw[e] at h;exact h
theorem qhn{α:Type}{f:Nat->Option α}:∀{k i:Nat},qdb f i k=none->∀j,i<=j->j<i+k->f j=none
 | 0,i,_,j,h1,h2=>by omega
 | k+1,i,h,j,h1,h2=>by
  simp only[qdb] at h;cases hf:f i with
  | some a=>rw[hf] at h;cases h
  | none=>
   rw[hf] at h;rcases qMJ h1 with rfl|h1
   ·exact hf
   ·exact qhn h j h1 (by omega)
theorem quc{α:Type}{f g:Nat->Option α}:∀{k i:Nat},(∀j,i<=j->j<i+k->f j=g j)->qdb f i k=qdb g i k
 | 0,i,_=>rfl
 | k+1,i,h=>by
  simp only[qdb];rw[h i (by omega) (by omega),quc (fun j h1 h2=>h j (by omega) (by omega))]
theorem qwl{α β:Type}(g:α->β){f:Nat->Option α}:∀{k i:Nat},qdb (fun j=>(f j).map g) i k=(qdb f i k).map g
 | 0,i=>rfl
 | k+1,i=>by
  simp only[qdb];cases f i with
  | some a=>rfl
  | none=>exact qwl g
theorem yu {i n:Nat}(h:i<n)(hn:n<9223372036854775808):qw .i64 (i:Int) 1=((i+1:Nat):Int):=by rw[qW (by omega)];omega
theorem qCT {α:Type}(n:Nat):∀i,qdb (fun _=>(none:Option α)) i n=none:=by
 induction n with
 | zero=>intro i;rfl
 | succ n ih=>intro i;simp[qdb,ih]
noncomputable def pick(p:Nat->Bool):Nat->R
 | 0=>[]
 | n+1=>if p n then jo (pick p n) [[.i (n:Int)]] else pick p n
noncomputable def qjv(f:Nat->Int)(i:Nat):Option Int:=if f i=0 then none else some (f i)
theorem qDF {f:Nat->Int}(h:qdb (qjv f) 0 n=none)(i:Nat)(hi:i<n):f i=0:=by
 have:=qhn h i (by omega) (by omega);unfold qjv at this;split at this
 ·assumption
 ·cases this
theorem qqa{f:Nat->Int}:∀{k i:Nat} {e:Int},qdb (qjv f) i k=some e->e≠0
 | 0,i,e,h=>by cases h
 | k+1,i,e,h=>by
  simp only[qdb] at h;unfold qjv at h;by_cases h0:f i=0
  ·rw[if_pos h0] at h;exact qqa h
  ·rw[if_neg h0] at h;simp at h;omega
noncomputable def kn(e:Nat->Int)(n:Nat):Int:=(qdb (qjv e) 0 n).getD 0
theorem qlJ {e:Nat->Int}(h:kn e n=0)(i:Nat)(hi:i<n):e i=0:=by
 unfold kn at h;cases hs:qdb (qjv e) 0 n with
 | none=>exact qDF hs i hi
 | some x=>rw[hs] at h;exact absurd h (qqa hs)
theorem qFd {e:Nat->Int}(h:∀i,i<n->e i=0):kn e n=0:=by unfold kn;rw[quc (g:=fun _=>none) (fun j _ hj=>by unfold qjv;rw[if_pos (h j (by omega))]),qCT];rfl
theorem qji {S:List PV->TR}(st:Nat->List PV)(e:Nat->Int)(caps fin:List PV)(n:Nat)(hn:n<9223372036854775808)(h:∀i,i<n->(S (st i)).run=if e i=0 then some (0,st (i+1)) else some (2,.i (e i)::caps)) (h3:(S (st n)).run=some (1,fin)) :(qf S (st 0)).run=some (if kn e n=0 then (0,fin) else (1,.i (kn e n)::caps)):=by
 have key:=q2v st (fun i=>(qjv e i).map fun x=>(1,PV.i x::caps)) (0,fin) n hn (fun i hi hf=>by
  rw[h i hi];unfold qjv at hf;split at hf
  ·rename_i h0;rw[if_pos h0]
  ·simp at hf) (fun i r hi hf=>by
  rw[h i hi];unfold qjv at hf;split at hf
  ·simp at hf
  ·rename_i h0;simp at hf;rw[if_neg h0,<-hf]) h3
 rw[key,qwl];unfold kn;cases hs:qdb (qjv e) 0 n with
 | none=>simp
 | some x=>simp[qqa hs]
theorem qy0 {l:R}{i:Nat}(h:i<l.length):(i:Int)<qg l:=by unfold qg;omega
theorem qqi (l:R):¬((l.length:Int)<qg l):=by unfold qg;omega
theorem qcn (i:Nat):(0:Int)<=(i:Int):=by omega
end Go.Eng

namespace Go.Eng
variable {n:Nat}
noncomputable def dch(d:Nat):UInt8:=UInt8.ofNat (48+d)
noncomputable def dv(c:UInt8):Nat:=c.toNat-48
noncomputable def q5n(s:qL8):Prop:=∀c,c∈s->48<=c.toNat/\c.toNat<=57
noncomputable def val(s:qL8):Nat:=s.foldl (fun a c=>10*a+dv c) 0
noncomputable def tNf:Nat->Nat->List UInt8
 | 0,_=>[]
 | f+1,n=>if n<10 then [dch n] else tNf f (n/10)++[dch (n%10)]
noncomputable def tN(n:Nat):List UInt8:=tNf (n+1) n
noncomputable def tI(n:Int):List UInt8:=if n<0 then 45::tN n.natAbs else tN n.natAbs
theorem q2l {d:Nat}(h:d<10):(dch d).toNat=48+d:=by unfold dch;rw[UInt8.toNat_ofNat'];omega
theorem qp6 {d:Nat}(h:d<10):dv (dch d)=d:=by unfold dv;rw[q2l h];omega
theorem qH9 {c:UInt8}(h1:48<=c.toNat)(h2:c.toNat<=57):dch (dv c)=c:=by apply qMS.1;rw[q2l (by unfold dv;omega)];unfold dv;omega
theorem qmv (s:qL8)(c:UInt8):val (s++[c])=10*val s+dv c:=by simp[val,List.foldl_append]
theorem qqW:∀(t:qL8) (a:Nat),t.foldl (fun a c=>10*a+dv c) a=a*10^t.length+val t
 | [],a=>by simp[val]
 | c::t,a=>by
  have h1:=qqW t (10*a+dv c);have h2:=qqW t (10*0+dv c);have h3:val (c::t)=t.foldl (fun a c=>10*a+dv c) (10*0+dv c):=rfl;rw[h3,h2,qN0,h1,qLA,qMx];grind
theorem qwg (s t:qL8):val (s++t)=val s*10^t.length+val t:=by
 have h:val (s++t)=t.foldl (fun a c=>10*a+dv c) (val s):=by simp[val,List.foldl_append]
 rw[h,qqW]
theorem q6F (c:UInt8)(t:qL8):val (c::t)=dv c*10^t.length+val t:=by have:=qwg [c] t;simpa[val] using this
theorem qfB:val []=0:=rfl
theorem qzB (c:UInt8):val [c]=dv c:=by simp[val]
theorem qnw:q5n []:=fun c h=>by cases h
theorem q0o {c:UInt8}{s:qL8}:q5n (c::s)↔(48<=c.toNat/\c.toNat<=57)/\q5n s:=by unfold q5n;simp
theorem q87 {s t:qL8}:q5n (s++t)↔q5n s/\q5n t:=by unfold q5n;simp only[qLz];exact⟨fun h=>⟨fun c hc=>h c (.inl hc),fun c hc=>h c (.inr hc)⟩,fun h c hc=>hc.elim (h.1 c) (h.2 c)⟩
theorem qBM {c:UInt8}(h:48<=c.toNat/\c.toNat<=57):dv c<10:=by unfold dv;omega
theorem q7e:∀{s:qL8},q5n s->val s<10^s.length
 | [],_=>by simp[val]
 | c::s,h=>by
  obtain⟨h1,h2⟩:=q0o.1 h;have ih:=q7e h2;have hd:=qBM h1;rw[q6F,qLA,qMx];have:dv c*10^s.length<=9*10^s.length:=qLB _ (by omega);omega
theorem qv7 {d:Nat}(h:d<10):q5n [dch d]:=by intro c hc;simp at hc;subst hc;rw[q2l h];omega
theorem qHg:∀(f g n:Nat),n<f->n<g->tNf f n=tNf g n
 | 0,_,n,h,_=>by omega
 | _,0,n,_,h=>by omega
 | f+1,g+1,n,h1,h2=>by
  unfold tNf;by_cases h:n<10
  ·rw[if_pos h,if_pos h]
  ·rw[if_neg h,if_neg h,qHg f g (n/10) (by omega) (by omega)]
theorem qxP (h:n<10):tN n=[dch n]:=by unfold tN tNf;rw[if_pos h]
theorem qz6 (h:10<=n):tN n=tN (n/10)++[dch (n%10)]:=by
 have:tN n=tNf n (n/10)++[dch (n%10)]:=by show tNf (n+1) n=_;rw[tNf,if_neg (by omega)]
 rw[this,qHg n (n/10+1) (n/10) (by omega) (by omega)];rfl
theorem quW (n:Nat):q5n (tN n)/\tN n≠[]/\val (tN n)=n:=by
 induction n using Nat.strongRecOn with
 | _ n ih=>
  by_cases h:n<10
  ·rw[qxP h];exact⟨qv7 h,by simp,by rw[qzB,qp6 h]⟩
  ·rw[qz6 (by omega)];obtain⟨h1,h2,h3⟩:=ih (n/10) (by omega);refine⟨q87.2 ⟨h1,qv7 (by omega)⟩,by simp,?_⟩;rw[qmv,h3,qp6 (by omega)];omega
theorem zS (n:Nat):q5n (tN n):=(quW n).1
theorem qrE (n:Nat):tN n≠[]:=(quW n).2.1
theorem q0q (n:Nat):val (tN n)=n:=(quW n).2.2
theorem qjO (n:Nat):0<(tN n).length:=qMF.2 (qrE n)
theorem q2m:∀(k n:Nat),n<10^(k+1)->(tN n).length<=k+1
 | 0,n,h=>by rw[qxP (by simpa using h)];simp
 | k+1,n,h=>by
  by_cases h10:n<10
  ·rw[qxP h10];simp
  ·rw[qz6 (by omega),qLv];have:=q2m k (n/10) (by rw[qMx] at h;omega);simp;omega
theorem qwP:∀(k n:Nat),10^k<=n->k<(tN n).length
 | 0,n,_=>qjO n
 | k+1,n,h=>by
  have hp:0<10^k:=Nat.pow_pos (by omega);rw[qMx] at h;rw[qz6 (by omega),qLv];have:=qwP k (n/10) (by omega);simp;omega
theorem q6p {k n:Nat}(h:(tN n).length<=k):n<10^k:=by have:=q7e (zS n);rw[q0q] at this;exact qLR this (qMG (by omega) h)
noncomputable def lead(s:qL8):Prop:=s.length=1\/s.getD 0 0≠48
theorem qAA {s:qL8}(hd:q5n s)(hn:s≠[])(h:s.getD 0 0≠48):10^(s.length-1)<=val s:=by
 cases s with
 | nil=>exact absurd rfl hn
 | cons c s=>
  obtain⟨h1,h2⟩:=q0o.1 hd;simp at h;have hc:1<=dv c:=by unfold dv;have:c.toNat≠48:=fun e=>h (qMS.1 (by simpa using e));omega
  rw[q6F,qLA,qNt];have:1*10^s.length<=dv c*10^s.length:=qLB _ hc;omega
theorem qGZ:∀(n:Nat) {s:qL8},s.length=n+1->q5n s->lead s->tN (val s)=s
 | 0,s,hl,hd,_=>by
  match s,hl with
  | [c],_=>
   have h1:=(q0o.1 hd).1;rw[qzB,qxP (qBM h1),qH9 h1.1 h1.2]
 | n+1,s,hl,hd,hz=>by
  obtain⟨i,c,rfl⟩:∃i c,s=i++[c]:=⟨s.dropLast,s.getLast (by intro h;simp[h] at hl),(List.dropLast_concat_getLast _).symm⟩;have hil:i.length=n+1:=by simpa using hl
  obtain⟨h1,h2⟩:=q87.1 hd;have hc:=(q0o.1 h2).1;have hi:i≠[]:=by intro h;simp[h] at hil
  have hz0:i.getD 0 0≠48:=by
   rcases hz with hz|hz
   ·exact absurd (by simpa using hz) hi
   ·cases i with
    | nil=>exact absurd rfl hi
    | cons a i=>simpa using hz
  have hv:1<=val i:=qLd (Nat.one_le_pow _ _ (by omega)) (qAA h1 hi hz0);have hd10:=qBM hc;rw[qmv,qz6 (n:=10*val i+dv c) (by omega),show (10*val i+dv c)/10=val i by omega,show (10*val i+dv c)%10=dv c by omega,qH9 hc.1 hc.2,qGZ n hil h1 (.inr hz0)]
theorem qrd {s:qL8}(hd:q5n s)(hn:s≠[])(hz:lead s):s=tN (val s):=(qGZ (s.length-1) (by have:=qMF.2 hn;omega) hd hz).symm
theorem qub {m n:Nat}(h:tN m=tN n):m=n:=by rw[<-q0q m,h,q0q]
theorem qEo (n:Nat):lead (tN n):=by
 induction n using Nat.strongRecOn with
 | _ n ih=>
  by_cases h:n<10
  ·rw[qxP h];exact .inl rfl
  ·rw[qz6 (by omega)];right;by_cases h2:n/10<10
   ·rw[qxP h2];intro e;have:(dch (n/10)).toNat=48:=by
     have e':dch (n/10)=48:=by simpa using e
     rw[e'];rfl
    rw[q2l h2] at this;omega
   ·have h3:(tN (n/10)).length≠1:=by have:=qwP 1 (n/10) (by omega);omega
    rcases ih (n/10) (by omega) with h4|h4
    ·exact absurd h4 h3
    ·cases hq:tN (n/10) with
     | nil=>exact absurd hq (qrE _)
     | cons a i=>rw[hq] at h4;simpa using h4
theorem qIw (t:qL8):slt [] t=!t.isEmpty:=by cases t<;>rfl
theorem qGe (a b:UInt8)(s t:qL8):slt (a::s) (b::t)=(decide (a<b)||(a==b&&slt s t)):=by unfold slt;simp only[Op.bytesLess]
theorem qzv:∀{s t:qL8},q5n s->q5n t->s.length=t.length->((slt s t=true)=(val s<val t))
 | [],[],_,_,_=>by simp[qIw,qfB]
 | a::s,b::t,h1,h2,hl=>by
  obtain⟨ha,hs⟩:=q0o.1 h1;obtain⟨hb,ht⟩:=q0o.1 h2;have hl':s.length=t.length:=by simpa using hl
  have ih:=qzv hs ht hl';have v1:=q7e hs;have v2:=q7e ht;rw[qGe,q6F,q6F,hl'];rw[hl'] at v1;have hab:(a<b)=(dv a<dv b):=by unfold dv;rw[UInt8.lt_iff_toNat_lt];simp only[eq_iff_iff];omega
  have hab2:(a=b)=(dv a=dv b):=by unfold dv;rw[<-qMS];simp only[eq_iff_iff];omega
  simp only[qMA,decide_eq_true_eq,qLo,beq_iff_eq,eq_iff_iff,ih,hab,hab2];generalize 10^t.length=p at *;generalize dv a=x at *;generalize dv b=y at *;constructor
  ·rintro (h|⟨rfl,h⟩)
   ·have:=qLB p (show x+1<=y by omega);rw[qLr] at this;omega
   ·omega
  ·intro h;rcases Nat.lt_trichotomy x y with h3|h3|h3
   ·exact .inl h3
   ·subst h3;exact .inr ⟨rfl,by omega⟩
   ·have:=qLB p (show y+1<=x by omega);rw[qLr] at this;omega
theorem uX {m n:Nat}(h:m<=n):(tN m).length<=(tN n).length:=by
 rcases qLi (tN n).length (tN m).length with h1|h1
 ·have h2:=q6p (qLb (tN n).length);have h3:0<(tN n).length:=qjO n;have:=q2m ((tN n).length-1) m (by rw[Nat.sub_add_cancel h3];omega);omega
 ·exact h1
theorem qzq (m n:Nat):((tN m).length<(tN n).length\/(tN m).length=(tN n).length/\slt (tN m) (tN n)=true)↔m<n:=by
 constructor
 ·rintro (h|⟨h1,h2⟩)
  ·rcases qLi m n with h3|h3
   ·exact h3
   ·have:=uX h3;omega
  ·rw[qzv (zS m) (zS n) h1,q0q,q0q] at h2;exact h2
 ·intro h;have h1:=uX (Nat.le_of_lt h);rcases qLi (tN m).length (tN n).length with h3|h3
  ·exact .inl h3
  ·have h4:(tN m).length=(tN n).length:=by omega
   exact .inr ⟨h4,by rw[qzv (zS m) (zS n) h4,q0q,q0q];exact h⟩
theorem qA6 (s:qL8):val (48::s)=val s:=by rw[q6F];simp[dv]
theorem qqs (n:Nat)(s:qL8):val (List.replicate n 48++s)=val s:=by
 induction n with
 | zero=>rfl
 | succ n ih=>rw[qMy,qMz,qA6,ih]
theorem qoE (n:Nat):q5n (List.replicate n 48):=by intro c hc;rw[(qNo.1 hc).2];decide
noncomputable def rI(l:List Int):R:=l.map fun v=>[.i v]
theorem qcH (l:List Int):qg (rI l)=l.length:=by simp[qg,rI]
theorem q2j (l:List Int):(rI l).length=l.length:=by simp[rI]
theorem qyX (l:List Int)(i:Int):cI (rI l) i 0=l.getD i.toNat 0:=by unfold cI zI rI;simp only[qLa,qLj];cases l[i.toNat]?<;>rfl
theorem qBO (x v:U):qwx [x] 0 [v]=[v]:=rfl
theorem qxX (l:List Int)(i v:Int):qbB (rI l) i 0 [.i v]=rI (l.set i.toNat v):=by
 unfold qbB rI;apply qLY;intro j;by_cases hj:j=i.toNat
 ·subst hj;by_cases hl:i.toNat<l.length
  ·simp[hl,qBO]
  ·rw[qLw (by simp;omega),qLw (by simp;omega)]
 ·rw[qLc (qLD hj),qLj,qLj,qLc (qLD hj)]
theorem ql1 (n v:Int):q3r n [.i v]=rI (List.replicate n.toNat v):=by simp[q3r,rI]
theorem qJS (l:List Int):qnM (rI l)=l.map fun v=>UInt8.ofNat v.toNat:=by unfold qnM rI;rw[List.map_map];rfl
theorem qIT (l:List Int)(i:Int)(s:qL8):qyh (rI l) i s=rI (l.take i.toNat++s.map (fun c=>(c.toNat:Int))++l.drop (i.toNat+s.length)):=by unfold qyh rI;simp[List.map_take,List.map_drop]
theorem qo7 (s:qL8):qnM (rI (s.map fun c=>(c.toNat:Int)))=s:=by
 rw[qJS,List.map_map];have:((fun v:Int=>UInt8.ofNat v.toNat)∘fun c:UInt8=>(c.toNat:Int))=id:=by funext c;simp
 rw[this,List.map_id]
theorem qkH {s:qL8}{i:Nat}(h:i<s.length):sat s (i:Int)=(s[i].toNat:Int):=by unfold sat;simp[h]
theorem qY (s t:qL8):(seq s t=true)=(s=t):=by simp[seq]
theorem qHB {x:Int}(h:48<=x/\x<=255):jq .u8 x 48=x-48:=by unfold jq IntKind.wrap;simp[IntKind.signed,IntKind.bits];omega
theorem qu8 {x:Int}(h:0<=x/\x<=255):q36 .u8 x=x:=by unfold q36 IntKind.wrap;simp[IntKind.signed,IntKind.bits];omega
theorem qpY (a b:Nat):qch (a:Int) (b:Int)=((a%b:Nat):Int):=by unfold qch;rw[Int.tmod_eq_emod_of_nonneg (by omega)];rfl
theorem qA1 {a b:Nat}(h:a<9223372036854775808):qcJ .i64 (a:Int) (b:Int)=((a/b:Nat):Int):=by unfold qcJ;rw[Int.tdiv_eq_ediv_of_nonneg (by omega)];have:(a:Int)/(b:Int)=((a/b:Nat):Int):=rfl;have h2:a/b<=a:=qN6 a b;rw[this];generalize a/b=q at *;unfold IntKind.wrap;simp[IntKind.signed,IntKind.bits];omega
theorem j9 {S:List PV->TR}(I Q:Nat->List PV->Prop)(hn:n<9223372036854775808)(h:∀k ps,k<=n->I k ps->(∃k' qs,k'<k/\(S ps).run=some (0,qs)/\I k' qs)\/∃j qs,(S ps).run=some (j+1,qs)/\Q j qs) {ps:List PV} (h0:I n ps):∃j qs,(qf S ps).run=some (j,qs)/\Q j qs:=by
 have key:∀m k ps,k<=n->k<m->I k ps->∃j qs,(qmt S m ps).run=some (j,qs)/\Q j qs:=by
  intro m;induction m with
  | zero=>intro k ps _ h;omega
  | succ m ih=>
   intro k ps hk hm hI;rcases h k ps hk hI with⟨k',qs,h1,h2,h3⟩|⟨j,qs,h1,h2⟩
   ·obtain⟨j,rs,g1,g2⟩:=ih k' qs (by omega) (by omega) h3;exact⟨j,rs,by rw[qvj h2];exact g1,g2⟩
   ·exact⟨j,qs,qmS h1,h2⟩
 exact key qoR n ps (qLb _) (Nat.lt_trans hn (by unfold qoR;decide)) h0
end Go.Eng

namespace Go.Eng
variable {i:Nat}
theorem qcD {m:Int}(h:m<0):tI m=45::tN m.natAbs:=by unfold tI;rw[if_pos h]
theorem qlK {m:Int}(h:¬m<0):tI m=tN m.natAbs:=by unfold tI;rw[if_neg h]
theorem q19 (n:Nat):tI (n:Int)=tN n:=by rw[qlK (by omega)];rfl
theorem qz8:tN 0=[48]:=rfl
theorem qjb {s:qL8}(hd:q5n s)(hn:s≠[]):∃c t,s=c::t/\48<=c.toNat/\c.toNat<=57:=by
 cases s with
 | nil=>exact absurd rfl hn
 | cons c t=>exact⟨c,t,rfl,(q0o.1 hd).1⟩
theorem qwL (m:Int):(tI m).length<=(tN m.natAbs).length+1:=by unfold tI;split<;>simp
theorem qwQ (m:Int):0<(tI m).length:=by have:=qjO m.natAbs;unfold tI;split<;>simp<;>omega
theorem qxu {m n:Int}(h:tI m=tI n):m=n:=by
 have key:∀{m n:Int},m<0->¬n<0->tI m≠tI n:=by intro m n h1 h2 e;rw[qcD h1,qlK h2] at e;obtain⟨c,t,hc,h3,h4⟩:=qjb (zS n.natAbs) (qrE _);rw[hc] at e;have:=(List.cons.inj e).1;rw[<-this] at h3;exact absurd h3 (by decide)
 by_cases h1:m<0<;>by_cases h2:n<0
 ·rw[qcD h1,qcD h2] at h;have:=qub (List.cons.inj h).2;omega
 ·exact absurd h (key h1 h2)
 ·exact absurd h.symm (key h2 h1)
 ·rw[qlK h1,qlK h2] at h;have:=qub h;omega
theorem qAX (m:Int):(sat (tI m) 0=45)=(m<0):=by
 by_cases h:m<0
 ·rw[qcD h];simp[sat,h]
 ·rw[qlK h];obtain⟨c,t,hc,h3,h4⟩:=qjb (zS m.natAbs) (qrE _);rw[hc];simp[sat,h];omega
theorem ww (m:Int):(qt [.s (tI m)]).run=some (0,[.s (tN m.natAbs)]):=by
 rw[qmO];have hp:=qwQ m;have hne:¬tI m=[]:=fun h=>by rw[h] at hp;simp at hp
 have h1:(0:Int)<qu (tI m):=by unfold qu;omega
 have h2:(1:Int)<=qu (tI m):=by omega
 simp only[STD,qY,hne,h1,h2,qAX,qLI,show (0:Int)<=qu (tI m) by omega,and_self,show (0:Int)<=1 by omega];by_cases h:m<0
 ·rw[if_pos h,qcD h];simp[qcO,qu]
 ·rw[if_neg h,qlK h]
theorem vQ (m:Int):(qz [.s (tI m)]).run=some (0,[.b (decide (m<0))]):=by
 rw[qsX];have hp:=qwQ m;have h1:(0:Int)<qu (tI m):=by unfold qu;omega
 have h2:ieq (sat (tI m) 0) 45=decide (m<0):=by have:=qAX m;by_cases h:m<0<;>simp[ieq,h] at this ⊢<;>exact this
 simp only[STD,h1,h2,qLI,and_self]
theorem kB (n:Nat)(b:Bool)(hl:(tN n).length<=100000000):(zf [.s (tN n),.b b]).run=some (0,[.s (tI (if b then -(n:Int) else n))]):=by
 rw[qqL];have h1:qu [45]+qu (tN n)<=140737488355328:=by show (1:Int)+((tN n).length:Int)<=_;omega
 have h0:(tN n=[48])=(n=0):=by rw[<-qz8];exact propext ⟨fun h=>qub h,fun h=>by rw[h]⟩
 simp only[STD,qY,h1,h0];cases b with
 | false=>simp[q19]
 | true=>
  by_cases hn:n=0
  ·subst hn;simp[tI,qz8]
  ·have:(-(n:Int))<0:=by omega
   simp[hn,qcD this,qfa]
theorem qdK (m:Int)(hl:(tN m.natAbs).length<=100000000):(zU [.s (tI m)]).run=some (0,[.s (tI (-m))]):=by
 rw[qrH];simp only[STD,ww,vQ,kB _ _ hl];have e:(if ¬m<0 then -(m.natAbs:Int) else (m.natAbs:Int))=-m:=by
  by_cases h:m<0
  ·rw[if_neg (by simp[h])];omega
  ·rw[if_pos (by simp[h])];omega
 rw[e]
theorem qaD {s:qL8}(h:i<s.length):val (s.take (i+1))=10*val (s.take i)+dv s[i]:=by rw[List.take_add_one,qLg h,Option.toList_some,qmv]
theorem qwO {s:qL8}(h:q5n s)(i:Nat):q5n (s.take i):=fun c hc=>h c (qNl hc)
theorem qDR {s:qL8}(h:q5n s)(i:Nat):q5n (s.drop i):=fun c hc=>h c (qNm hc)
theorem qjk {s:qL8}(h:q5n s)(hi:i<s.length):48<=s[i].toNat/\s[i].toNat<=57:=h _ (qLP hi)
theorem qyN {s:qL8}(h:q5n s)(hi:i<s.length):q36 .i64 (jq .u8 (sat s (i:Int)) 48)=(dv s[i]:Int)/\dv s[i]<10:=by have hd:=qjk h hi;rw[qkH hi,qHB (by omega),quB (by omega)];unfold dv;omega
theorem qkD (m:Int)(hl:(tN m.natAbs).length<=18):(yI [.s (tI m)]).run=some (0,[.i m]):=by
 rw[qqw];have hd:=zS m.natAbs;have k:=qG (S:=uS) (fun i=>[.s (tI m),.i (val ((tN m.natAbs).take i):Int),.s (tN m.natAbs),.i (i:Int)]) (0,[.s (tI m),.i (m.natAbs:Int)]) (tN m.natAbs).length (by omega) (fun i hi=>by
  rw[qeL];obtain⟨e1,e2⟩:=qyN hd hi;have hv:=q7e (qwO hd i);have hv2:10^((tN m.natAbs).take i).length<=100000000000000000:=qLd (qMG (n:=10) (by omega) (show _<=17 by rw[qM2];omega)) (by decide);have hv3:=qLR hv hv2;clear hv hv2;have hlt:(i:Int)<qu (tN m.natAbs):=by unfold qu;omega
  have e3:qw .i64 (vT .i64 10 (val ((tN m.natAbs).take i):Int)) (dv (tN m.natAbs)[i]:Int)=((10*val ((tN m.natAbs).take i)+dv (tN m.natAbs)[i]:Nat):Int):=by rw[q7F (by omega),qW (by omega)];omega
  simp only[STD,hlt,qcn,and_self,e1,yu hi (by omega),qaD hi,e3]) (by
  rw[qeL];have:¬((tN m.natAbs).length:Int)<qu (tN m.natAbs):=by unfold qu;omega
  simp only[STD,this,qMl,q0q])
 have k':(qf uS [.s (tI m),.i 0,.s (tN m.natAbs),.i 0]).run=_:=k;have hm:m.natAbs<1000000000000000000:=qLR (q6p hl) (by decide);have hneg:m<0->jq .i64 0 (m.natAbs:Int)=m:=fun h=>by rw[qyD (by omega)];omega
 have hpos:¬m<0->(m.natAbs:Int)=m:=fun h=>by omega
 clear hm k hd;simp only[STD,ww,k',vQ];by_cases h:m<0
 ·rw[if_pos h,hneg h]
 ·rw[if_neg h,hpos h]
theorem q5R (m n:Int):(vH [.s (tI m),.s (tI n)]).run=some (0,if (tN m.natAbs).length<=18/\(tN n.natAbs).length<=18 then [.i m,.i n,.b true] else [.i 0,.i 0,.b false]):=by
 rw[qt0];have e:∀t:List UInt8,(18<qu t)=¬(t.length<=18):=fun t=>by unfold qu;simp only[eq_iff_iff];omega
 by_cases h1:(tN m.natAbs).length<=18
 ·by_cases h2:(tN n.natAbs).length<=18
  ·simp only[STD,ww,e,h1,h2,qkD m h1,qkD n h2,and_self]
  ·simp only[STD,ww,e,h1,h2,and_false]
 ·simp only[STD,ww,e,h1,false_and]
theorem qvk {d:Int}(h0:0<=d)(h:d<10):qnM [[.i (q36 .u8 (qw .i64 48 d))]]=[dch d.toNat]:=by rw[qW (by omega),qu8 (by omega)];show [UInt8.ofNat (48+d).toNat]=[UInt8.ofNat (48+d.toNat)];rw[show (48+d).toNat=48+d.toNat by omega]
theorem qCs {S:List PV->TR}(hS:∀(y0:Int) (y1:qL8),S [.i y0,.s y1]=(.br (ilt 9 y0) (.br (ile ((qu (qnM [[(.i (q36 .u8 (qw .i64 48 (qch y0 10))))]]))+(qu y1)) 140737488355328) (.leaf (0,[(.i (qcJ .i64 y0 10)),(.s (qfa (qnM [[(.i (q36 .u8 (qw .i64 48 (qch y0 10))))]]) y1))])) .fail) (.leaf (1,[(.i y0),(.s y1)]))))(n:Nat) (hn:n<9223372036854775808):∃(a:Nat) (r:qL8),(qf S [.i (n:Int),.s []]).run=some (0,[.i (a:Int),.s r])/\a<10/\tN n=tN a++r:=by
 have hlen:(tN n).length<=19:=q2m 18 n (by omega);obtain⟨j,qs,h1,h2⟩:=j9 (S:=S) (fun k ps=>∃(r:qL8),ps=[.i (k:Int),.s r]/\tN n=tN k++r) (fun j qs=>∃(a:Nat) (r:qL8),j=0/\qs=[.i (a:Int),.s r]/\a<10/\tN n=tN a++r) hn (fun k ps hk ⟨r,hps,ht⟩=>by
  subst hps;by_cases h9:k<10
  ·right;have:¬(9:Int)<(k:Int):=by omega
   exact⟨0,_,by rw[hS];simp only[STD,this],k,r,rfl,rfl,h9,ht⟩
  ·left;have h9':(9:Int)<(k:Int):=by omega
   have hr:qch (k:Int) 10=((k%10:Nat):Int):=qpY k 10;have hq:qcJ .i64 (k:Int) 10=((k/10:Nat):Int):=qA1 (b:=10) (by omega);have hd:qnM [[(.i (q36 .u8 (qw .i64 48 (qch (k:Int) 10))))]]=[dch (k%10)]:=by rw[hr,qvk (by omega) (by omega)];rfl
   have hrl:r.length<=19:=by have:=congrArg List.length ht;rw[qLv] at this;omega
   have hle:qu [dch (k%10)]+qu r<=140737488355328:=by show (1:Int)+(r.length:Int)<=_;omega
   refine⟨k/10,[.i ((k/10:Nat):Int),.s ([dch (k%10)]++r)],by omega,?_,_,rfl,?_⟩
   ·rw[hS];simp only[STD,h9',hd,hq,hle];rfl
   ·rw[ht,qz6 (by omega),qLH]) (ps:=[.i (n:Int),.s []]) ⟨[],rfl,by simp⟩
 obtain⟨a,r,rfl,rfl,h3,h4⟩:=h2;exact⟨a,r,h1,h3,h4⟩
theorem qFn {a:Nat}{r:qL8}(ha:a<10):qfa (qnM [[(.i (q36 .u8 (qw .i64 48 (a:Int))))]]) r=tN a++r:=by rw[qvk (by omega) (by omega),qxP ha];rfl
theorem qJh {a:Nat}{r:qL8}(ha:a<10)(hr:r.length<=1000):qu (qnM [[(.i (q36 .u8 (qw .i64 48 (a:Int))))]])+qu r<=140737488355328:=by rw[qvk (by omega) (by omega)];show (1:Int)+(r.length:Int)<=_;omega
theorem qHx {x:Int}(h1:-9223372036854775808<x)(h2:x<=9223372036854775807):jq .i64 0 x=-x:=qyD (by omega)
theorem qJO (n:Nat)(hn:n<9223372036854775808):(q4B [.i (n:Int)]).run=some (0,[.s (tN n)])/\(zK [.i (n:Int)]).run=some (0,[.s (tN n)]):=by
 obtain⟨a,r,h1,h2,h3⟩:=qCs qsM n hn;obtain⟨a',r',h1',h2',h3'⟩:=qCs qvM n hn;have hlen:(tN n).length<=19:=q2m 18 n (by omega);have hr:r.length<=1000:=by have:=congrArg List.length h3;rw[qLv] at this;omega
 have hr':r'.length<=1000:=by have:=congrArg List.length h3';rw[qLv] at this;omega
 have hneg:jq .i64 0 (n:Int)=-(n:Int):=qHx (by omega) (by omega);have h0:((n:Int)=-(n:Int))=(n=0):=by simp only[eq_iff_iff];omega
 have hlt:¬(n:Int)<0:=by omega
 have hz:((n:Int)=0)=(n=0):=by simp only[eq_iff_iff];omega
 constructor
 ·rw[qxv];simp only[STD,hneg,h0,hz,hlt,h1,qFn h2,qJh h2 hr,<-h3];by_cases h:n=0<;>simp[h]
 ·rw[qrw];simp only[STD,hneg,h0,hz,hlt,h1',qFn h2',qJh h2' hr',<-h3'];by_cases h:n=0<;>simp[h]
theorem q1v (n:Int)(h1:-9223372036854775808<n)(h2:n<=9223372036854775807):(zK [.i n]).run=some (0,[.s (tI n)]):=by
 by_cases h:n<0
 ·obtain⟨a,ha⟩:∃a:Nat,n=-(a:Int):=⟨n.natAbs,by omega⟩;subst ha;have hneg:jq .i64 0 (-(a:Int))=(a:Int):=by rw[qHx (by omega) (by omega)];omega
  have hlen:(tN a).length<=19:=q2m 18 a (by omega);have ht:=qdK (a:Int) (by simp;omega);rw[q19] at ht;rw[qrw];have e1:¬(-(a:Int)=(a:Int)):=by omega
  simp only[STD,hneg,h,e1,(qJO a (by omega)).1,ht]
 ·obtain⟨a,rfl⟩:∃a:Nat,n=(a:Int):=⟨n.toNat,by omega⟩;rw[(qJO a (by omega)).2,q19]
theorem qhM (m n:Nat):(q2y [.s (tN m),.s (tN n)]).run=some (0,[.b (decide (m<n))]):=by
 rw[quS];have h:=qzq m n;have e1:(qu (tN m)<qu (tN n))=((tN m).length<(tN n).length):=by unfold qu;simp only[eq_iff_iff];omega
 have e2:(qu (tN m)=qu (tN n))=((tN m).length=(tN n).length):=by unfold qu;simp only[eq_iff_iff];omega
 simp only[STD,e1,e2];by_cases h1:(tN m).length<(tN n).length
 ·have:m<n:=h.1 (.inl h1);simp[h1,this]
 ·by_cases h2:(tN m).length=(tN n).length
  ·cases hs:slt (tN m) (tN n) with
   | true=>simp[h2,h.1 (.inr ⟨h2,hs⟩)]
   | false=>
    have:¬m<n:=fun hh=>by rcases h.2 hh with h3|⟨_,h3⟩<;>simp_all
    simp[h2,this]
  ·have:¬m<n:=fun hh=>by rcases h.2 hh with h3|⟨h3,_⟩<;>omega
   simp[h1,h2,this]
end Go.Eng

