/- Texts of the proof, merged: what the code computes, and plain laws. No statement stands here. -/
import Derived.WalkSpells
import Derived.KernelRfl
import Derived.Test.YtiohngnhjabaiaaGreatDoorProg
import Derived.Test.YtiohngnhjabaiaaGreatDoorM4
namespace Go.Eng
open Go.RowKit Go.Proofs
open Tryz
theorem qmk{n:Int}(h:-9223372036854775808<=n/\n<=9223372036854775807):wrap64 n=n:=by unfold wrap64;omega
set_option maxHeartbeats 2000000 in
set_option maxRecDepth 100000 in
theorem qKN(i k:Nat)(_:i<=1000)(hk:k<=1000)(w:World) :Calls prog 251 #[.int .i64 i,.int .i64 k] w fun e w'=>e=.returned (q0Q (if i=k then [49] else [48]))/\w'=w:=by
 have hs:q0Q (if i=k then [49] else [48])=if i=k then .string ⟨#[49]⟩ else .string ⟨#[48]⟩:=by split<;>rfl
 rw[hs]
 go_enter func251,ntmps251
 by_cases h:i=k
 ·subst h
  go_wp2
  go_ret
  exact⟨rfl,rfl⟩
 ·have hb:((i:Int)==(k:Int))=false:=by simp;omega
  go_wp2
  go_ret
  exact⟨rfl,rfl⟩
set_option maxHeartbeats 2000000 in
set_option maxRecDepth 100000 in
theorem qKU(b5 b1 g L cap i n:Nat)(w:World)(h5:w.cell? ⟨b5,2,none⟩=some (.slice (some ⟨g,0,none⟩) L cap))(h1:w.cell? ⟨b1,0,none⟩=some (qmH n))(hi:i<=1000)(hn:0<n)(hn2:n<=1000)(hL:(i+1)*n<=L)(hc:L<=cap) :Calls prog 211 #[.int .i64 i,.pointer (some ⟨b5,0,none⟩),.pointer (some ⟨b1,0,none⟩)] w fun e w'=>e=.returned (.slice (some ⟨g,i*n,none⟩) n (cap-i*n))/\w'=w:=by
 unfold qmH at h1;obtain⟨lo,hlo⟩:∃lo,lo=i*n:=⟨_,rfl⟩;have hm:i*n<=1000*1000:=qMl hi hn2;have hhi:(i+1)*n=lo+n:=by rw[hlo,qLO,qNc]
 have e1:wrap64 ((i:Int)*(n:Int))=(lo:Int):=by rw[hlo,qmk (by rw[<-qMk];omega)];simp
 have e2:wrap64 (((i:Int)+1)*(n:Int))=((lo+n:Nat):Int):=by
  have:((i:Int)+1)*(n:Int)=((lo+n:Nat):Int):=by rw[<-hhi];simp
  rw[this,qmk (by omega)]
 rw[hhi] at hL;rw[<-hlo];have g1:¬cap=lo:=by omega
 clear hm hhi hlo
 go_enter func211,ntmps211
 go_wp2
 go_ret
 rw[Nat.add_sub_cancel_left];exact⟨rfl,rfl⟩
set_option maxHeartbeats 4000000 in
set_option maxRecDepth 1000000 in
theorem qD8(g:Nat)(hen:qd0 prog g)(caps:Array Value)(r c:Nat)(hr:r<=16)(hc:c<=16)(F:Nat->Nat->Bs)(w:World)(hF:∀i k w',i<r->k<c->Below w.heap.size w w'->Calls prog g (#[.int .i64 i,.int .i64 k]++caps) w' fun e w''=>e=.returned (q0Q (F i k))/\Below w'.heap.size w' w'') :Calls prog 206 #[.int .i64 r,.int .i64 c,.func (.func g) #[] caps] w fun e w'=>∃v,e=.returned (.agg #[.int .i64 r,.int .i64 c,v])/\Below w.heap.size w w'/\w'.ownsRow w.heap.size 32 1 v (r*c) ((mkL F c r).map q0Q):=by
 obtain⟨i0,hi,hz0,hz1,hz2⟩:=info_parts (show (prog.info? 32).map (fun i=>(i.zero,i.size,i.bytes))=some (some (.string ⟨#[]⟩),1,16) by kernel_rfl);obtain⟨B,hB⟩:∃B,B=w.heap.size:=⟨_,rfl⟩;have HF:=Lib.hid hF;clear hF
 go_enter func206,ntmps206
 go_wp2
 go_loopg [14] r (fun g i wr=>∃(ii:Nat) (v:Value),ii<=r/\g=r-ii/\i=.int .i64 ii/\MSt w.heap.size (w.heap.size+1) w.heap.size 208 32 w wr r c v (mkL F c ii))
 case atStart=>exact⟨0,.slice none 0 0,by omega,by omega,rfl,MSt.start w 208 32 (by decide) r c _ rfl _ rfl⟩
 case round=>
  obtain⟨ii,v,hii,rfl,rfl,hM⟩:=hrel;by_cases hlt:ii<r
  ·have HM:=Lib.hid hM;clear hM
   go_wp2
   go_loopg [18] c (fun g k wx=>∃(kk:Nat) (v:Value),kk<=c/\g=c-kk/\k=.int .i64 kk/\MSt w.heap.size (w.heap.size+1) w.heap.size 208 32 w wx r c v (mkL F c ii++(List.range kk).map (F ii)))
   case atStart=>exact⟨0,v,by omega,rfl,rfl,by simpa using HM.out⟩
   case round=>
    clear HM;obtain⟨kk,v,hkk,rfl,rfl,hM⟩:=hrel;have HM:=Lib.hid hM;by_cases hk:kk<c
    ·have c2:=hM.cell.2.2;have hW:Below w.heap.size w wr.drew:=hM.below.drew;have key:=Lib.hid (HF.out ii kk wr.drew hlt hk hW);have own:=Lib.hid hM.own;have hsz:w.heap.size<=wr.heap.size:=hM.below.size;have hl:(mkL F c ii++(List.range kk).map (F ii)).length<=1000:=by rw[qLR,qim,qLE,qMa];have:=qMl (show ii<=16 by omega) hc;omega
     have key2:=key.out;unfold q0Q at key2;clear hM HF
     go_wp2_with fail
     go_region_law (first
      | (refine qES rfl g caps hen (.tmp 23) #[.tmp 24,.tmp 25] #[3,3] rfl (by simp[Act.eval,Act.put]) (#[.int .i64 ii,.int .i64 kk]++caps) (by simp[Act.eval,Act.put]) (by exact key2) ?_;rintro e w2 ⟨rfl,hb2⟩;have B2:Below wr.heap.size wr w2:=(Below.refl _ wr).drew.trans hb2;have BA:Below wr.heap.size wr (w2.alloc (.cells #[.string ⟨(F ii kk).toArray⟩] 32)):=B2.alloc B2.size _;have k1:=(HM.out.grow B2 hsz).cell.2.2;have k2:=(HM.out.grow BA hsz).cell.2.2;refine⟨_,rfl,?_⟩)
      | (refine qrX rfl (.tmp 22) (.tmp 27) 87 rfl w.heap.size 32 i0 (.string ⟨#[]⟩) 1 16 underlying87 hi hz0 hz1 hz2 rfl (by decide) v _ _ (by simp[Act.eval]) (q1o own.out BA) ⟨w2.heap.size,0,none⟩ 1 1 [.string ⟨(F ii kk).toArray⟩] (by simp[Act.eval]) rfl (qCY (quU w2 _ _)) (fun u hu=>by rw[qLT.1 hu];rfl) (by unfold maxLen;omega) (by omega) (qLA hsz BA.size) ?_;intro v' w3 hown' hgrow _;obtain⟨ao,n',cap',rfl⟩:=q72 hown';obtain⟨k3,k4⟩:=(HM.out.grow BA hsz).keepCell hgrow))
     all_goals
      have MA:=Lib.hid ((HM.out.grow BA hsz).app (ys:=mkL F c ii++(List.range (kk+1)).map (F ii)) hgrow (qLA hsz BA.size) (by rw[qMQ,qM1,<-qM2,qLR,qM1];exact hown'));clear k1 k2 k3 k4 c2 hown' hgrow key2
      go_wp2
      go_roundg (c-(kk+1))
      case measure=>go_light;omega
      case rel=>
       go_light
       exact⟨kk+1,_,by omega,rfl,by go_num,MA.out⟩
    ·have hkE:kk=c:=by omega
     subst kk;clear hM
     go_wp2
     go_roundg (r-(ii+1))
     case measure=>go_light;omega
     case rel=>
      go_light
      exact⟨ii+1,v,by omega,rfl,by go_num,HM.out⟩
  ·have hiE:ii=r:=by omega
   subst ii;obtain⟨ao,n',cap',rfl⟩:=q72 hM.own;have c1:=hM.cell;have c2:=hM.cellq;have f20:=hM.freeq 0;have f21:=hM.freeq 1;have f22:=hM.freeq 2;have HM:=Lib.hid hM;clear hM;unfold qmH at c1 c2;obtain⟨c11,c12,c13⟩:=c1;obtain⟨c21,c22,c23⟩:=c2
   go_wp2
   refine bodyPost_ret (by simp[results,results206,go_sem, *];try rfl) rfl ?_;obtain⟨q1,q2⟩:=HM.out.fin (qLy _) (.int .i64 r) (.int .i64 c) (.slice ao n' cap');rw[qim] at q2;exact⟨_,rfl,q1,q2⟩
end Go.Eng

namespace Go.Eng
open Go.RowKit Go.Proofs
open Tryz
set_option maxHeartbeats 2000000 in
set_option maxRecDepth 100000 in
theorem qFp(ab ao n c:Nat)(hn:0<n)(hn2:n<=1000)(row:List Bs)(hl:row.length=n)(w:World)(hc:∀(j:Nat) x,row[j]?=some x->w.cell? ⟨ab,ao+j,none⟩=some (q0Q x)) :Calls prog 94 #[.slice (some ⟨ab,ao,none⟩) n c] w fun e w'=>∃v,e=.returned v/\w'.ownsRow w.heap.size 32 1 v n (row.map q0Q)/\Below w.heap.size w w':=by
 obtain⟨i0,hi,hz0,hz1,hz2⟩:=info_parts (show (prog.info? 32).map (fun i=>(i.zero,i.size,i.bytes))=some (some (.string ⟨#[]⟩),1,16) by kernel_rfl);have hnil:=Lib.run_eql_slice_nil (P:=prog)
 go_enter func94,ntmps94
 have hnews:∀(j:Nat) (u:Value),(row.map q0Q)[j]?=some u->(w.alloc (.cells #[] 32)).cell? ((⟨ab,ao,none⟩:Addr).add j)=some u:=fun j u hu=>by
  rw[qLH] at hu;obtain⟨x,hx,rfl⟩:=qNi.1 hu;have h1:=hc j x hx;have h2:(⟨ab,ao,none⟩:Addr).add j=⟨ab,ao+j,none⟩:=by
   unfold Addr.add;split
   ·rename_i h;subst h;rfl
   ·rfl
  rw[h2,World.cell?_alloc_lt _ _ _ (qMF w _ h1)];exact h1
 clear hc
 go_wp2_with (at_builtin;refine wpList_append_own _ rfl _ _ 87 rfl w.heap.size 32 i0 (.string ⟨#[]⟩) 1 16 underlying87 hi hz0 hz1 hz2 rfl (by decide) _ 0 [] rfl (World.ownsRow_made w #[] 0 (qLy _) (by decide) rfl) ⟨ab,ao,none⟩ n c (row.map q0Q) rfl (by rw[qLE,hl,qNe]) hnews qAm (by unfold maxLen;omega) (by omega) (by rw[jW];omega) ?_)
 intro v' w2 hown' hgrow _;obtain⟨ao',n',cap',rfl⟩:=q72 hown'
 go_wp2
 go_ret
 refine⟨_,rfl,hown',((Below.refl w.heap.size w).alloc (qLy _) (.cells #[] 32)).grown hgrow (by rw[jW];omega) (fun k hk=>?_)⟩;cases hk;exact qLy _
theorem qIl(i n:Nat)(hi:i<=1000)(hn:n<=1000):wrap64 ((i:Int)*(n:Int))=((i*n:Nat):Int):=by have:=qMl hi hn;rw[<-qMk];exact qmk ⟨by omega,by omega⟩
theorem qIH(i n:Nat)(hi:i<=1000)(hn:n<=1000):wrap64 (((i:Int)+1)*(n:Int))=((i*n+n:Nat):Int):=by
 have:=qMl hi hn;have h:((i:Int)+1)*(n:Int)=((i*n+n:Nat):Int):=by rw[Int.add_mul,qMR,<-qMk,<-qNu]
 rw[h];exact qmk ⟨by omega,by omega⟩
def row0(F G:Nat->Nat->Bs)(n i:Nat):List Bs:=(List.range n).map (F i)++(List.range n).map (G i)
def qKL(B S b2 n:Nat)(vs:Value)(F G:Nat->Nat->Bs)(w0 w:World)(ii:Nat):Prop:=∃vR H,Sch B S 263 87 32 3 ii (2*n) (.int .i64 0) (.int .i64 n) w vR (.slice none 0 0) H ((List.range ii).map (row0 F G n)) [49] []/\Below B w0 w /\
 w.heap[b2]?=some (.cells #[.int .i64 n,.int .i64 n,vs] 208 (0,0))
set_option maxHeartbeats 4000000 in
set_option maxRecDepth 1000000 in
theorem qG6(n:Nat)(hn:n<=16)(F G:Nat->Nat->Bs)(vs:Value)(b5 b1:Nat)(w:World)(hv:0<n->∃ab ao cap,vs=.slice (some ⟨ab,ao,none⟩) (n*n) cap/\n*n<=cap/\∀i k,i<n->k<n->w.cell? ⟨ab,ao+(i*n+k),none⟩=some (q0Q (F i k)))(ho:0<n->∃g cap,w.cell? ⟨b5,2,none⟩=some (.slice (some ⟨g,0,none⟩) (n*n) cap)/\n*n<=cap/\∀i k,i<n->k<n->w.cell? ⟨g,i*n+k,none⟩=some (q0Q (G i k)))(h1:w.cell? ⟨b1,0,none⟩=some (qmH n)) :Calls prog 252 #[.agg #[.int .i64 n,.int .i64 n,vs],.func (.func 211) #[] #[.pointer (some ⟨b5,0,none⟩),.pointer (some ⟨b1,0,none⟩)]] w fun e w' => e=.returned (.pointer (some ⟨w.heap.size+1,0,none⟩))/\qKL w.heap.size (w.heap.size+1) w.heap.size n vs F G w w' n:=by
  obtain⟨i0,hi,hz0,hz1,hz2⟩:=info_parts (show (prog.info? 32).map (fun i=>(i.zero,i.size,i.bytes))=some (some (.string ⟨#[]⟩),1,16) by kernel_rfl);obtain⟨i1,hi',hy0,hy1,hy2⟩:=info_parts (show (prog.info? 87).map (fun i=>(i.zero,i.size,i.bytes))=some (some (.slice none 0 0),1,24) by kernel_rfl);have HV:=Lib.hid hv;have HO:=Lib.hid ho;clear hv ho
  go_enter func252,ntmps252
  go_wp2
  go_loopg [14] n (fun g i wr=>∃ii:Nat,ii<=n/\g=n-ii/\i=.int .i64 ii/\qKL w.heap.size (w.heap.size+1) w.heap.size n vs F G w wr ii)
  case atStart =>
    refine⟨0,by omega,by omega,rfl,.slice none 0 0,[],?_,?_,?_⟩
    · refine Sch.start (by omega) ?_ (by decide)
      rw[<-jW w (.cells #[.int .i64 n,.int .i64 n,vs] 208)];exact heap_alloc_new _ _
    · exact((Below.refl w.heap.size w).alloc (qLy _) _).alloc (by rw[jW];omega) _
    · exact qkt w _ _
  case round =>
    obtain⟨ii,hii,rfl,rfl,hI⟩:=hrel;by_cases hlt:ii<n
    · obtain⟨vR,H,hS,hB,h2⟩:=hI
      obtain⟨ab,ao,cap,rfl,hcap,hcell⟩:=HV.out (by omega);obtain⟨lo,hlo⟩:∃lo,lo=ii*n:=⟨_,rfl⟩;have hm:ii*n<=16*16:=qMl (by omega) hn;have hhi:(ii+1)*n=lo+n:=by rw[hlo,qLO,qNc]
      have hle:lo+n<=n*n:=by rw[<-hhi];exact qLX n hlt
      have g1:¬cap=lo:=by omega
      have g2:lo+n<=cap:=by omega
      have q1:ii<=1000:=by omega
      have q2:n<=1000:=by omega
      clear hm hhi hle;have e1:True->wrap64 ((ii:Int)*(n:Int))=(lo:Int):=fun _=>by rw[hlo];exact qIl ii n q1 q2
      have e2:True->wrap64 (((ii:Int)+1)*(n:Int))=((lo+n:Nat):Int):=fun _=>by rw[hlo];exact qIH ii n q1 q2
      have HLO:=Lib.hid hlo;clear hlo;have c2:=q7A h2;obtain⟨c20,c21,c22⟩:=c2;have keyC:=qFp ab (ao+lo) n (cap-lo) (by omega) q2 ((List.range n).map (F ii)) (by simp) wr (fun j x hx=>by
        rw[qLH] at hx;obtain⟨y,hy,rfl⟩:=qNi.1 hx;have hjn:j<n:=by have:=(qNd.1 hy).1;simpa using this
        rw[qMu hjn] at hy;cases hy;rw[qN4,HLO.out,hB.cell (p:=⟨ab,ao+(ii*n+j),none⟩) (qMF w _ (hcell ii j hlt hjn))];exact hcell ii j hlt hjn)
      obtain⟨g,capo,ho5,hcapo,hoc⟩:=HO.out (by omega);have keyI:=Lib.hid fun (W:World) (hW:Below w.heap.size w W)=>qKU b5 b1 g (n*n) capo ii n W (by rw[hW.cell (qMF w _ ho5)];exact ho5) (by rw[hW.cell (qMF w _ h1)];exact h1) q1 (by omega) q2 (qLX n hlt) hcapo;have HC:=Lib.hid hoc;have HH:=Lib.hid (And.intro hS (And.intro hB h2));clear hcell hoc ho5 hcapo hcap hS hB h2
      go_wp2_with (go_at_call 94;refine keyC.mono ?_;rintro e w1 ⟨v1,rfl,hv1,hb1⟩;obtain⟨a1,n1,cap1,rfl⟩:=q72 hv1)
      clear keyC e1 e2 g1 g2 c20 c21 c22;have hsz:=HH.out.2.1.size;have B1:Below wr.heap.size wr w1.drew:=hb1.drew;have k1:=(HH.out.1.grow B1).cell.2.1;have BW:Below w.heap.size w w1.drew:=HH.out.2.1.trans (B1.mono hsz);have key2:=keyI.out w1.drew BW;have own1:=Lib.hid (q1o hv1 (Below.refl _ w1).drew);have LT1:=Lib.hid hv1;have NEW:∀(j:Nat) (u:Value),(((List.range n).map (G ii)).map q0Q)[j]?=some u->w1.drew.cell? ((⟨g,ii*n,none⟩:Addr).add j)=some u:=fun j u hu=>by
        rw[qLH] at hu;obtain⟨x,hx,rfl⟩:=qNi.1 hu;rw[qLH] at hx;obtain⟨y,hy,rfl⟩:=qNi.1 hx;have hjn:j<n:=by have:=(qNd.1 hy).1;simpa using this
        rw[qMu hjn] at hy;cases hy;have h2:(⟨g,ii*n,none⟩:Addr).add j=⟨g,ii*n+j,none⟩:=by
          unfold Addr.add;split
          · rename_i h;subst h;rfl
          · rfl
        have h3:=HC.out ii j hlt hjn;rw[h2,BW.cell (qMF w _ h3)];exact h3
      clear hv1;have henI:qd0 prog 211:=kd func211 (by kernel_rfl) (by kernel_rfl);have stepI:∀(o:Oper) (a:Act) (K:Act->World->Prop) (Q:Exit->Act->World->Prop),o.op=.call { callee:=.value (.tmp 36),args:=#[.tmp 37],argTypes:=#[3] } ->
          a.eval (.tmp 36)=.func (.func 211) #[] #[.pointer (some ⟨b5,0,none⟩),.pointer (some ⟨b1,0,none⟩)]->a.eval (.tmp 37)=.int .i64 ii->K (a.put o.dst (.slice (some ⟨g,ii*n,none⟩) n (capo-ii*n))) w1.drew->Oper.wp prog o a w1.drew K Q :=
        fun o a K Q q1 q2 q3 q4=>qA7 211 _ henI (.tmp 36) _ _ q1 q2 (#[.int .i64 ii,.pointer (some ⟨b5,0,none⟩),.pointer (some ⟨b1,0,none⟩)]) (by simp[q3]) key2 (fun e w' h=>⟨_,h.1,by rw[h.2];exact q4⟩)
      have stepA:∀(o:Oper) (a:Act) (K:Act->World->Prop) (Q:Exit->Act->World->Prop),o.op=.call { callee:=.builtin .append,args:=#[.tmp 35,.tmp 38],argTypes:=#[87,87] } ->
          a.eval (.tmp 35)=.slice a1 n1 cap1->a.eval (.tmp 38)=.slice (some ⟨g,ii*n,none⟩) n (capo-ii*n) ->
          (∀a2 n2 cap2 w2,w2.ownsRow wr.heap.size 32 1 (.slice a2 n2 cap2) (2*n) ((row0 F G n ii).map q0Q)->Below wr.heap.size wr w2->K (a.put o.dst (.slice a2 n2 cap2)) w2)->Oper.wp prog o a w1.drew K Q :=
        fun o a K Q q1 q2 q3 q4=>wp_append_own w1.drew _ _ 87 q1 wr.heap.size 32 i0 (.string ⟨#[]⟩) 1 16 underlying87 hi hz0 hz1 hz2 rfl (by decide) _ n _ q2 own1.out ⟨g,ii*n,none⟩ n _ (((List.range n).map (G ii)).map q0Q) q3 (by simp) NEW qAm (by unfold maxLen;omega) (by omega) B1.size
          (fun v2 w2 h1 h2 _=>by obtain⟨a2,n2,cap2,rfl⟩:=q72 h1;refine q4 _ _ _ _ ?_ (B1.grown h2 B1.size (fun k hk=>(LT1.out.lt k hk).1));rw[Nat.two_mul];unfold row0;rw[qM1];exact h1)
      have stepB:∀(w2:World) (a2:Option Addr) (n2 cap2:Nat) (o:Oper) (a:Act) (K:Act->World->Prop) (Q:Exit->Act->World->Prop),Below wr.heap.size wr w2->o.op=.call { callee:=.builtin .append,args:=#[.tmp 34,.tmp 40],argTypes:=#[220,220] } ->
          a.eval (.tmp 34)=vR->a.eval (.tmp 40)=.slice (some ⟨w2.heap.size,0,none⟩) 1 1 ->
          (∀a3 n3 cap3 w3,w3.ownsRow w.heap.size 87 1 (.slice a3 n3 cap3) (ii+1) (H++[.slice a2 n2 cap2])->(w2.alloc (.cells #[.slice a2 n2 cap2] 87)).grownBy w3 vR.ownBlock->K (a.put o.dst (.slice a3 n3 cap3)) w3)->Oper.wp prog o a (w2.alloc (.cells #[.slice a2 n2 cap2] 87)) K Q :=
        fun w2 a2 n2 cap2 o a K Q hb q1 q2 q3 q4=>by
          have B3:Below wr.heap.size wr (w2.alloc (.cells #[.slice a2 n2 cap2] 87)):=hb.alloc hb.size _;exact wp_append_own _ _ _ 220 q1 w.heap.size 87 i1 (.slice none 0 0) 1 24 underlying220 hi' hy0 hy1 hy2 rfl (by decide) _ ii _ q2 (HH.out.1.grow B3).outer ⟨w2.heap.size,0,none⟩ 1 1 [.slice a2 n2 cap2] q3 rfl (qCY (quU w2 _ _)) (fun u hu=>by rw[qLT.1 hu];rfl) (by unfold maxLen;omega) (by omega) (qLA hsz B3.size)
            (fun v3 w3 h1 h2 _=>by obtain⟨a3,n3,cap3,rfl⟩:=q72 h1;exact q4 _ _ _ _ h1 h2)
      clear key2 NEW
      go_region_law ((try simp only[Act.put,List.setIfInBounds_toArray,qLK,qLP]);(with_reducible refine qCO rfl ?_);first
        | (with_reducible refine stepI _ _ _ _ ?_ ?_ ?_ ?_
           · with_reducible rfl
           · (first|with_reducible rfl|(simp[Act.eval];done))
           · (first|with_reducible rfl|(simp[Act.eval];done)))
        | (with_reducible refine stepA _ _ _ _ ?_ ?_ ?_ ?_
           · with_reducible rfl
           · (first|with_reducible rfl|(simp[Act.eval];done))
           · (first|with_reducible rfl|(simp[Act.eval];done))
           intro a2 n2 cap2 w2 hown2 B2;have B3:Below wr.heap.size wr (w2.alloc (.cells #[.slice a2 n2 cap2] 87)):=B2.alloc B2.size _;have k2:=(HH.out.1.grow B2).cell.2.1;have k3:=(HH.out.1.grow B3).cell.2.1)
        | (with_reducible refine stepB w2 a2 n2 cap2 _ _ _ _ B2 ?_ ?_ ?_ ?_
           · with_reducible rfl
           · (first|with_reducible rfl|(simp[Act.eval];done))
           · (first|with_reducible rfl|(simp[Act.eval];done))
           intro a3 n3 cap3 w3 hown3 hgrow3;obtain⟨k4,k5⟩:=(HH.out.1.grow B3).rowCell hgrow3)
        | fail "NONE")
      all_goals
        have SR:=(HH.out.1.grow B3).addRow (row:=row0 F G n ii) (q6a (q1o hown2 ((Below.refl _ w2).alloc (qLy _) (.cells #[.slice a2 n2 cap2] 87))) hsz) (HH.out.1.heads hown2) hgrow3 hown3;have BL:=((HH.out.2.1.trans (B3.mono hsz)).grown hgrow3 (qLA hsz B3.size) (fun k hk=>((HH.out.1.grow B3).outer.lt k hk).1)).setCell (p:=⟨w.heap.size+1,1,none⟩) (by show w.heap.size<=w.heap.size+1;omega) (.slice a3 n3 cap3);have MK:=qA8 (HH.out.1.grow B3).outer (show (w2.alloc (.cells #[.slice a2 n2 cap2] 87)).heap[w.heap.size]?=_ by rw[B3.block _ (qLD.1 HH.out.2.2).1];exact HH.out.2.2) (by decide) hgrow3;have FIN:qKL w.heap.size (w.heap.size+1) w.heap.size n (.slice (some ⟨ab,ao,none⟩) (n*n) cap) F G w (w3.setCell ⟨w.heap.size+1,1,none⟩ (.slice a3 n3 cap3)) (ii+1) :=
          ⟨_,_,by rw[qMQ,qM1];exact SR,BL,by rw[heap_setCell_other w3 ⟨w.heap.size+1,1,none⟩ w.heap.size _ (by show w.heap.size≠w.heap.size+1;omega)];exact MK⟩
        have FIN:=Lib.hid FIN;clear SR BL MK k1 k2 k3 k4 k5 hown2 hown3 hgrow3 B2 B3 stepI stepA stepB
        go_wp2
        go_roundg (n-(ii+1))
        case measure=>go_light;omega
        case rel =>
          go_light
          exact⟨ii+1,by omega,rfl,by go_num,FIN.out⟩
    · have hiE:ii=n:=by omega
      subst ii;have HI:=Lib.hid hI;clear hI
      go_wp2
      go_ret
      exact⟨rfl,HI.out⟩
end Go.Eng

namespace Go.Eng
open Go.RowKit Go.Proofs
open Tryz
theorem Sch.base{B B' S:Nat}{tS tR tE tI:TypeId}{N C:Nat}{ek K:Value}{w:World}{vR vL:Value}{H:List Value}{Z:Mx}{det:Bs}{lead:List Nat}(h:Sch B S tS tR tE tI N C ek K w vR vL H Z det lead)(hB:B'<=B) :Sch B' S tS tR tE tI N C ek K w vR vL H Z det lead:=⟨qLA hB h.bs,h.st,h.dim,q6a h.outer hB,fun j a r e1 e2=>q6a (h.inner j a r e1 e2) hB,q6a h.own hB,h.ap,h.ne⟩
set_option maxHeartbeats 4000000 in
set_option maxRecDepth 1000000 in
theorem qJP(ml dv sb:Op2)(gl:World->Prop)(n:Nat)(hn:n<=16)(F G:Nat->Nat->Bs)(vs:Value)(b5 b1:Nat)(w:World)(hgl:∀w',Below w.heap.size w w'->gl w')(hml:qC2 prog gl 221 ml) (hdv:qC2 prog gl 233 dv) (hsb:qC2 prog gl 165 sb)(hv:0<n->∃ab ao cap,vs=.slice (some ⟨ab,ao,none⟩) (n*n) cap/\n*n<=cap/\∀i k,i<n->k<n->w.cell? ⟨ab,ao+(i*n+k),none⟩=some (q0Q (F i k)))(ho:0<n->∃g cap,w.cell? ⟨b5,2,none⟩=some (.slice (some ⟨g,0,none⟩) (n*n) cap)/\n*n<=cap/\∀i k,i<n->k<n->w.cell? ⟨g,i*n+k,none⟩=some (q0Q (G i k)))(h1:w.cell? ⟨b1,0,none⟩=some (qmH n)) (fin:RS) (hf:qwt ml dv sb n n (2*n) n ⟨(List.range n).map (row0 F G n),[49],[],0⟩=some fin) :Calls prog 210 #[.agg #[.int .i64 n,.int .i64 n,vs],.func (.func 211) #[] #[.pointer (some ⟨b5,0,none⟩),.pointer (some ⟨b1,0,none⟩)]] w fun e w'=> ∃S,e=.returned (.tuple #[.pointer (some ⟨S,0,none⟩),.int .i64 0])/\(∃vR vL H,Sch w.heap.size S 263 87 32 3 n (2*n) (.int .i64 0) (.int .i64 n) w' vR vL H fin.Z fin.det fin.lead)/\Below w.heap.size w w':=by
 have hB1:Below w.heap.size w (w.alloc (.cells #[.int .i64 n,.int .i64 n,vs] 208)):=(Below.refl w.heap.size w).alloc (qLy _) _;have keyB:=qG6 n hn F G vs b5 b1 (w.alloc (.cells #[.int .i64 n,.int .i64 n,vs] 208))
  (fun h=>by obtain⟨ab,ao,cap,q1,q2,q3⟩:=hv h;exact⟨ab,ao,cap,q1,q2,fun i k hi hk=>by rw[hB1.cell (qMF w _ (q3 i k hi hk))];exact q3 i k hi hk⟩)
  (fun h=>by obtain⟨g,cap,q1,q2,q3⟩:=ho h;exact⟨g,cap,by rw[hB1.cell (qMF w _ q1)];exact q1,q2,fun i k hi hk=>by rw[hB1.cell (qMF w _ (q3 i k hi hk))];exact q3 i k hi hk⟩)
  (by rw[hB1.cell (qMF w _ h1)];exact h1)
 have HG:=Lib.hid hgl;have HF:=Lib.hid hf;clear hv ho hf hgl
 go_enter func210,ntmps210
 go_wp2_with (go_at_call 252;refine keyB.mono ?_;rintro e w1 ⟨rfl,hI⟩)
 have hs1:w.heap.size<=w.heap.size+1:=by omega
 rw[jW] at hI;obtain⟨vR,H,hS,hB,_⟩:=hI;have hB2:Below w.heap.size w w1:=hB1.trans (hB.mono hs1);have keyR:=qKh w.heap.size _ n n (2*n) w1 ml dv sb gl (fun w' hw'=>HG.out w' (hB2.trans hw')) hml hdv hsb hB2.size (qLy _) (by omega) (by omega) (by omega) _ fin ⟨_,_,_,hS.base hs1,Below.refl _ _⟩ rfl rfl HF.out;refine keyR.mono ?_;rintro e w2 ⟨rfl,hR⟩;obtain⟨vR2,vL2,H2,hS2,hB3⟩:=hR;have k0:=hS2.cell.1;clear keyR keyB
 go_wp2_with fail
 go_region_with (fail)
 all_goals
  go_wp2
  refine bodyPost_ret (results_tmp2 rfl _ _ _) rfl ?_;exact⟨_,rfl,⟨_,_,_,hS2.grow (Below.refl _ _).drew⟩,hB2.trans hB3.drew⟩
def ql5(i k:Nat):Bs:=if i=k then [49] else [48]
set_option maxHeartbeats 4000000 in
set_option maxRecDepth 1000000 in
theorem qIW(n:Nat)(hn:n<=16)(w:World) :Calls prog 209 #[.int .i64 n] w fun e w'=>∃v,e=.returned (.agg #[.int .i64 n,.int .i64 n,v])/\Below w.heap.size w w'/\w'.ownsRow w.heap.size 32 1 v (n*n) ((mkL ql5 n n).map q0Q):=by
 have hB1:Below w.heap.size w (w.alloc (.cells #[.int .i64 0,.int .i64 0,.slice none 0 0] 208)):=(Below.refl w.heap.size w).alloc (qLy _) _;have key:=qD8 251 (kd func251 (by kernel_rfl) (by kernel_rfl)) #[] n n hn hn ql5 (w.alloc (.cells #[.int .i64 0,.int .i64 0,.slice none 0 0] 208)) (fun i k w' hi hk _=>(qKN i k (by omega) (by omega) w').mono fun e w'' h=>⟨h.1,by rw[h.2];exact Below.refl _ _⟩);have hq:=heap_alloc_new w (.cells #[.int .i64 0,.int .i64 0,.slice none 0 0] 208);rw[jW] at key
 go_enter func209,ntmps209
 go_wp2_with (go_at_call 206;refine key.mono ?_;rintro e w1 ⟨v,rfl,hb,ho⟩;obtain⟨ao,n1,cap,rfl⟩:=q72 ho;have hq2:w1.heap[w.heap.size]?=some (.cells #[.int .i64 0,.int .i64 0,.slice none 0 0] 208 (0,0)):=(hb.block _ (by omega)).trans hq;obtain⟨c0,c1,c2⟩:=q7A hq2;have f0:=frozen_of_row w1 w.heap.size 0 _ 208 hq2;have f1:=frozen_of_row w1 w.heap.size 1 _ 208 hq2;have f2:=frozen_of_row w1 w.heap.size 2 _ 208 hq2)
 refine bodyPost_ret (by simp[results,results209,go_sem, *];try rfl) rfl ?_;have hn0:(Value.slice ao n1 cap).ownBlock≠some w.heap.size:=fun hv=>by obtain⟨c',hc'⟩:=zQ ho hv;exact qcC hq2 hc' (by decide) rfl
 have hle:w.heap.size<=w.heap.size:=qLy _;exact⟨_,rfl,(((hB1.trans (hb.mono (by omega))).setCell (p:=⟨w.heap.size,0,none⟩) hle _).setCell (p:=⟨w.heap.size,1,none⟩) hle _).setCell (p:=⟨w.heap.size,2,none⟩) hle _,
  qU (qU (qU (q6a ho (by omega)) hn0 _) hn0 _) hn0 _⟩
end Go.Eng

namespace Go.Eng
open Go.RowKit Go.Proofs
open Tryz
theorem qBx{w:World}{B:Nat}{e:TypeId}{z n:Nat}{v:Value}{xs:List Value}(h:w.ownsRow B e z v n xs):∃ao cap,v=.slice ao n cap:=by
 rcases h.2 with⟨hv,h0⟩|⟨g,cap,cur,hv,_⟩
 ·exact⟨none,0,by rw[hv,h0]⟩
 ·exact⟨_,_,hv⟩
set_option maxHeartbeats 4000000 in
set_option maxRecDepth 1000000 in
theorem qLf(b6 b1 S n:Nat)(w:World){B:Nat}{vR vL:Value}{H:List Value}{Z:Mx}{det:Bs}{lead:List Nat}{ek K:Value}(h6:w.cell? ⟨b6,0,none⟩=some (.pointer (some ⟨S,0,none⟩)))(h1:w.cell? ⟨b1,1,none⟩=some (qmH n))(hS:Sch B S 263 87 32 3 n (2*n) ek K w vR vL H Z det lead) (hn:n<=16) (i k:Nat) (hi:i<n) (hk:k<n) :Calls prog 212 #[.int .i64 i,.int .i64 k,.pointer (some ⟨b6,0,none⟩),.pointer (some ⟨b1,0,none⟩)] w fun e w'=>e=.returned (q0Q (q93 Z i (n+k)))/\w'=w.drew:=by
 obtain⟨O,cO,rfl,bO,ltO,rO,fO,tO⟩:=hS.rows (by omega);obtain⟨G,cG,eH,bG,ltG,zG,fG,tG⟩:=hS.head hi (by omega);have c1:=hS.cell.2.1;have c2:=rO i _ eH;have c3:=zG (n+k) (by omega);have hlt:n+k<2*n:=by omega
 generalize 2*n=C at *;have hlt2:(n:Int)+(k:Int)<(C:Int):=by omega
 have hlt3:((n:Int)+(k:Int)).toNat=n+k:=by omega
 unfold qmH at h1;unfold q0Q at c3 ⊢;clear rO zG fO fG tO tG eH
 go_enter func212,ntmps212
 go_wp2_with fail
 go_big_region
 go_wp2
 go_ret
 exact⟨rfl,rfl⟩
set_option maxHeartbeats 4000000 in
set_option maxRecDepth 1000000 in
theorem qJz(ml dv sb:Op2)(gl:World->Prop)(n:Nat)(hn:n<=16)(F:Nat->Nat->Bs)(vs:Value)(w:World)(hgl:∀w',Below w.heap.size w w'->gl w')(hml:qC2 prog gl 221 ml) (hdv:qC2 prog gl 233 dv) (hsb:qC2 prog gl 165 sb)(hck:∀w',Below w.heap.size w w'->Calls prog 208 #[.agg #[.int .i64 n,.int .i64 n,vs]] w' fun e w''=>e=.returned (.int .i64 0)/\Below w'.heap.size w' w'')(hv:0<n->∃ab ao cap,vs=.slice (some ⟨ab,ao,none⟩) (n*n) cap/\n*n<=cap/\∀i k,i<n->k<n->w.cell? ⟨ab,ao+(i*n+k),none⟩=some (q0Q (F i k)))(fin:RS) (hf:qwt ml dv sb n n (2*n) n ⟨(List.range n).map (row0 F ql5 n),[49],[],0⟩=some fin) (hvs:∃a l c,vs=.slice a l c) :Calls prog 162 #[.agg #[.int .i64 n,.int .i64 n,vs]] w fun e w'=>Below w.heap.size w w' /\((fin.lead.length < n /\ e = .returned (.tuple #[.agg #[.int .i64 0, .int .i64 0, .slice none 0 0], .int .i64 14])) \/(n<=fin.lead.length/\∃v,e=.returned (.tuple #[.agg #[.int .i64 n,.int .i64 n,v],.int .i64 0])/\w'.ownsRow w.heap.size 32 1 v (n*n) ((mkL (fun i k=>q93 fin.Z i (n+k)) n n).map q0Q))):=by
  obtain⟨a0,l0,c0,rfl⟩:=hvs;obtain⟨W0,hW0⟩:∃W0,W0=(w.alloc (.cells #[.int .i64 n,.int .i64 n,.slice a0 l0 c0] 208)).alloc (.cells #[.int .i64 0,.int .i64 0,.slice none 0 0] 208):=⟨_,rfl⟩;have hb0:Below w.heap.size w W0:=by rw[hW0];exact((Below.refl w.heap.size w).alloc (qLy _) _).alloc (by rw[jW];omega) _
  have h1:W0.heap[w.heap.size]?=some (.cells #[.int .i64 n,.int .i64 n,.slice a0 l0 c0] 208 (0,0)):=by rw[hW0];exact qkt w _ _
  have h2:W0.heap[w.heap.size+1]?=some (.cells #[.int .i64 0,.int .i64 0,.slice none 0 0] 208 (0,0)):=by rw[hW0,<-jW w (.cells #[.int .i64 n,.int .i64 n,.slice a0 l0 c0] 208)];exact heap_alloc_new _ _
  have hs0:W0.heap.size=w.heap.size+1+1:=by rw[hW0,jW,jW]
  have keyC:=hck W0 hb0;obtain⟨c10,c11,c12⟩:=q7A h1;have HV:=Lib.hid hv;have HF:=Lib.hid hf;have HG:=Lib.hid hgl;clear hv hf hgl hck
  go_enter func162,ntmps162
  go_wp2_with fail
  rw[<-hW0];refine keyC.mono ?_;rintro e w1 ⟨rfl,hb1⟩;have B1:Below w.heap.size w w1:=hb0.trans (hb1.mono hb0.size);have g1:=(hb1.block _ (qLD.1 h1).1).trans h1;have g2:=(hb1.block _ (qLD.1 h2).1).trans h2;have hs1:w.heap.size+1+1<=w1.heap.size:=by have:=hb1.size;omega
  clear keyC h1 h2 c10 c11 c12 hW0 hb0 hb1 hs0;clear W0;obtain⟨c10,c11,c12⟩:=q7A g1
  go_wp2_with fail
  refine(qIW n hn w1).mono ?_;rintro e w2 ⟨vo,rfl,hb2,hou⟩;obtain⟨ao,no,co,rfl⟩:=q72 hou;have B2:Below w.heap.size w w2:=B1.trans (hb2.mono B1.size);have k1:=(hb2.block _ (qLD.1 g1).1).trans g1;have k2:=(hb2.block _ (qLD.1 g2).1).trans g2;have hs2:w.heap.size+1+1<=w2.heap.size:=by have:=hb2.size;omega
  clear g1 g2 c10 c11 c12;obtain⟨c10,c11,c12⟩:=q7A k1;have HU:=Lib.hid hou;clear hou hb2;have B3:Below w2.heap.size w2 (w2.alloc (.cells #[.int .i64 n,.int .i64 n,.slice ao no co] 208)):=(Below.refl _ w2).alloc (qLy _) _;have l1:=(B3.block _ (qLD.1 k1).1).trans k1;have l2:=(B3.block _ (qLD.1 k2).1).trans k2;obtain⟨d10,d11,d12⟩:=q7A l1
  go_wp2_with fail
  obtain⟨W3,hW3⟩:∃W3,W3=w2.alloc (.cells #[.int .i64 n,.int .i64 n,.slice ao no co] 208):=⟨_,rfl⟩;have m5:W3.heap[w2.heap.size]?=some (.cells #[.int .i64 n,.int .i64 n,.slice ao no co] 208 (0,0)):=by rw[hW3];exact heap_alloc_new _ _
  have hs3:W3.heap.size=w2.heap.size+1:=by rw[hW3,jW]
  rw[<-hW3] at B3 l1 l2 d10 d11 d12 ⊢;clear hW3 c10 c11 c12;have B13:Below w.heap.size w W3:=B2.trans (B3.mono B2.size);have keyE:=qJP ml dv sb gl n hn F ql5 (.slice a0 l0 c0) w2.heap.size w.heap.size W3 (fun w' hw'=>HG.out w' (B13.trans (hw'.mono B13.size))) hml hdv hsb
    (fun h=>by obtain⟨ab,ao,cap,q1,q2,q3⟩:=HV.out h;exact⟨ab,ao,cap,q1,q2,fun i k hi hk=>by rw[B13.cell (qMF w _ (q3 i k hi hk))];exact q3 i k hi hk⟩)
    (fun h=>by
      have ho3:=q1o HU.out B3;obtain⟨g,c,q1,_,_,_⟩:=qgj ho3 (Nat.mul_pos h h);have hcap:n*n<=c:=by
        rcases ho3.2 with⟨z,_⟩|⟨g',cap',cur,z,_,_,z2,_⟩
        · rw[q1] at z;cases z
        · rw[q1] at z;cases z;exact z2
      refine⟨g,c,by rw[<-q1];exact(q7A m5).2.2,hcap,fun i k hi hk=>?_⟩;rw[q1] at ho3;have hik:i*n+k<n*n:=by have:=qLX n (show i+1<=n by omega);rw[qLO] at this;omega
      rw[ho3.cellAt (i*n+k) (by omega),qLH,qzJ ql5 n n i k hi hk];rfl)
    d10 fin HF.out
  refine keyE.mono ?_;rintro e w4 ⟨S,rfl,⟨vR,vL,H,hS⟩,hb4⟩;have B4:Below w.heap.size w w4:=B13.trans (hb4.mono B13.size);have k1:=(hb4.block _ (qLD.1 l1).1).trans l1;have k2:=(hb4.block _ (qLD.1 l2).1).trans l2;have hs4:w2.heap.size+1<=w4.heap.size:=by have:=hb4.size;omega
  have B5:Below w4.heap.size w4 (w4.alloc (.cells #[.pointer (some ⟨S,0,none⟩)] 256)):=(Below.refl _ w4).alloc (qLy _) _;have HS:=Lib.hid (hS.grow B5);have l1:=(B5.block _ (qLD.1 k1).1).trans k1;have l2:=(B5.block _ (qLD.1 k2).1).trans k2;clear keyE HU HV HF HG hS k1 k2 d10 d11 d12 m5;obtain⟨vl0,vlc,rfl⟩:=qBx HS.out.own;obtain⟨d10,d11,d12⟩:=q7A l1;have s3:=HS.out.cell.2.2.2.1
  go_wp2_with fail
  go_big_region
  have B6:Below w4.heap.size w4 (w4.alloc (.cells #[.pointer (some ⟨S,0,none⟩)] 256)).drew:=B5.drew;have n6:=quU w4 (.pointer (some ⟨S,0,none⟩)) 256;have SZ:(w4.alloc (.cells #[.pointer (some ⟨S,0,none⟩)] 256)).heap.size=w4.heap.size+1:=jW _ _;obtain⟨W6,hW6⟩:∃W6,W6=(w4.alloc (.cells #[.pointer (some ⟨S,0,none⟩)] 256)).drew:=⟨_,rfl⟩;have l1:W6.heap[w.heap.size]?=some (.cells #[.int .i64 n,.int .i64 n,.slice a0 l0 c0] 208 (0,0)):=by rw[hW6];exact l1
  have l2:W6.heap[w.heap.size+1]?=some (.cells #[.int .i64 0,.int .i64 0,.slice none 0 0] 208 (0,0)):=by rw[hW6];exact l2
  have n6:W6.cell? ⟨w4.heap.size,0,none⟩=some (.pointer (some ⟨S,0,none⟩)):=by rw[hW6];exact n6
  have SZ:W6.heap.size=w4.heap.size+1:=by rw[hW6];exact SZ
  have HS:=Lib.hid (HS.out.grow (Below.refl _ _).drew);rw[<-hW6] at B6 HS ⊢;clear hW6 B5 d10 d11 d12 s3;have B7:Below w.heap.size w W6:=B4.trans (B6.mono B4.size);obtain⟨d10,d11,d12⟩:=q7A l1;obtain⟨d20,d21,d22⟩:=q7A l2;have f20:=frozen_of_row W6 (w.heap.size+1) 0 _ 208 l2;have f21:=frozen_of_row W6 (w.heap.size+1) 1 _ 208 l2;have f22:=frozen_of_row W6 (w.heap.size+1) 2 _ 208 l2;have hle:w.heap.size<=w.heap.size+1:=by omega
  by_cases hl:fin.lead.length<n
  · have hl2:((fin.lead.length:Int)<(n:Int)):=by omega
    go_wp2_with fail
    refine bodyPost_ret (by simp[results,results162,go_sem, *];try rfl) rfl ?_;exact⟨((B7.setCell (p:=⟨w.heap.size+1,0,none⟩) hle _).setCell (p:=⟨w.heap.size+1,1,none⟩) hle _).setCell (p:=⟨w.heap.size+1,2,none⟩) hle _,.inl ⟨hl,rfl⟩⟩
  · have hl2:¬((fin.lead.length:Int)<(n:Int)):=by omega
    have keyM:=qD8 212 (kd func212 (by kernel_rfl) (by kernel_rfl)) #[.pointer (some ⟨w4.heap.size,0,none⟩),.pointer (some ⟨w.heap.size,0,none⟩)] n n hn hn (fun i k=>q93 fin.Z i (n+k)) W6 (fun i k w' hi hk hb =>
      (qLf w4.heap.size w.heap.size S n w' (by rw[hb.cell (qMF W6 _ n6)];exact n6) (by rw[hb.cell (qMF W6 _ d11)];exact d11) (HS.out.grow hb) hn i k hi hk).mono
        fun e w'' h=>⟨h.1,by rw[h.2];exact(Below.refl _ _).drew⟩)
    go_wp2_with fail
    refine keyM.mono ?_;rintro e w7 ⟨v,rfl,hb7,ho7⟩;obtain⟨a7,n7,c7,rfl⟩:=q72 ho7;have q2:=(hb7.block _ (qLD.1 l2).1).trans l2;obtain⟨e20,e21,e22⟩:=q7A q2;have f20:=frozen_of_row w7 (w.heap.size+1) 0 _ 208 q2;have f21:=frozen_of_row w7 (w.heap.size+1) 1 _ 208 q2;have f22:=frozen_of_row w7 (w.heap.size+1) 2 _ 208 q2;clear keyM d10 d11 d12 d20 d21 d22
    go_wp2_with fail
    refine bodyPost_ret (by simp[results,results162,go_sem, *];try rfl) rfl ?_;have hn0:(Value.slice a7 n7 c7).ownBlock≠some (w.heap.size+1):=fun hv=>by obtain⟨c',hc'⟩:=zQ ho7 hv;exact qcC q2 hc' (by decide) rfl
    exact⟨(((B7.trans (hb7.mono B7.size)).setCell (p:=⟨w.heap.size+1,0,none⟩) hle _).setCell (p:=⟨w.heap.size+1,1,none⟩) hle _).setCell (p:=⟨w.heap.size+1,2,none⟩) hle _,
      .inr ⟨by omega,_,rfl,qU (qU (qU (q6a ho7 B7.size) hn0 _) hn0 _) hn0 _⟩⟩
end Go.Eng

namespace Go.Eng
open Go.RowKit Go.Proofs
open Tryz
def qJ1(t:TR):Bool:=match t.run with
 | some (0,[.i e])=>decide (e=0)
 | _=>false
theorem qGb{t:TR}(h:qJ1 t=true):t.run=some (0,[.i 0]):=by
 unfold qJ1 at h;split at h
 ·rename_i e he;have:e=0:=by simpa using h
  subst this;exact he
 ·cases h
def qJ0(ck ml dv sb:List PV->TR):List PV->TR
 | [.i r,.i c,.r l]=>if r=c/\0<=r/\r<=16/\l.length=r.toNat*r.toNat/\qJ1 (ck [.i r,.i c,.r l])=true then
   (match qwt (opF ml) (opF dv) (opF sb) r.toNat r.toNat (2*r.toNat) r.toNat ⟨(List.range r.toNat).map (row0 (fun i k=>cS l ((i*r.toNat+k:Nat):Int) 0) ql5 r.toNat),[49],[],0⟩ with
   | some fin=>if fin.lead.length<r.toNat then .leaf (0,[.i 0,.i 0,.r [],.i 14]) else .leaf (0,[.i r,.i r,.r ((mkL (fun i k=>q93 fin.Z i (r.toNat+k)) r.toNat r.toNat).map fun x=>[.s x]),.i 0])
   | none=>.fail) else .fail
 | _=>.fail
theorem qCL{ps:List PV}(h:ps.map PV.kind=[.i,.i,.r]):∃a b c,ps=[.i a,.i b,.r c]:=by
 match ps,h with
 | [.i a,.i b,.r c],_=>exact⟨a,b,c,rfl⟩
theorem qGr{T:List PV->TR}{a b:Int}{l:R}(h:(T [.i a,.i b,.r l]).run=some (0,[.i 0])) :(q9 ⟨[.agg [.int .i64,.int .i64,.imm [.str]]],[]⟩ [⟨.int .i64,[],none⟩] T [.agg [.int .i64 a,.int .i64 b,.imm [.str] l]] []).run=some (.int .i64 0,[]):=by unfold q9;have ht:(FIn.mk [.agg [.int .i64,.int .i64,.imm [.str]]] []).take [.agg [.int .i64 a,.int .i64 b,.imm [.str] l]] []=some [.i a,.i b,.r l]:=rfl;rw[ht];simp only[Tree.run,okR,h,qNQ];simp[qFe,FOut.kinds,AP.kinds,BP.kindsL,qmw,gI,pR,h,PV.toI,FOut.make,AP.make,BP.makeL,Tree.run]
theorem qBn{w:World}{B:Nat}{e:TypeId}{M:Nat->Prop}{v:Value}{n:Nat}{xs:List Bs}(h:w.ownsRow B e 1 v n (xs.map q0Q))(hM:∀b,v.ownBlock=some b->M b):qfP w M [.str] (xs.map fun x=>[U.s x]) v:=by
 have hl:xs.length=n:=by have:=h.1;rw[qLE] at this;omega
 rcases h.2 with⟨rfl,h0⟩|⟨g,cap,cur,rfl,_,_,hc,_⟩
 ·exact .inl ⟨rfl,qN3 (by rw[qLE];omega)⟩
 ·refine .inr ⟨⟨g,0,none⟩,cap,by rw[qLE,hl],fun _=>rfl,by rw[qLE,hl];exact hc,fun r j hj hr=>?_⟩;have hj0:j=0:=by simp at hj;exact hj
  subst hj0;rw[qLE] at hr;refine⟨hM g rfl,q0Q xs[r],?_,?_⟩
  ·have:=h.cellAt r (by omega);rw[qLH,qLB hr] at this;simpa using this
  ·have:RepU w M .str (U.s xs[r]) (q0Q xs[r]):=.str (U.s xs[r]);have e:we (xs.map fun x=>[U.s x]) (r:Int) 0=U.s xs[r]:=by simp[we,hr]
   rw[e];exact this
theorem qFH{X:Ctx}{a b:Int}{l:R}{vargs:List Value}(h:RepL X [.agg [.int .i64 a,.int .i64 b,.imm [.str] l]] vargs):∃v,vargs=[.agg #[.int .i64 a,.int .i64 b,v]]/\qfP X.w X.M [.str] l v:=by
 cases h with
 | cons h1 t=>
  cases t;cases h1 with
  | agg _ vs h2=>
   cases h2 with
   | cons q1 t1=>
    cases q1;cases t1 with
    | cons q2 t2=>
     cases q2;cases t2 with
     | cons q3 t3=>
      cases t3;cases q3 with
      | imm _ _ _ hv=>exact⟨_,rfl,hv⟩
theorem qEC{gl:List (Nat×AV)}{ck ml dv sb:List PV->TR}(hck:zb prog gl 208 (q9 ⟨[.agg [.int .i64,.int .i64,.imm [.str]]],[]⟩ [⟨.int .i64,[],none⟩] ck))(hml:zb prog gl 221 (q9 ⟨[.str,.str],[]⟩ [⟨.tuple [.str,.int .i64],[],none⟩] ml)) (hdv:zb prog gl 233 (q9 ⟨[.str,.str],[]⟩ [⟨.tuple [.str,.int .i64],[],none⟩] dv))(hsb:zb prog gl 165 (q9 ⟨[.str,.str],[]⟩ [⟨.tuple [.str,.int .i64],[],none⟩] sb)) :zb prog gl 162 (q9 ⟨[.agg [.int .i64,.int .i64,.imm [.str]]],[]⟩ [⟨.tuple [.agg [.int .i64,.int .i64,.imm [.str]],.int .i64],[],none⟩] (qJ0 ck ml dv sb)):=by
 refine qDo (kd func162 (by kernel_rfl) (by kernel_rfl)) rfl fun B X ps j qs vargs hs hgl hX ha hk hT=>?_;obtain⟨r,c,l,rfl⟩:=qCL hk;have ha:RepL X [.agg [.int .i64 r,.int .i64 c,.imm [.str] l]] vargs:=ha;simp only[qJ0] at hT;split at hT
 ·rename_i hc;obtain⟨rfl,hr0,hr16,hl,hok⟩:=hc;obtain⟨n,rfl⟩:∃n:Nat,r=(n:Int):=⟨r.toNat,by omega⟩;rw[qLG] at hT hl;split at hT
  ·rename_i fin hf;obtain⟨v,rfl,hv⟩:=qFH ha;have hgY:∀w',Below X.w.heap.size X.w w'->q3d gl (qGh w' X.y):=fun w' hb=>qLi hs hX hgl hb;have op:∀{f:FuncId} {T:List PV->TR},zb prog gl f (q9 ⟨[.str,.str],[]⟩ [⟨.tuple [.str,.int .i64],[],none⟩] T)->qC2 prog (fun w'=>Below X.w.heap.size X.w w') f (opF T):=
    fun hT w' hb a b r h=>qD6 hT (hgY w' hb) h
   have key:=qJz (opF ml) (opF dv) (opF sb) (fun w'=>Below X.w.heap.size X.w w') n (by omega) (fun i k=>cS l ((i*n+k:Nat):Int) 0) v X.w (fun _ h=>h) (op hml) (op hdv) (op hsb)
    (fun w' hb=>by
     have m:=qJK hs hX hb;refine(qxA hck (hgY w' hb) (args:=[.agg [.int .i64 n,.int .i64 n,.imm [.str] l]]) (vargs:=[.agg #[.int .i64 n,.int .i64 n,v]]) ?_ (qGr (qGb hok))).mono ?_
     ·exact ha.ext0 m
     ·rintro e w'' ⟨u,X',rfl,rfl,hu,_,_,hb'⟩;cases hu;exact⟨rfl,hb'⟩)
    (fun hn=>by
     rcases hv with⟨_,h0⟩|⟨a,cap,rfl,hsp,hcap,hrows⟩
     ·rw[h0] at hl;have:=Nat.mul_pos hn hn;simp at hl;omega
     ·have hpos:0<l.length:=by rw[hl];exact Nat.mul_pos hn hn
      obtain⟨ab,ao,sp⟩:=a;have:sp=none:=hsp hpos;subst this;refine⟨ab,ao,cap,by rw[hl],by omega,fun i k hi hk=>?_⟩;have hik:i*n+k<l.length:=by have:=qLX n (show i+1<=n by omega);rw[qLO] at this;omega
      obtain⟨_,u,q1,q2⟩:=hrows (i*n+k) 0 (by simp) hik;cases q2;simp only[List.length_singleton,qNe,qMo] at q1;rw[q1];rfl)
    fin hf (by
     rcases hv with⟨rfl,_⟩|⟨a,cap,rfl,_⟩
     ·exact⟨_,_,_,rfl⟩
     ·exact⟨_,_,_,rfl⟩)
   split at hT
   ·rename_i hlt;cases hT;refine⟨rfl,rfl,key.mono ?_⟩;rintro e w' ⟨hb,⟨_,rfl⟩|⟨h,_⟩⟩
    ·refine⟨_,X.M,rfl,hb,fun _ h=>h,fun _ h=>.inl h,?_⟩;exact .tuple _ [_,_] (.cons (.agg _ [_,_,_] (.cons (.int _ _) (.cons (.int _ _) (.cons (.imm _ _ _ (.inl ⟨rfl,rfl⟩)) .nil)))) (.cons (.int _ _) .nil))
    ·omega
   ·rename_i hge;cases hT;refine⟨rfl,rfl,key.mono ?_⟩;rintro e w' ⟨hb,⟨h,_⟩|⟨_,u,rfl,ho⟩⟩
    ·exact absurd h hge
    ·refine⟨_,fun m=>X.M m\/u.ownBlock=some m,rfl,hb,fun _ h=>.inl h,fun m h=>?_,?_⟩
     ·rcases h with h|h
      ·exact .inl h
      ·exact .inr (ho.lt m h)
     ·exact .tuple _ [_,_] (.cons (.agg _ [_,_,_] (.cons (.int _ _) (.cons (.int _ _) (.cons (.imm _ _ _ (qBn ho fun b hb=>.inr hb)) .nil)))) (.cons (.int _ _) .nil))
  ·cases hT
 ·cases hT
end Go.Eng

namespace Go.Eng
open Go.Proofs
open Tryz
noncomputable def qah:List (TypeId×TI):=[(1,(.mk .func 1 [.nilFunc] 8 false false)),(2,(.mk (.int .i64) 1 [(.int .i64 0)] 8 false false)),(3,(.mk (.int .i64) 1 [(.int .i64 0)] 8 false false)),(4,(.mk .bool 1 [(.bool false)] 1 false false)),(5,(.mk (.int .u8) 1 [(.int .u8 0)] 1 false false)),(6,(.mk (.int .u8) 1 [(.int .u8 0)] 1 false false)),(8,(.mk (.struct [(0,(2,1)),(1,(3,1)),(2,(4,1)),(3,(6,1))]) 4 [(.int .i64 0),(.int .i64 0),(.bool false),(.int .u8 0)] 24 true true)),(9,(.mk .str 1 [(.string (.mk (.mk [])))] 16 false false)),(10,(.mk .str 1 [(.string (.mk (.mk [])))] 16 false false)),(11,(.mk .str 1 [(.string (.mk (.mk [])))] 16 false false)),(12,(.mk (.int .u64) 1 [(.int .u64 0)] 8 false false)),(13,(.mk (.struct [(0,(9,1)),(1,(12,1))]) 2 [(.string (.mk (.mk []))),(.int .u64 0)] 24 false true)),(14,(.mk (.struct [(0,(9,1)),(1,(12,1))]) 2 [(.string (.mk (.mk []))),(.int .u64 0)] 24 false true)),(16,(.mk (.ptr 362) 1 [(.pointer .none)] 8 false false)),(17,(.mk (.ptr 370) 1 [(.pointer .none)] 8 false false)),(18,(.mk (.struct [(0,(17,1))]) 1 [(.pointer .none)] 8 false true)),(22,(.mk (.slice 28 2) 1 [(.slice .none 0 0)] 24 false false)),(23,(.mk (.slice 29 1) 1 [(.slice .none 0 0)] 24 false false)),(26,(.mk (.slice 31 3) 1 [(.slice .none 0 0)] 24 false false)),(28,(.mk (.struct [(0,(3,1)),(1,(3,1))]) 2 [(.int .i64 0),(.int .i64 0)] 16 true true)),(29,(.mk (.int .i8) 1 [(.int .i8 0)] 1 false false)),(30,(.mk (.struct [(0,(3,1)),(1,(3,1)),(2,(3,1))]) 3 [(.int .i64 0),(.int .i64 0),(.int .i64 0)] 24 true true)),(31,(.mk (.struct [(0,(3,1)),(1,(3,1)),(2,(3,1))]) 3 [(.int .i64 0),(.int .i64 0),(.int .i64 0)] 24 true true)),(32,(.mk .str 1 [(.string (.mk (.mk [])))] 16 false false)),(34,(.mk (.struct [(0,(32,1)),(1,(32,1))]) 2 [(.string (.mk (.mk []))),(.string (.mk (.mk [])))] 32 true true)),(35,(.mk (.slice 3 1) 1 [(.slice .none 0 0)] 24 false false)),(36,(.mk (.int .i64) 1 [(.int .i64 0)] 8 false false)),(39,(.mk (.array 3 32 1) 3 [(.string (.mk (.mk []))),(.string (.mk (.mk []))),(.string (.mk (.mk [])))] 48 false false)),(42,(.mk (.slice 35 1) 1 [(.slice .none 0 0)] 24 false false)),(45,(.mk .func 1 [.nilFunc] 8 false false)),(46,(.mk .func 1 [.nilFunc] 8 false false)),(47,(.mk .func 1 [.nilFunc] 8 false false)),(48,(.mk .func 1 [.nilFunc] 8 false false)),(50,(.mk .func 1 [.nilFunc] 8 false false)),(52,(.mk .func 1 [.nilFunc] 8 false false)),(54,(.mk .func 1 [.nilFunc] 8 false false)),(55,(.mk .func 1 [.nilFunc] 8 false false)),(56,(.mk (.struct [(0,(39,3)),(3,(32,1)),(4,(35,1))]) 5 [(.string (.mk (.mk []))),(.string (.mk (.mk []))),(.string (.mk (.mk []))),(.string (.mk (.mk []))),(.slice .none 0 0)] 88 true true)),(57,(.mk (.struct [(0,(39,3)),(3,(32,1)),(4,(35,1))]) 5 [(.string (.mk (.mk []))),(.string (.mk (.mk []))),(.string (.mk (.mk []))),(.string (.mk (.mk []))),(.slice .none 0 0)] 88 true true)),(58,(.mk .func 1 [.nilFunc] 8 false false)),(64,(.mk .func 1 [.nilFunc] 8 false false)),(77,(.mk .func 1 [.nilFunc] 8 false false)),(84,(.mk .func 1 [.nilFunc] 8 false false)),(87,(.mk (.slice 32 1) 1 [(.slice .none 0 0)] 24 false false)),(88,(.mk .func 1 [.nilFunc] 8 false false)),(93,(.mk .func 1 [.nilFunc] 8 false false)),(94,(.mk (.slice 96 3) 1 [(.slice .none 0 0)] 24 false false)),(96,(.mk (.struct [(0,(34,2)),(2,(32,1))]) 3 [(.string (.mk (.mk []))),(.string (.mk (.mk []))),(.string (.mk (.mk [])))] 48 true true)),(97,(.mk .func 1 [.nilFunc] 8 false false)),(99,(.mk (.struct [(0,(3,1)),(1,(3,1)),(2,(3,1))]) 3 [(.int .i64 0),(.int .i64 0),(.int .i64 0)] 24 true true)),(101,(.mk .func 1 [.nilFunc] 8 false false)),(105,(.mk (.int .u16) 1 [(.int .u16 0)] 2 false false)),(108,(.mk .func 1 [.nilFunc] 8 false false)),(109,(.mk .func 1 [.nilFunc] 8 false false)),(110,(.mk .func 1 [.nilFunc] 8 false false)),(112,(.mk (.struct [(0,(39,3)),(3,(32,1)),(4,(87,1))]) 5 [(.string (.mk (.mk []))),(.string (.mk (.mk []))),(.string (.mk (.mk []))),(.string (.mk (.mk []))),(.slice .none 0 0)] 88 true true)),(115,(.mk .func 1 [.nilFunc] 8 false false)),(116,(.mk .func 1 [.nilFunc] 8 false false)),(117,(.mk .str 1 [(.string (.mk (.mk [])))] 16 false false)),(120,(.mk .func 1 [.nilFunc] 8 false false)),(121,(.mk .func 1 [.nilFunc] 8 false false)),(123,(.mk (.slice 117 1) 1 [(.slice .none 0 0)] 24 false false)),(139,(.mk (.ptr 141) 1 [(.pointer .none)] 8 false false)),(141,(.mk (.struct [(0,(36,1))]) 1 [(.int .i64 0)] 8 true true)),(146,(.mk (.array 3 3 1) 3 [(.int .i64 0),(.int .i64 0),(.int .i64 0)] 24 false false)),(153,(.mk (.ptr 155) 1 [(.pointer .none)] 8 false false)),(155,(.mk (.struct [(0,(36,1))]) 1 [(.int .i64 0)] 8 true true)),(161,(.mk .func 1 [.nilFunc] 8 false false)),(163,(.mk .func 1 [.nilFunc] 8 false false)),(164,(.mk .func 1 [.nilFunc] 8 false false)),(182,(.mk .func 1 [.nilFunc] 8 false false)),(183,(.mk .func 1 [.nilFunc] 8 false false)),(188,(.mk (.slice 5 1) 1 [(.slice .none 0 0)] 24 false false)),(191,(.mk .func 1 [.nilFunc] 8 false false)),(192,(.mk .func 1 [.nilFunc] 8 false false)),(200,(.mk .func 1 [.nilFunc] 8 false false)),(208,(.mk (.struct [(0,(3,1)),(1,(3,1)),(2,(87,1))]) 3 [(.int .i64 0),(.int .i64 0),(.slice .none 0 0)] 40 true true)),(216,(.mk .func 1 [.nilFunc] 8 false false)),(220,(.mk (.slice 87 1) 1 [(.slice .none 0 0)] 24 false false)),(227,(.mk (.ptr 244) 1 [(.pointer .none)] 8 false false)),(233,(.mk .func 1 [.nilFunc] 8 false false)),(235,(.mk (.struct [(0,(34,2)),(2,(34,2)),(4,(32,1))]) 5 [(.string (.mk (.mk []))),(.string (.mk (.mk []))),(.string (.mk (.mk []))),(.string (.mk (.mk []))),(.string (.mk (.mk [])))] 80 true true)),(239,(.mk .func 1 [.nilFunc] 8 false false)),(242,(.mk (.array 232 3 1) 232 (List.replicate 232 (.int .i64 0)) 1856 false false)),(244,(.mk (.struct [(0,(4,1)),(1,(3,1)),(2,(242,232))]) 234 (List.append [(.bool false)] (List.replicate 233 (.int .i64 0))) 1872 true true)),(261,(.mk (.struct [(0,(36,1))]) 1 [(.int .i64 0)] 8 true true)),(265,(.mk (.ptr 261) 1 [(.pointer .none)] 8 false false)),(302,(.mk .func 1 [.nilFunc] 8 false false)),(311,(.mk .func 1 [.nilFunc] 8 false false)),(312,(.mk (.ptr 5) 1 [(.pointer .none)] 8 false false)),(314,(.mk (.int .u32) 1 [(.int .u32 0)] 4 false false)),(329,(.mk (.int .u64) 1 [(.int .u64 0)] 8 false false)),(352,(.mk (.array 20 329 1) 20 [(.int .u64 0),(.int .u64 0),(.int .u64 0),(.int .u64 0),(.int .u64 0),(.int .u64 0),(.int .u64 0),(.int .u64 0),(.int .u64 0),(.int .u64 0),(.int .u64 0),(.int .u64 0),(.int .u64 0),(.int .u64 0),(.int .u64 0),(.int .u64 0),(.int .u64 0),(.int .u64 0),(.int .u64 0),(.int .u64 0)] 160 false false)),(360,(.mk (.array 0 16 1) 0 [] 0 false false)),(362,(.mk (.struct [(0,(360,0))]) 0 [] 0 false true)),(364,(.mk (.int .u8) 1 [(.int .u8 0)] 1 false false)),(365,(.mk (.int .u8) 1 [(.int .u8 0)] 1 false false)),(366,(.mk .func 1 [.nilFunc] 8 false false)),(367,(.mk (.int .i32) 1 [(.int .i32 0)] 4 false false)),(368,(.mk (.int .i32) 1 [(.int .i32 0)] 4 false false)),(370,(.mk (.struct [(0,(12,1)),(1,(12,1)),(2,(314,1)),(3,(364,1)),(4,(5,1)),(5,(5,1)),(6,(365,1)),(7,(366,1)),(8,(312,1)),(9,(367,1)),(10,(368,1))]) 11 [(.int .u64 0),(.int .u64 0),(.int .u32 0),(.int .u8 0),(.int .u8 0),(.int .u8 0),(.int .u8 0),.nilFunc,(.pointer .none),(.int .i32 0),(.int .i32 0)] 48 false true))]
noncomputable def qa:List (Nat×AV):=[(5,(.eptr [.int .u64,.int .u64,.int .u64,.int .u64,.int .u64,.int .u64,.int .u64,.int .u64,.int .u64,.int .u64,.int .u64,.int .u64,.int .u64,.int .u64,.int .u64,.int .u64,.int .u64,.int .u64,.int .u64,.int .u64] [[.i 1,.i 10,.i 100,.i 1000,.i 10000,.i 100000,.i 1000000,.i 10000000,.i 100000000,.i 1000000000,.i 10000000000,.i 100000000000,.i 1000000000000,.i 10000000000000,.i 100000000000000,.i 1000000000000000,.i 10000000000000000,.i 100000000000000000,.i 1000000000000000000,.i 10000000000000000000]] 0 0))]
theorem q8:qah.map (fun x=>qyb prog x.1)=qah.map (·.2):=by kernel_rfl
theorem qc:prog.follows .mixedOrders=true:=by kernel_rfl
noncomputable def qe(s:List (FuncId×(List AV->List Blk->Tree (AV×List Blk))))(b:List (FuncId×Func))(l:List ((FuncId×Nat)×(St->Tree (Ex×St))))(n:Nat):Env:=⟨qah,qa,s,b,l,n,[],[],[]⟩
def kX:FIn:=⟨[(.agg [(.int .i64),(.int .i64)])],[]⟩
def q06:List FOut:=[⟨.bool,[],none⟩]
noncomputable def qcY:=qe [] [(64,f64)] [] 0
noncomputable def jk:=qt qcY 64 f64 true kX q06
theorem q38:zb prog qa 64 (q9 kX q06 jk):=sk qcY qc q8 aln aln (b1 func64) func64
def qS:FIn:=⟨[(.imm [(.int .i64),(.int .i64)]),(.fn 64 [] [])],[]⟩
def qP:List FOut:=[⟨.bool,[],none⟩]
def qH:Tmpl:={ t:=((.imm [(.int .i64),(.int .i64)])::(.fn 64 [] [])::qx 5 ((.int .i64)::(.int .i64)::qx 10 [])),h:=[],fs:=[[(.imm [(.int .i64),(.int .i64)]),(.fn 64 [] []),.any,.any,(.blit false),(.imm [(.int .i64),(.int .i64)]),(.fn 64 [] []),.any,.any],[]] }
def qG:List Out:=[⟨(.exit 0),{ t:=(qx 19 []),h:=[],fs:=[[(.imm [(.int .i64),(.int .i64)]),(.fn 64 [] []),.any,.any,(.blit false),(.imm [(.int .i64),(.int .i64)]),(.fn 64 [] []),.any,.any],[]] }⟩,⟨.ret,{ t:=(qx 4 ((.int .i64)::qx 14 [])),h:=[],fs:=[[(.imm [(.int .i64),(.int .i64)]),(.fn 64 [] []),.any,.any,(.blit false),(.imm [(.int .i64),(.int .i64)]),(.fn 64 [] []),.any,.any],[]] }⟩]
noncomputable def qv:=qe [(64,q9 kX q06 jk)] [(51,f51),(100,f100)] [] 0
noncomputable def qg:=wj qv 100 f100 3 qH qG
theorem wE:qm prog qa qv.nimp (qC prog qv.iter 100) (zo f100 3) (qk qH qG (qf qg)):=gk qv qc q8 (alc q38 aln) aln (alc (bk func51) (alc (bk func100) aln)) func100
noncomputable def zB:=qe [(64,q9 kX q06 jk)] [(51,f51),(100,f100)] [((100,3),qk qH qG (qf qg))] 0
noncomputable def qp:=qt zB 51 f51 true qS qP
theorem vt:zb prog qa 51 (q9 qS qP qp):=sk zB qc q8 (alc q38 aln) (alc (lk func100 wE) aln) (alc (bk func51) (alc (bk func100) aln)) func51
def q9X:FIn:=⟨[(.imm [(.int .i64),(.int .i64)])],[]⟩
def qaa:List FOut:=[⟨.bool,[],none⟩]
noncomputable def qgZ:=qe [(64,q9 kX q06 jk),(51,q9 qS qP qp)] [(14,f14)] [] 0
noncomputable def kM:=qt qgZ 14 f14 true q9X qaa
theorem qlI:zb prog qa 14 (q9 q9X qaa kM):=sk qgZ qc q8 (alc q38 (alc vt aln)) aln (b1 func14) func14
def q6G:FIn:=⟨[(.int .i64)],[]⟩
def q73:List FOut:=[⟨.bool,[],none⟩]
noncomputable def qhX:=qe [] [(200,f200)] [] 0
noncomputable def zu:=qt qhX 200 f200 true q6G q73
theorem qdo:zb prog qa 200 (q9 q6G q73 zu):=sk qhX qc q8 aln aln (b1 func200) func200
def q3P:FIn:=⟨[(.agg [(.int .i64),(.int .i64)])],[]⟩
def q3Z:List FOut:=[⟨.bool,[],none⟩]
noncomputable def qno:=qe [(200,q9 q6G q73 zu)] [(148,f148)] [] 0
noncomputable def kS:=qt qno 148 f148 true q3P q3Z
theorem q5C:zb prog qa 148 (q9 q3P q3Z kS):=sk qno qc q8 (alc qdo aln) aln (b1 func148) func148
def q2D:FIn:=⟨[(.fn 148 [] []),(.imm [(.int .i64),(.int .i64)])],[]⟩
def q2z:List FOut:=[⟨(.int .i64),[],none⟩]
def q0V:Tmpl:={ t:=((.fn 148 [] [])::qx 6 ((.imm [(.int .i64),(.int .i64)])::(.int .i64)::(.int .i64)::qx 8 [])),h:=[] }
def q17:List Out:=[⟨(.exit 0),{ t:=(qx 18 []),h:=[] }⟩,⟨.ret,{ t:=(qx 4 ((.int .i64)::qx 13 [])),h:=[] }⟩]
noncomputable def yL:=qe [(148,q9 q3P q3Z kS)] [(199,f199)] [] 0
noncomputable def zS:=wj yL 199 f199 3 q0V q17
theorem qbW:qm prog qa yL.nimp (qC prog yL.iter 199) (zo f199 3) (qk q0V q17 (qf zS)):=gk yL qc q8 (alc q5C aln) aln (b1 func199) func199
noncomputable def q7Q:=qe [(148,q9 q3P q3Z kS)] [(199,f199)] [((199,3),qk q0V q17 (qf zS))] 0
noncomputable def jO:=qt q7Q 199 f199 true q2D q2z
theorem qdT:zb prog qa 199 (q9 q2D q2z jO):=sk q7Q qc q8 (alc q5C aln) (alc (lk func199 qbW) aln) (b1 func199) func199
def kw:FIn:=⟨[(.imm [(.int .i64),(.int .i64)]),(.fn 148 [] [])],[]⟩
def kC:List FOut:=[⟨(.int .i64),[],none⟩]
noncomputable def q4i:=qe [(148,q9 q3P q3Z kS),(199,q9 q2D q2z jO)] [(147,f147)] [] 0
noncomputable def wV:=qt q4i 147 f147 true kw kC
theorem qa0:zb prog qa 147 (q9 kw kC wV):=sk q4i qc q8 (alc q5C (alc qdT aln)) aln (b1 func147) func147
def qe0:FIn:=⟨[(.imm [(.int .i64),(.int .i64)])],[]⟩
def qex:List FOut:=[⟨(.int .i64),[],none⟩]
noncomputable def qkg:=qe [(147,q9 kw kC wV),(148,q9 q3P q3Z kS)] [(111,f111)] [] 0
noncomputable def q4L:=qt qkg 111 f111 true qe0 qex
theorem qod:zb prog qa 111 (q9 qe0 qex q4L):=sk qkg qc q8 (alc qa0 (alc q5C aln)) aln (b1 func111) func111
def q8T:FIn:=⟨[(.int .i64)],[]⟩
def q8S:List FOut:=[⟨(.int .i64),[],none⟩]
noncomputable def qk9:=qe [] [(112,f112)] [] 0
noncomputable def q0i:=qt qk9 112 f112 true q8T q8S
theorem qeZ:zb prog qa 112 (q9 q8T q8S q0i):=sk qk9 qc q8 aln aln (b1 func112) func112
def q5h:FIn:=⟨[(.imm [(.int .i64),(.int .i64)])],[]⟩
def q4W:List FOut:=[⟨(.int .i64),[],none⟩]
noncomputable def qk2:=qe [(111,q9 qe0 qex q4L),(112,q9 q8T q8S q0i)] [(65,f65)] [] 0
noncomputable def yg:=qt qk2 65 f65 true q5h q4W
theorem q8A:zb prog qa 65 (q9 q5h q4W yg):=sk qk2 qc q8 (alc qod (alc qeZ aln)) aln (b1 func65) func65
def q2v:FIn:=⟨[(.imm [(.int .i64)])],[]⟩
def q2E:List FOut:=[⟨(.vec 0),[.vec 3 [(.int .i64)]],none⟩]
noncomputable def qhw:=qe [] [(150,f150)] [] 0
noncomputable abbrev q6l:=q2v
noncomputable abbrev q6d:=q2E
noncomputable abbrev q6e:=qhw
noncomputable def q6o:=qt q6e 150 f150 false q6l q6d
theorem qbw:zb prog qa 150 (q9 q6l q6d q6o):=ql9 (E:=q6e) qc ⟨q4e q8,⟨aln,aln⟩,aln,(b1 func150)⟩ func150 (by kernel_rfl) (by kernel_rfl) (fun _=>rfl)
theorem qef(x0:R):q6o [.r x0]=(.br (ilt 0 (qh x0)) (.br (ile ((qh [])+(qh x0)) 17592186044416) (.leaf (0,[(.r (wL [] x0))])) .fail) .fail):=by kernel_rfl
def qf9:Go.Shelf.Ren:=⟨fun|41=>150|n=>n,fun|4=>4|22=>35|23=>3|n=>n,fun n=>n⟩
noncomputable def vg:=qEn
theorem qdS:zb prog qa 150 (q9 q2v q2E vg):=qCd (ρ:=qf9) ⟨by kernel_rfl,⟨ "slices.Clone[[]int,int]",by decide,func150.trans (congrArg some (by kernel_rfl))⟩,underlying4,isAgg4,sizeOf4,zeroValue4,underlying35,isAgg35,sizeOf35,zeroValue35,underlying3,isAgg3,sizeOf3,zeroValue3,by kernel_rfl⟩ qbw (qGs qef)
def vP:FIn:=⟨[(.agg [(.int .i64),(.int .i64),(.int .i64)])],[]⟩
def vZ:List FOut:=[⟨(.agg [(.int .i64),(.int .i64),(.int .i64)]),[],none⟩]
noncomputable def q9n:=qe [] [(166,f166)] [] 0
noncomputable def qY:=qt q9n 166 f166 true vP vZ
theorem yO:zb prog qa 166 (q9 vP vZ qY):=sk q9n qc q8 aln aln (b1 func166) func166
def qfn:FIn:=⟨[(.agg [(.int .i64),(.int .i64),(.int .i64)]),(.agg [(.int .i64),(.int .i64),(.int .i64)]),(.agg [(.int .i64),(.int .i64),(.int .i64)])],[]⟩
def qgb:List FOut:=[⟨(.int .i64),[],none⟩]
def qbt:Tmpl:={ t:=(qx 7 ((.ptr 3 0)::(.ptr 4 0)::(.ptr 5 0)::(.int .i64)::qx 7 ((.int .i64)::qx 21 []))),h:=[.dead,.dead,.dead,.cells [(.int .i64),(.int .i64),(.int .i64)],.cells [(.int .i64),(.int .i64),(.int .i64)],.cells [(.int .i64),(.int .i64),(.int .i64)]] }
def qce:List Out:=[⟨(.exit 0),{ t:=(qx 10 ((.int .i64)::qx 29 [])),h:=[] }⟩]
noncomputable def q6T:=qe [(166,q9 vP vZ qY)] [(159,f159)] [] 0
noncomputable def q1g:=wj q6T 159 f159 5 qbt qce
theorem qmt:qm prog qa q6T.nimp (qC prog q6T.iter 159) (zo f159 5) (qk qbt qce (qf q1g)):=gk q6T qc q8 (alc yO aln) aln (b1 func159) func159
noncomputable def qml:=qe [(166,q9 vP vZ qY)] [(159,f159)] [((159,5),qk qbt qce (qf q1g))] 0
noncomputable def q1B:=qt qml 159 f159 true qfn qgb
theorem qq2:zb prog qa 159 (q9 qfn qgb q1B):=sk qml qc q8 (alc yO aln) (alc (lk func159 qmt) aln) (b1 func159) func159
def qk6:FIn:=⟨[(.int .i64)],[]⟩
def qkB:List FOut:=[⟨.str,[],none⟩]
noncomputable def q58:List PV->TR:=qDx
set_option maxRecDepth 100000 in
theorem qoJ:zb prog qa 242 (q9 qk6 qkB q58):=qBi laysM171 (kd func242 (by kernel_rfl) (by kernel_rfl)) (by kernel_rfl) (by unfold qa;exact qLS)
def qbo:FIn:=⟨[(.int .i64)],[]⟩
def qbl:List FOut:=[⟨.str,[],none⟩]
noncomputable def quC:=qe [(242,q9 qk6 qkB q58)] [(194,f194)] [] 0
noncomputable def vj:=qt quC 194 f194 true qbo qbl
theorem qaE:zb prog qa 194 (q9 qbo qbl vj):=sk quC qc q8 (alc qoJ aln) aln (b1 func194) func194
def q70:FIn:=⟨[(.int .i64)],[]⟩
def q7v:List FOut:=[⟨.str,[],none⟩]
noncomputable def qm4:=qe [(194,q9 qbo qbl vj)] [(160,f160)] [] 0
noncomputable def ya:=qt qm4 160 f160 true q70 q7v
theorem qae:zb prog qa 160 (q9 q70 q7v ya):=sk qm4 qc q8 (alc qaE aln) aln (b1 func160) func160
def qb0:FIn:=⟨[(.int .i64)],[]⟩
def qaK:List FOut:=[⟨.bool,[],none⟩]
noncomputable def qmB:=qe [] [(205,f205)] [] 0
noncomputable def je:=qt qmB 205 f205 true qb0 qaK
theorem qgW:zb prog qa 205 (q9 qb0 qaK je):=sk qmB qc q8 aln aln (b1 func205) func205
def q42:FIn:=⟨[(.int .i64),(.int .i64),(.ptr 0 0),(.ptr 1 0)],[.cells [(.imm [(.int .i64)])],.cells [(.int .i64)]]⟩
def q3Y:List FOut:=[⟨.str,[.cells [(.imm [(.int .i64)])],.cells [(.int .i64)]],none⟩]
noncomputable def qm6:=qe [(160,q9 q70 q7v ya)] [(207,f207)] [] 2
noncomputable def q0f:=qt qm6 207 f207 true q42 q3Y
theorem q5o:zb prog qa 207 (q9 q42 q3Y q0f):=sk qm6 qc q8 (alc qae aln) aln (b1 func207) func207
def qg3:FIn:=⟨[(.int .i64),(.int .i64),(.fn 207 [] [(.ptr 0 0),(.ptr 1 0)])],[.cells [(.imm [(.int .i64)])],.cells [(.int .i64)]]⟩
def qgu:List FOut:=[⟨(.agg [(.int .i64),(.int .i64),(.imm [.str])]),[.cells [(.imm [(.int .i64)])],.cells [(.int .i64)]],none⟩]
def q9R:Tmpl:={ t:=(.any::(.int .i64)::(.fn 207 [] [(.ptr 0 0),(.ptr 1 0)])::.any::.any::.any::(.ptr 2 0)::(.ptr 3 0)::(.int .i64)::qx 4 ((.int .i64)::(.int .i64)::.any::.any::(.int .i64)::(.int .i64)::qx 14 [])),h:=[.cells [(.imm [(.int .i64)])],.cells [(.int .i64)],.cells [(.int .i64),(.int .i64),.nils],.cells [(.int .i64),(.int .i64),(.vec 4)],.vec 32 [.str]] }
def qag:List Out:=[⟨(.exit 2),{ t:=(.any::(.int .i64)::(.fn 207 [] [(.ptr 0 0),(.ptr 1 0)])::.any::.any::.any::(.ptr 2 0)::(.ptr 3 0)::qx 5 ((.int .i64)::(.int .i64)::qx 18 [])),h:=[.cells [(.imm [(.int .i64)])],.cells [(.int .i64)],.cells [(.int .i64),(.int .i64),.nils],.cells [(.int .i64),(.int .i64),(.vec 4)],.vec 32 [.str]] }⟩]
noncomputable def q5m:=qe [(207,q9 q42 q3Y q0f)] [(206,f206)] [] 2
noncomputable def kO:=wj q5m 206 f206 10 q9R qag
theorem ql6:qm prog qa q5m.nimp (qC prog q5m.iter 206) (zo f206 10) (qk q9R qag (qf kO)):=gk q5m qc q8 (alc q5o aln) aln (b1 func206) func206
def qbI:Tmpl:={ t:=(.any::(.int .i64)::(.fn 207 [] [(.ptr 0 0),(.ptr 1 0)])::.any::.any::.any::(.ptr 2 0)::(.ptr 3 0)::qx 5 ((.int .i64)::(.int .i64)::qx 18 [])),h:=[.cells [(.imm [(.int .i64)])],.cells [(.int .i64)],.cells [(.int .i64),(.int .i64),.nils],.cells [(.int .i64),(.int .i64),(.vec 4)],.vec 32 [.str]],prc:=[(7,2,32,[.str])] }
def qbx:List Out:=[⟨(.exit 0),{ t:=(qx 6 ((.ptr 2 0)::(.ptr 3 0)::qx 25 [])),h:=[.cells [(.imm [(.int .i64)])],.cells [(.int .i64)],.cells [(.int .i64),(.int .i64),.nils],.cells [(.int .i64),(.int .i64),(.vec 4)],.vec 32 [.str]] }⟩]
noncomputable def q7D:=qe [(207,q9 q42 q3Y q0f)] [(206,f206)] [((206,10),qk q9R qag (qf kO))] 2
noncomputable def q0X:=wj q7D 206 f206 4 qbI qbx
theorem qlZ:qm prog qa q7D.nimp (qC prog q7D.iter 206) (zo f206 4) (qk qbI qbx (qf q0X)):=gk q7D qc q8 (alc q5o aln) (alc (lk func206 ql6) aln) (b1 func206) func206
noncomputable def qmF:=qe [(207,q9 q42 q3Y q0f)] [(206,f206)] [((206,4),qk qbI qbx (qf q0X))] 2
noncomputable def q6r:=qt qmF 206 f206 true qg3 qgu
theorem qpB:zb prog qa 206 (q9 qg3 qgu q6r):=sk qmF qc q8 (alc q5o aln) (alc (lk func206 qlZ) aln) (b1 func206) func206
def qld:FIn:=⟨[(.int .i64),(.int .i64),(.imm [(.int .i64)])],[]⟩
def qkY:List FOut:=[⟨(.tuple [(.agg [(.int .i64),(.int .i64),(.imm [.str])]),(.int .i64)]),[],none⟩]
noncomputable def qqL:=qe [(205,q9 qb0 qaK je),(206,q9 qg3 qgu q6r),(207,q9 q42 q3Y q0f)] [(161,f161)] [] 0
noncomputable def qcw:=qt qqL 161 f161 true qld qkY
theorem qts:zb prog qa 161 (q9 qld qkY qcw):=sk qqL qc q8 (alc qgW (alc qpB (alc q5o aln))) aln (b1 func161) func161
def q2Q:FIn:=⟨[.str,.str],[]⟩
def q2T:List FOut:=[⟨(.int .i64),[],none⟩]
noncomputable def j4:List PV->TR:=qyd
set_option maxRecDepth 100000 in
theorem q8t:zb prog qa 225 (q9 q2Q q2T j4):=qyL lays219 (kd func225 (by kernel_rfl) (by kernel_rfl))
def kF:FIn:=⟨[.str,.str],[]⟩
def kD:List FOut:=[⟨(.tuple [.str,.str,.bool]),[],none⟩]
noncomputable def q4f:=qe [(225,q9 q2Q q2T j4)] [(175,f175)] [] 0
noncomputable def wW:=qt q4f 175 f175 true kF kD
theorem q9u:zb prog qa 175 (q9 kF kD wW):=sk q4f qc q8 (alc q8t aln) aln (b1 func175) func175
def qfs:FIn:=⟨[.str,.str],[]⟩
def qfW:List FOut:=[⟨(.tuple [.str,.str,.bool]),[],none⟩]
noncomputable def qn6:=qe [(175,q9 kF kD wW)] [(128,f128)] [] 0
noncomputable def q6K:=qt qn6 128 f128 true qfs qfW
theorem qq5:zb prog qa 128 (q9 qfs qfW q6K):=sk qn6 qc q8 (alc q9u aln) aln (b1 func128) func128
def q1w:FIn:=⟨[.str],[]⟩
def q20:List FOut:=[⟨(.tuple [.str,.str,.bool]),[],none⟩]
noncomputable def qqw:=qe [(128,q9 qfs qfW q6K)] [(90,f90)] [] 0
noncomputable def zv:=qt qqw 90 f90 true q1w q20
theorem q0A:zb prog qa 90 (q9 q1w q20 zv):=sk qqw qc q8 (alc qq5 aln) aln (b1 func90) func90
def wB:FIn:=⟨[.str,.str],[]⟩
def wD:List FOut:=[⟨.bool,[],none⟩]
noncomputable def q0F:=qe [] [(230,f230)] [] 0
noncomputable def qZ:=qt q0F 230 f230 true wB wD
theorem uU:zb prog qa 230 (q9 wB wD qZ):=sk q0F qc q8 aln aln (b1 func230) func230
def jp:FIn:=⟨[.str,.str],[]⟩
def jj:List FOut:=[⟨.str,[],none⟩]
noncomputable def kT:=qe [(230,q9 wB wD qZ)] [(182,f182)] [] 0
noncomputable def zH:=qt kT 182 f182 true jp jj
theorem q4R:zb prog qa 182 (q9 jp jj zH):=sk kT qc q8 (alc uU aln) aln (b1 func182) func182
def ue:FIn:=⟨[.str,.str],[]⟩
def ua:List FOut:=[⟨.str,[],none⟩]
noncomputable def qam:=qe [(182,q9 jp jj zH)] [(134,f134)] [] 0
noncomputable def zE:=qt qam 134 f134 true ue ua
theorem q21:zb prog qa 134 (q9 ue ua zE):=sk qam qc q8 (alc q4R aln) aln (b1 func134) func134
def qjN:FIn:=⟨[.str,.str],[]⟩
def qki:List FOut:=[⟨.str,[],none⟩]
noncomputable def q8O:List PV->TR:=qDT
set_option maxRecDepth 100000 in
theorem qoF:zb prog qa 193 (q9 qjN qki q8O):=qBG lays160 (kd func193 (by kernel_rfl) (by kernel_rfl)) (by kernel_rfl)
def kV:FIn:=⟨[.str],[]⟩
def q0c:List FOut:=[⟨(.int .i64),[],none⟩]
noncomputable def qms:=qe [(134,q9 ue ua zE),(193,q9 qjN qki q8O)] [(141,f141)] [] 0
noncomputable def zy:=qt qms 141 f141 true kV q0c
theorem kG:zb prog qa 141 (q9 kV q0c zy):=sk qms qc q8 (alc q21 (alc qoF aln)) aln (b1 func141) func141
def q3x:FIn:=⟨[(.imm [.str])],[]⟩
def q3k:List FOut:=[⟨(.int .i64),[],none⟩]
def qfN:Tmpl:={ t:=(qx 6 ((.imm [.str])::(.int .i64)::(.int .i64)::qx 9 [])),h:=[] }
def qgh:List Out:=[⟨(.exit 0),{ t:=(qx 18 []),h:=[] }⟩,⟨.ret,{ t:=(.any::.any::(.int .i64)::qx 15 []),h:=[] }⟩]
noncomputable def qaH:=qe [(141,q9 kV q0c zy)] [(131,f131)] [] 0
noncomputable def q7F:=wj qaH 131 f131 3 qfN qgh
theorem qpK:qm prog qa qaH.nimp (qC prog qaH.iter 131) (zo f131 3) (qk qfN qgh (qf q7F)):=gk qaH qc q8 (alc kG aln) aln (b1 func131) func131
noncomputable def qrc:=qe [(141,q9 kV q0c zy)] [(131,f131)] [((131,3),qk qfN qgh (qf q7F))] 0
noncomputable def wX:=qt qrc 131 f131 true q3x q3k
theorem q2q:zb prog qa 131 (q9 q3x q3k wX):=sk qrc qc q8 (alc kG aln) (alc (lk func131 qpK) aln) (b1 func131) func131
def q9j:FIn:=⟨[.str],[]⟩
def q9l:List FOut:=[⟨(.int .i64),[],none⟩]
noncomputable def qoX:=qe [] [(132,f132)] [] 0
noncomputable def uw:=qt qoX 132 f132 true q9j q9l
theorem qbE:zb prog qa 132 (q9 q9j q9l uw):=sk qoX qc q8 aln aln (b1 func132) func132
def qfa:FIn:=⟨[.str,.str],[]⟩
def qeR:List FOut:=[⟨(.int .i64),[],none⟩]
noncomputable def q3I:List PV->TR:=qqj
set_option maxRecDepth 100000 in
theorem qjB:zb prog qa 181 (q9 qfa qeR q3I):=qwp lays106 (kd func181 (by kernel_rfl) (by kernel_rfl))
def qgC:FIn:=⟨[.str,.str],[]⟩
def qgr:List FOut:=[⟨(.int .i64),[],none⟩]
noncomputable def qnu:=qe [(181,q9 qfa qeR q3I)] [(133,f133)] [] 0
noncomputable def q7H:=qt qnu 133 f133 true qgC qgr
theorem qpy:zb prog qa 133 (q9 qgC qgr q7H):=sk qnu qc q8 (alc qjB aln) aln (b1 func133) func133
def q6V:FIn:=⟨[.str,.str],[]⟩
def q7j:List FOut:=[⟨(.tuple [(.int .i64),(.int .i64)]),[],none⟩]
noncomputable def qiq:=qe [(131,q9 q3x q3k wX),(132,q9 q9j q9l uw),(133,q9 qgC qgr q7H),(134,q9 ue ua zE)] [(92,f92)] [] 0
noncomputable def uS:=qt qiq 92 f92 true q6V q7j
theorem qdi:zb prog qa 92 (q9 q6V q7j uS):=sk qiq qc q8 (alc q2q (alc qbE (alc qpy (alc q21 aln)))) aln (b1 func92) func92
def qdA:FIn:=⟨[.str],[]⟩
def qdL:List FOut:=[⟨(.tuple [(.int .i64),.any]),[],none⟩]
noncomputable def yl:List PV->TR:=qFd
set_option maxRecDepth 100000 in
theorem qf2:zb prog qa 226 (q9 qdA qdL yl):=qBD lays172 (kd func226 (by kernel_rfl) (by kernel_rfl))
def jt:FIn:=⟨[(.ptr 0 0)],[.big [.bool,(.int .i64)] .i64 232]⟩
def ju:List FOut:=[⟨(.ptr 0 0),[.big [.bool,(.int .i64)] .i64 232],none⟩]
def q2C:Tmpl:={ t:=((.ptr 0 0)::qx 28 []),h:=[.big [.bool,(.int .i64)] .i64 232] }
def q2F:List Out:=[⟨(.exit 0),{ t:=((.ptr 0 0)::qx 28 []),h:=[.big [.bool,(.int .i64)] .i64 232] }⟩]
noncomputable def kj:=qe [] [(227,f227)] [] 1
noncomputable def jL:=wj kj 227 f227 2 q2C q2F
theorem qdX:qm prog qa kj.nimp (qC prog kj.iter 227) (zo f227 2) (qk q2C q2F (qf jL)):=gk kj qc q8 aln aln (b1 func227) func227
noncomputable def qan:=qe [] [(227,f227)] [((227,2),qk q2C q2F (qf jL))] 1
noncomputable def zl:=qt qan 227 f227 false jt ju
theorem uh:zb prog qa 227 (q9 jt ju zl):=ql9 (E:=qan) qc ⟨q4e q8,⟨aln,aln⟩,(alc (lk func227 qdX) aln),(b1 func227)⟩ func227 (by kernel_rfl) (by kernel_rfl) (fun _=>rfl)
def q65:FIn:=⟨[.str],[]⟩
def q6k:List FOut:=[⟨(.ptr 0 0),[.big [.bool,(.int .i64)] .i64 232],none⟩]
def qe1:Tmpl:={ t:=(.any::.any::.any::.str::(.ptr 0 0)::qx 43 []),h:=[.big [.bool,(.int .i64)] .i64 232] }
def qdQ:List Out:=[⟨(.exit 0),{ t:=(qx 4 ((.ptr 0 0)::qx 43 [])),h:=[.big [.bool,(.int .i64)] .i64 232] }⟩]
noncomputable def qg6:List (FuncId×zP):=[(134,q9 ue ua zE),(226,q9 qdA qdL yl),(227,q9 jt ju zl)]
theorem qkp:∀x,x∈qg6->zb prog qa x.1 x.2:=(alc q21 (alc qf2 (alc uh aln)))
noncomputable def q92:=qe qg6 [(178,f178)] [] 0
noncomputable def q54:=wj q92 178 f178 5 qe1 qdQ
theorem qnG:qm prog qa q92.nimp (qC prog q92.iter 178) (zo f178 5) (qk qe1 qdQ (qf q54)):=gk q92 qc q8 qkp aln (b1 func178) func178
noncomputable def qpi:=qe qg6 [(178,f178)] [((178,5),qk qe1 qdQ (qf q54))] 0
noncomputable def vb:=qt qpi 178 f178 false q65 q6k
theorem q6L:zb prog qa 178 (q9 q65 q6k vb):=ql9 (E:=qpi) qc ⟨q4e q8,⟨qkp,aln⟩,(alc (lk func178 qnG) aln),(b1 func178)⟩ func178 (by kernel_rfl) (by kernel_rfl) (fun _=>rfl)
def yR:FIn:=⟨[(.ptr 0 0),(.ptr 1 0),(.int .i64),(.int .i64)],[.big [.bool,(.int .i64)] .i64 232,.big [.bool,(.int .i64)] .i64 232]⟩
def yS:List FOut:=[⟨(.tuple []),[.big [.bool,(.int .i64)] .i64 232,.big [.bool,(.int .i64)] .i64 232],none⟩]
def q4B:Tmpl:={ t:=((.ptr 0 0)::(.ptr 1 0)::(.int .i64)::(.int .i64)::qx 4 ((.int .i64)::(.int .i64)::qx 73 [])),h:=[.big [.bool,(.int .i64)] .i64 232,.big [.bool,(.int .i64)] .i64 232] }
def q4s:List Out:=[⟨(.exit 0),{ t:=((.ptr 0 0)::qx 82 []),h:=[.big [.bool,(.int .i64)] .i64 232,.big [.bool,(.int .i64)] .i64 232] }⟩]
noncomputable def q0P:=qe [(227,q9 jt ju zl)] [(228,f228)] [] 2
noncomputable def js:=wj q0P 228 f228 3 q4B q4s
theorem qfZ:qm prog qa q0P.nimp (qC prog q0P.iter 228) (zo f228 3) (qk q4B q4s (qf js)):=gk q0P qc q8 (alc uh aln) aln (b1 func228) func228
noncomputable def qdj:=qe [(227,q9 jt ju zl)] [(228,f228)] [((228,3),qk q4B q4s (qf js))] 2
noncomputable def zq:=qt qdj 228 f228 true yR yS
theorem q01:zb prog qa 228 (q9 yR yS zq):=sk qdj qc q8 (alc uh aln) (alc (lk func228 qfZ) aln) (b1 func228) func228
def q1V:FIn:=⟨[(.ptr 0 0),(.ptr 1 0)],[.big [.bool,(.int .i64)] .i64 232,.big [.bool,(.int .i64)] .i64 232]⟩
def q1H:List FOut:=[⟨(.int .i64),[.big [.bool,(.int .i64)] .i64 232,.big [.bool,(.int .i64)] .i64 232],none⟩]
def q31:Tmpl:={ t:=((.ptr 0 0)::(.ptr 1 0)::.any::.any::.any::(.int .i64)::qx 53 []),h:=[.big [.bool,(.int .i64)] .i64 232,.big [.bool,(.int .i64)] .i64 232] }
def q35:List Out:=[⟨(.exit 0),{ t:=(qx 59 []),h:=[.big [.bool,(.int .i64)] .i64 232,.big [.bool,(.int .i64)] .i64 232] }⟩,⟨.ret,{ t:=(qx 4 ((.int .i64)::qx 54 [])),h:=[.big [.bool,(.int .i64)] .i64 232,.big [.bool,(.int .i64)] .i64 232] }⟩]
noncomputable def kY:=qe [] [(243,f243)] [] 2
noncomputable def yD:=wj kY 243 f243 6 q31 q35
theorem qeC:qm prog qa kY.nimp (qC prog kY.iter 243) (zo f243 6) (qk q31 q35 (qf yD)):=gk kY qc q8 aln aln (b1 func243) func243
noncomputable def qcn:=qe [] [(243,f243)] [((243,6),qk q31 q35 (qf yD))] 2
noncomputable def vM:=qt qcn 243 f243 true q1V q1H
theorem q82:zb prog qa 243 (q9 q1V q1H vM):=sk qcn qc q8 aln (alc (lk func243 qeC) aln) (b1 func243) func243
def qa8:FIn:=⟨[(.ptr 0 0),(.ptr 1 0)],[.big [.bool,(.int .i64)] .i64 232,.big [.bool,(.int .i64)] .i64 232]⟩
def q9K:List FOut:=[⟨(.int .i64),[.big [.bool,(.int .i64)] .i64 232,.big [.bool,(.int .i64)] .i64 232],none⟩]
noncomputable def qhe:=qe [] [(244,f244),(273,f273)] [] 2
noncomputable def q2f:=qt qhe 244 f244 true qa8 q9K
theorem qkM:zb prog qa 244 (q9 qa8 q9K q2f):=sk qhe qc q8 aln aln (alc (bk func244) (alc (bk func273) aln)) func244
def q7C:FIn:=⟨[(.ptr 0 0),(.ptr 1 0)],[.big [.bool,(.int .i64)] .i64 232,.big [.bool,(.int .i64)] .i64 232]⟩
def q6E:List FOut:=[⟨(.tuple [(.ptr 2 0),(.ptr 3 0)]),[.big [.bool,(.int .i64)] .i64 232,.big [.bool,(.int .i64)] .i64 232,.big [.bool,(.int .i64)] .i64 232,.big [.bool,(.int .i64)] .i64 232],none⟩]
def q7y:Tmpl:={ t:=((.ptr 0 0)::(.ptr 1 0)::qx 4 ((.ptr 2 0)::(.ptr 3 0)::(.int .i64)::(.int .i64)::qx 80 [])),h:=[.big [.bool,(.int .i64)] .i64 232,.big [.bool,(.int .i64)] .i64 232,.big [.bool,(.int .i64)] .i64 232,.big [.bool,(.int .i64)] .i64 232] }
def q6x:List Out:=[⟨(.exit 2),{ t:=((.ptr 0 0)::(.ptr 1 0)::qx 4 ((.ptr 2 0)::(.ptr 3 0)::(.int .i64)::(.int .i64)::qx 80 [])),h:=[.big [.bool,(.int .i64)] .i64 232,.big [.bool,(.int .i64)] .i64 232,.big [.bool,(.int .i64)] .i64 232,.big [.bool,(.int .i64)] .i64 232] }⟩]
noncomputable def q5n:List (FuncId×zP):=[(227,q9 jt ju zl),(228,q9 yR yS zq),(243,q9 q1V q1H vM),(244,q9 qa8 q9K q2f)]
theorem q8l:∀x,x∈q5n->zb prog qa x.1 x.2:=(alc uh (alc q01 (alc q82 (alc qkM aln))))
noncomputable def q2N:=qe q5n [(195,f195)] [] 2
noncomputable def yG:=wj q2N 195 f195 14 q7y q6x
theorem qiE:qm prog qa q2N.nimp (qC prog q2N.iter 195) (zo f195 14) (qk q7y q6x (qf yG)):=gk q2N qc q8 q8l aln (b1 func195) func195
def q8a:Tmpl:={ t:=((.ptr 0 0)::(.ptr 1 0)::qx 4 ((.ptr 2 0)::(.ptr 3 0)::(.int .i64)::qx 81 [])),h:=[.big [.bool,(.int .i64)] .i64 232,.big [.bool,(.int .i64)] .i64 232,.big [.bool,(.int .i64)] .i64 232,.big [.bool,(.int .i64)] .i64 232] }
def q8u:List Out:=[⟨(.exit 0),{ t:=(qx 6 ((.ptr 2 0)::(.ptr 3 0)::qx 82 [])),h:=[.big [.bool,(.int .i64)] .i64 232,.big [.bool,(.int .i64)] .i64 232,.big [.bool,(.int .i64)] .i64 232,.big [.bool,(.int .i64)] .i64 232] }⟩]
noncomputable def q4d:=qe q5n [(195,f195)] [((195,14),qk q7y q6x (qf yG))] 2
noncomputable def q0Z:=wj q4d 195 f195 4 q8a q8u
theorem qjJ:qm prog qa q4d.nimp (qC prog q4d.iter 195) (zo f195 4) (qk q8a q8u (qf q0Z)):=gk q4d qc q8 q8l (alc (lk func195 qiE) aln) (b1 func195) func195
noncomputable def qj0:=qe q5n [(195,f195)] [((195,4),qk q8a q8u (qf q0Z))] 2
noncomputable def ke:=qt qj0 195 f195 false q7C q6E
theorem qd1:zb prog qa 195 (q9 q7C q6E ke):=ql9 (E:=qj0) qc ⟨q4e q8,⟨q8l,aln⟩,(alc (lk func195 qjJ) aln),(b1 func195)⟩ func195 (by kernel_rfl) (by kernel_rfl) (fun _=>rfl)
def q3L:FIn:=⟨[(.ptr 0 0)],[.big [.bool,(.int .i64)] .i64 232]⟩
def q44:List FOut:=[⟨.str,[.big [.bool,(.int .i64)] .i64 232],none⟩]
noncomputable def zR:List PV->TR:=qE3
theorem q4u:zb prog qa 196 (q9 q3L q44 zR):=qCl (by unfold qa;exact qLS)
def qc5:FIn:=⟨[.str,.str],[]⟩
def qbU:List FOut:=[⟨(.tuple [.str,(.int .i64)]),[],none⟩]
def qen:Tmpl:={ t:=(qx 9 ((.int .i64)::(.int .i64)::qx 61 [])),h:=[] }
def qdW:List Out:=[⟨(.exit 2),{ t:=(qx 9 ((.int .i64)::qx 62 [])),h:=[] }⟩]
noncomputable def qd8:List (FuncId×zP):=[(131,q9 q3x q3k wX),(178,q9 q65 q6k vb),(194,q9 qbo qbl vj),(195,q9 q7C q6E ke),(196,q9 q3L q44 zR)]
theorem qgz:∀x,x∈qd8->zb prog qa x.1 x.2:=(alc q2q (alc q6L (alc qaE (alc qd1 (alc q4u aln)))))
noncomputable def q90:=qe qd8 [(142,f142)] [] 0
noncomputable def q2p:=wj q90 142 f142 14 qen qdW
theorem qoO:qm prog qa q90.nimp (qC prog q90.iter 142) (zo f142 14) (qk qen qdW (qf q2p)):=gk q90 qc q8 qgz aln (b1 func142) func142
def qga:Tmpl:={ t:=(qx 7 ((.ptr 1 0)::(.ptr 2 0)::qx 63 [])),h:=[.dead,.big [.bool,(.int .i64)] .i64 232,.big [.bool,(.int .i64)] .i64 232],sw:=[(7,1),(8,2)],swn:=0 }
def qfL:List Out:=[⟨(.exit 0),{ t:=(qx 7 ((.ptr 1 0)::qx 64 [])),h:=[.dead,.big [.bool,(.int .i64)] .i64 232] }⟩,⟨.ret,{ t:=(qx 4 (.str::(.int .i64)::qx 66 [])),h:=[] }⟩]
noncomputable def qb5:=qe qd8 [(142,f142)] [((142,14),qk qen qdW (qf q2p))] 0
noncomputable def q7l:=wj qb5 142 f142 7 qga qfL
theorem qpM:qm prog qa qb5.nimp (qC prog qb5.iter 142) (zo f142 7) (qk qga qfL (qf q7l)):=gk qb5 qc q8 qgz (alc (lk func142 qoO) aln) (b1 func142) func142
noncomputable def qqK:=qe qd8 [(142,f142)] [((142,7),qk qga qfL (qf q7l))] 0
noncomputable def q30:=qt qqK 142 f142 true qc5 qbU
theorem qe5:zb prog qa 142 (q9 qc5 qbU q30):=sk qqK qc q8 qgz (alc (lk func142 qpM) aln) (b1 func142) func142
def q00:FIn:=⟨[.str],[]⟩
def q0b:List FOut:=[⟨(.int .i64),[],none⟩]
noncomputable def qmW:=qe [(90,q9 q1w q20 zv),(92,q9 q6V q7j uS),(141,q9 kV q0c zy),(142,q9 qc5 qbU q30)] [(106,f106)] [] 0
noncomputable def zI:=qt qmW 106 f106 true q00 q0b
theorem kJ:zb prog qa 106 (q9 q00 q0b zI):=sk qmW qc q8 (alc q0A (alc qdi (alc kG (alc qe5 aln)))) aln (b1 func106) func106
def q5q:FIn:=⟨[(.imm [.str])],[]⟩
def q5A:List FOut:=[⟨(.int .i64),[],none⟩]
def q7z:Tmpl:={ t:=(qx 6 ((.imm [.str])::(.int .i64)::(.int .i64)::qx 9 [])),h:=[] }
def q7B:List Out:=[⟨(.exit 0),{ t:=(qx 18 []),h:=[] }⟩,⟨.ret,{ t:=(.any::.any::(.int .i64)::qx 15 []),h:=[] }⟩]
noncomputable def q2L:=qe [(106,q9 q00 q0b zI)] [(213,f213)] [] 0
noncomputable def yJ:=wj q2L 213 f213 3 q7z q7B
theorem qiF:qm prog qa q2L.nimp (qC prog q2L.iter 213) (zo f213 3) (qk q7z q7B (qf yJ)):=gk q2L qc q8 (alc kJ aln) aln (b1 func213) func213
noncomputable def qgL:=qe [(106,q9 q00 q0b zI)] [(213,f213)] [((213,3),qk q7z q7B (qf yJ))] 0
noncomputable def jA:=qt qgL 213 f213 true q5q q5A
theorem qcg:zb prog qa 213 (q9 q5q q5A jA):=sk qgL qc q8 (alc kJ aln) (alc (lk func213 qiF) aln) (b1 func213) func213
def qe4:FIn:=⟨[(.agg [(.int .i64),(.int .i64),(.imm [.str])])],[]⟩
def qdE:List FOut:=[⟨(.int .i64),[],none⟩]
noncomputable def qjU:=qe [(205,q9 qb0 qaK je),(213,q9 q5q q5A jA)] [(208,f208)] [] 0
noncomputable def yf:=qt qjU 208 f208 true qe4 qdE
theorem qfi:zb prog qa 208 (q9 qe4 qdE yf):=sk qjU qc q8 (alc qgW (alc qcg aln)) aln (b1 func208) func208
def q7i:FIn:=⟨[.str,.str],[]⟩
def q7s:List FOut:=[⟨(.tuple [(.int .i64),(.int .i64),.bool]),[],none⟩]
noncomputable def qme:=qe [(226,q9 qdA qdL yl)] [(176,f176)] [] 0
noncomputable def uv:=qt qme 176 f176 true q7i q7s
theorem q9q:zb prog qa 176 (q9 q7i q7s uv):=sk qme qc q8 (alc qf2 aln) aln (b1 func176) func176
def q8X:FIn:=⟨[(.int .i64)],[]⟩
def q8K:List FOut:=[⟨(.tuple [.str,(.int .i64)]),[],none⟩]
noncomputable def qkv:=qe [(194,q9 qbo qbl vj)] [(177,f177)] [] 0
noncomputable def q0o:=qt qkv 177 f177 true q8X q8K
theorem qeL:zb prog qa 177 (q9 q8X q8K q0o):=sk qkv qc q8 (alc qaE aln) aln (b1 func177) func177
def q7r:FIn:=⟨[(.ptr 0 0),(.ptr 1 0)],[.big [.bool,(.int .i64)] .i64 232,.big [.bool,(.int .i64)] .i64 232]⟩
def q6v:List FOut:=[⟨(.ptr 2 0),[.big [.bool,(.int .i64)] .i64 232,.big [.bool,(.int .i64)] .i64 232,.big [.bool,(.int .i64)] .i64 232],none⟩]
def q4r:Tmpl:={ t:=((.ptr 0 0)::(.ptr 1 0)::.any::.any::.any::(.ptr 2 0)::qx 15 ((.int .i64)::(.int .i64)::qx 14 [])),h:=[.big [.bool,(.int .i64)] .i64 232,.big [.bool,(.int .i64)] .i64 232,.big [.bool,(.int .i64)] .i64 232] }
def q4w:List Out:=[⟨(.exit 0),{ t:=(qx 5 ((.ptr 2 0)::qx 31 [])),h:=[.big [.bool,(.int .i64)] .i64 232,.big [.bool,(.int .i64)] .i64 232,.big [.bool,(.int .i64)] .i64 232] }⟩]
noncomputable def q0J:=qe [(228,q9 yR yS zq)] [(179,f179)] [] 2
noncomputable def ub:=wj q0J 179 f179 4 q4r q4w
theorem qfA:qm prog qa q0J.nimp (qC prog q0J.iter 179) (zo f179 4) (qk q4r q4w (qf ub)):=gk q0J qc q8 (alc q01 aln) aln (b1 func179) func179
noncomputable def qd9:=qe [(228,q9 yR yS zq)] [(179,f179)] [((179,4),qk q4r q4w (qf ub))] 2
noncomputable def q07:=qt qd9 179 f179 false q7r q6v
theorem qiL:zb prog qa 179 (q9 q7r q6v q07):=ql9 (E:=qd9) qc ⟨q4e q8,⟨(alc q01 aln),aln⟩,(alc (lk func179 qfA) aln),(b1 func179)⟩ func179 (by kernel_rfl) (by kernel_rfl) (fun _=>rfl)
def q0I:FIn:=⟨[(.ptr 0 0)],[.big [.bool,(.int .i64)] .i64 232]⟩
def q0O:List FOut:=[⟨(.tuple [.str,(.int .i64)]),[.big [.bool,(.int .i64)] .i64 232],none⟩]
noncomputable def qal:=qe [(141,q9 kV q0c zy),(196,q9 q3L q44 zR)] [(180,f180)] [] 1
noncomputable def wY:=qt qal 180 f180 true q0I q0O
theorem q7I:zb prog qa 180 (q9 q0I q0O wY):=sk qal qc q8 (alc kG (alc q4u aln)) aln (b1 func180) func180
def qcx:FIn:=⟨[.str,.str],[]⟩
def qc1:List FOut:=[⟨(.tuple [.str,(.int .i64)]),[],none⟩]
noncomputable def qs0:=qe [(131,q9 q3x q3k wX),(176,q9 q7i q7s uv),(177,q9 q8X q8K q0o),(178,q9 q65 q6k vb),(179,q9 q7r q6v q07),(180,q9 q0I q0O wY)] [(130,f130)] [] 0
noncomputable def q5R:=qt qs0 130 f130 true qcx qc1
theorem qdw:zb prog qa 130 (q9 qcx qc1 q5R):=sk qs0 qc q8 (alc q2q (alc q9q (alc qeL (alc q6L (alc qiL (alc q7I aln)))))) aln (b1 func130) func130
def yo:FIn:=⟨[(.ptr 0 0),(.fn 130 [] []),.str,.str],[.cells [(.int .i64)]]⟩
def yp:List FOut:=[⟨.str,[.cells [(.int .i64)]],none⟩]
noncomputable def q55:=qe [(130,q9 qcx qc1 q5R)] [(129,f129)] [] 1
noncomputable def wd:=qt q55 129 f129 true yo yp
theorem q2P:zb prog qa 129 (q9 yo yp wd):=sk q55 qc q8 (alc qdw aln) aln (b1 func129) func129
def yV:FIn:=⟨[(.ptr 0 0),(.imm [.str])],[.cells [(.int .i64)]]⟩
def yW:List FOut:=[⟨.str,[.cells [(.int .i64)]],none⟩]
def q6C:Tmpl:={ t:=(qx 5 (.str::(.fn 129 [(.ptr 0 0)] [])::qx 4 ((.imm [.str])::(.int .i64)::(.int .i64)::qx 9 []))),h:=[.cells [(.int .i64)]] }
def q6W:List Out:=[⟨(.exit 0),{ t:=(qx 5 (.str::qx 17 [])),h:=[.cells [(.int .i64)]] }⟩]
noncomputable def q2K:=qe [(130,q9 qcx qc1 q5R),(129,q9 yo yp wd)] [(91,f91)] [] 1
noncomputable def yF:=wj q2K 91 f91 4 q6C q6W
theorem qi6:qm prog qa q2K.nimp (qC prog q2K.iter 91) (zo f91 4) (qk q6C q6W (qf yF)):=gk q2K qc q8 (alc qdw (alc q2P aln)) aln (b1 func91) func91
noncomputable def qhg:=qe [(130,q9 qcx qc1 q5R),(129,q9 yo yp wd)] [(91,f91)] [((91,4),qk q6C q6W (qf yF))] 1
noncomputable def qB:=qt qhg 91 f91 true yV yW
theorem uX:zb prog qa 91 (q9 yV yW qB):=sk qhg qc q8 (alc qdw (alc q2P aln)) (alc (lk func91 qi6) aln) (b1 func91) func91
def qaW:FIn:=⟨[(.ptr 0 0),.str,.str,.str,.str],[.cells [(.int .i64)]]⟩
def qb2:List FOut:=[⟨(.tuple [.str,.str]),[.cells [(.int .i64)]],none⟩]
noncomputable def qmx:=qe [(91,q9 yV yW qB)] [(259,f259)] [] 1
noncomputable def q3B:=qt qmx 259 f259 true qaW qb2
theorem qgG:zb prog qa 259 (q9 qaW qb2 q3B):=sk qmx qc q8 (alc uX aln) aln (b1 func259) func259
def j8:FIn:=⟨[(.imm [.str])],[]⟩
def ja:List FOut:=[⟨(.int .i64),[],none⟩]
def q9P:Tmpl:={ t:=(qx 6 ((.imm [.str])::(.int .i64)::(.int .i64)::qx 9 [])),h:=[] }
def q9T:List Out:=[⟨(.exit 0),{ t:=(qx 18 []),h:=[] }⟩,⟨.ret,{ t:=(.any::.any::(.int .i64)::qx 15 []),h:=[] }⟩]
noncomputable def q5y:=qe [(106,q9 q00 q0b zI)] [(89,f89)] [] 0
noncomputable def q29:=wj q5y 89 f89 3 q9P q9T
theorem qlG:qm prog qa q5y.nimp (qC prog q5y.iter 89) (zo f89 3) (qk q9P q9T (qf q29)):=gk q5y qc q8 (alc kJ aln) aln (b1 func89) func89
noncomputable def qkj:=qe [(106,q9 q00 q0b zI)] [(89,f89)] [((89,3),qk q9P q9T (qf q29))] 0
noncomputable def qX:=qt qkj 89 f89 true j8 ja
theorem j0:zb prog qa 89 (q9 j8 ja qX):=sk qkj qc q8 (alc kJ aln) (alc (lk func89 qlG) aln) (b1 func89) func89
def q3M:FIn:=⟨[(.ptr 0 0),(.ptr 1 0)],[.big [.bool,(.int .i64)] .i64 232,.big [.bool,(.int .i64)] .i64 232]⟩
def q3N:List FOut:=[⟨(.tuple []),[.big [.bool,(.int .i64)] .i64 232,.big [.bool,(.int .i64)] .i64 232],none⟩]
noncomputable def qeS:=qe [(228,q9 yR yS zq),(243,q9 q1V q1H vM)] [(307,f307)] [] 2
noncomputable def vU:=qt qeS 307 f307 true q3M q3N
theorem qaq:zb prog qa 307 (q9 q3M q3N vU):=sk qeS qc q8 (alc q01 (alc q82 aln)) aln (b1 func307) func307
def qkL:FIn:=⟨[(.imm [.str])],[]⟩
def qlr:List FOut:=[⟨(.tuple [.str,(.int .i64)]),[],none⟩]
def qg5:Tmpl:={ t:=(qx 4 ((.ptr 0 0)::qx 4 ((.imm [.str])::(.int .i64)::(.int .i64)::qx 12 []))),h:=[.big [.bool,(.int .i64)] .i64 232] }
def qgn:List Out:=[⟨(.exit 0),{ t:=(qx 4 ((.ptr 0 0)::qx 19 [])),h:=[.big [.bool,(.int .i64)] .i64 232] }⟩]
noncomputable def qig:List (FuncId×zP):=[(178,q9 q65 q6k vb),(180,q9 q0I q0O wY),(307,q9 q3M q3N vU)]
theorem qlQ:∀x,x∈qig->zb prog qa x.1 x.2:=(alc q6L (alc q7I (alc qaq aln)))
noncomputable def qaz:=qe qig [(296,f296)] [] 0
noncomputable def q7t:=wj qaz 296 f296 4 qg5 qgn
theorem qpO:qm prog qa qaz.nimp (qC prog qaz.iter 296) (zo f296 4) (qk qg5 qgn (qf q7t)):=gk qaz qc q8 qlQ aln (b1 func296) func296
noncomputable def qs7:=qe qig [(296,f296)] [((296,4),qk qg5 qgn (qf q7t))] 0
noncomputable def qbY:=qt qs7 296 f296 true qkL qlr
theorem qtl:zb prog qa 296 (q9 qkL qlr qbY):=sk qs7 qc q8 qlQ (alc (lk func296 qpO) aln) (b1 func296) func296
def qc6:FIn:=⟨[.str,.str],[]⟩
def qca:List FOut:=[⟨(.tuple [.str,(.int .i64)]),[],none⟩]
noncomputable def qqV:=qe [(131,q9 q3x q3k wX),(176,q9 q7i q7s uv),(177,q9 q8X q8K q0o),(296,q9 qkL qlr qbY)] [(279,f279)] [] 0
noncomputable def q32:=qt qqV 279 f279 true qc6 qca
theorem qe3:zb prog qa 279 (q9 qc6 qca q32):=sk qqV qc q8 (alc q2q (alc q9q (alc qeL (alc qtl aln)))) aln (b1 func279) func279
def qa6:FIn:=⟨[.str],[]⟩
def qa2:List FOut:=[⟨.str,[],none⟩]
noncomputable def qgV:=qe [(132,q9 q9j q9l uw)] [(283,f283)] [] 0
noncomputable def q2d:=qt qgV 283 f283 true qa6 qa2
theorem qln:zb prog qa 283 (q9 qa6 qa2 q2d):=sk qgV qc q8 (alc qbE aln) aln (b1 func283) func283
def qfK:FIn:=⟨[.str,.str],[]⟩
def qgl:List FOut:=[⟨(.tuple [.str,(.int .i64)]),[],none⟩]
noncomputable def qrY:=qe [(131,q9 q3x q3k wX),(279,q9 qc6 qca q32),(283,q9 qa6 qa2 q2d)] [(258,f258)] [] 0
noncomputable def q8o:=qt qrY 258 f258 true qfK qgl
theorem qky:zb prog qa 258 (q9 qfK qgl q8o):=sk qrY qc q8 (alc q2q (alc qe3 (alc qln aln))) aln (b1 func258) func258
def q0s:FIn:=⟨[(.ptr 0 0),(.fn 258 [] []),.str,.str],[.cells [(.int .i64)]]⟩
def q0n:List FOut:=[⟨.str,[.cells [(.int .i64)]],none⟩]
noncomputable def q57:=qe [(258,q9 qfK qgl q8o)] [(129,f129)] [] 1
noncomputable def vD:=qt q57 129 f129 true q0s q0n
theorem qaG:zb prog qa 129 (q9 q0s q0n vD):=sk q57 qc q8 (alc qky aln) aln (b1 func129) func129
def q5u:FIn:=⟨[(.ptr 0 0),.str,.str],[.cells [(.int .i64)]]⟩
def q5t:List FOut:=[⟨.str,[.cells [(.int .i64)]],none⟩]
noncomputable def qhj:=qe [(258,q9 qfK qgl q8o),(129,q9 q0s q0n vD)] [(220,f220)] [] 1
noncomputable def jz:=qt qhj 220 f220 true q5u q5t
theorem qbR:zb prog qa 220 (q9 q5u q5t jz):=sk qhj qc q8 (alc qky (alc qaG aln)) aln (b1 func220) func220
def q62:FIn:=⟨[.str,.str],[]⟩
def q5O:List FOut:=[⟨.bool,[],none⟩]
noncomputable def qbA:=qe [(230,q9 wB wD qZ)] [(280,f280)] [] 0
noncomputable def ka:=qt qbA 280 f280 true q62 q5O
theorem qhr:zb prog qa 280 (q9 q62 q5O ka):=sk qbA qc q8 (alc uU aln) aln (b1 func280) func280
def qdG:FIn:=⟨[.str,.str],[]⟩
def qdv:List FOut:=[⟨.str,[],none⟩]
noncomputable def qkr:=qe [] [(281,f281)] [] 0
noncomputable def q2t:=qt qkr 281 f281 true qdG qdv
theorem qoz:zb prog qa 281 (q9 qdG qdv q2t):=sk qkr qc q8 aln aln (b1 func281) func281
def qek:FIn:=⟨[.str,.str],[]⟩
def qec:List FOut:=[⟨(.tuple [.str,.str,(.int .i64)]),[],none⟩]
noncomputable def qkq:=qe [(131,q9 q3x q3k wX),(176,q9 q7i q7s uv),(178,q9 q65 q6k vb),(194,q9 qbo qbl vj),(195,q9 q7C q6E ke),(196,q9 q3L q44 zR),(307,q9 q3M q3N vU)] [(297,f297)] [] 0
noncomputable def q4E:=qt qkq 297 f297 true qek qec
theorem qnK:zb prog qa 297 (q9 qek qec q4E):=sk qkq qc q8 (alc q2q (alc q9q (alc q6L (alc qaE (alc qd1 (alc q4u (alc qaq aln))))))) aln (b1 func297) func297
def qfC:FIn:=⟨[.str,.str],[]⟩
def qft:List FOut:=[⟨(.tuple [.str,(.int .i64)]),[],none⟩]
noncomputable def qqC:=qe [(141,q9 kV q0c zy),(297,q9 qek qec q4E)] [(282,f282)] [] 0
noncomputable def q89:=qt qqC 282 f282 true qfC qft
theorem qk7:zb prog qa 282 (q9 qfC qft q89):=sk qqC qc q8 (alc kG (alc qnK aln)) aln (b1 func282) func282
def yq:FIn:=⟨[(.ptr 0 0),(.fn 142 [] []),.str,.str],[.cells [(.int .i64)]]⟩
def q0u:List FOut:=[⟨.str,[.cells [(.int .i64)]],none⟩]
noncomputable def q4J:=qe [(142,q9 qc5 qbU q30)] [(129,f129)] [] 1
noncomputable def vn:=qt q4J 129 f129 true yq q0u
theorem qaT:zb prog qa 129 (q9 yq q0u vn):=sk q4J qc q8 (alc qe5 aln) aln (b1 func129) func129
def yt:FIn:=⟨[(.ptr 0 0),(.fn 282 [] []),.str,.str],[.cells [(.int .i64)]]⟩
def q0E:List FOut:=[⟨.str,[.cells [(.int .i64)]],none⟩]
noncomputable def q4F:=qe [(282,q9 qfC qft q89)] [(129,f129)] [] 1
noncomputable def zn:=qt q4F 129 f129 true yt q0E
theorem qaO:zb prog qa 129 (q9 yt q0E zn):=sk q4F qc q8 (alc qk7 aln) aln (b1 func129) func129
def jS:FIn:=⟨[(.ptr 0 0),.str,.str],[.cells [(.int .i64)]]⟩
def jU:List FOut:=[⟨.str,[.cells [(.int .i64)]],none⟩]
noncomputable def qcd:=qe [(142,q9 qc5 qbU q30),(220,q9 q5u q5t jz),(280,q9 q62 q5O ka),(281,q9 qdG qdv q2t),(282,q9 qfC qft q89),(129,qKW [(yq,q9 yq q0u vn),(yt,q9 yt q0E zn)])] [(257,f257)] [] 1
noncomputable def zt:=qt qcd 257 f257 true jS jU
theorem ki:zb prog qa 257 (q9 jS jU zt):=sk qcd qc q8 (alc qe5 (alc qbR (alc qhr (alc qoz (alc qk7 (alc (qGP (kd func129 (by kernel_rfl) (by kernel_rfl)) (qAL qaT (qAL qaO qIQ))) aln)))))) aln (b1 func257) func257
def q1l:FIn:=⟨[.str,.str,(.fn 259 [] [])],[]⟩
def q1j:List FOut:=[⟨(.tuple [.str,(.int .i64)]),[],none⟩]
noncomputable def q67:=qe [(89,q9 j8 ja qX),(90,q9 q1w q20 zv),(257,q9 jS jU zt),(259,q9 qaW qb2 q3B)] [(218,f218)] [] 0
noncomputable def vV:=qt q67 218 f218 true q1l q1j
theorem qbr:zb prog qa 218 (q9 q1l q1j vV):=sk q67 qc q8 (alc j0 (alc q0A (alc ki (alc qgG aln)))) aln (b1 func218) func218
def qbv:FIn:=⟨[.str,.str],[]⟩
def qc3:List FOut:=[⟨(.tuple [.str,(.int .i64)]),[],none⟩]
noncomputable def qrI:=qe [(259,q9 qaW qb2 q3B),(218,q9 q1l q1j vV)] [(221,f221)] [] 0
noncomputable def yU:=qt qrI 221 f221 true qbv qc3
theorem q8W:zb prog qa 221 (q9 qbv qc3 yU):=sk qrI qc q8 (alc qgG (alc qbr aln)) aln (b1 func221) func221
def qaZ:FIn:=⟨[(.ptr 0 0),.str,.str,.str,.str],[.cells [(.int .i64)]]⟩
def qbb:List FOut:=[⟨(.tuple [.str,.str]),[.cells [(.int .i64)]],none⟩]
noncomputable def qnq:=qe [(91,q9 yV yW qB)] [(267,f267)] [] 1
noncomputable def q3Q:=qt qnq 267 f267 true qaZ qbb
theorem qh9:zb prog qa 267 (q9 qaZ qbb q3Q):=sk qnq qc q8 (alc uX aln) aln (b1 func267) func267
def q1f:FIn:=⟨[.str,.str,(.fn 267 [] [])],[]⟩
def q11:List FOut:=[⟨(.tuple [.str,(.int .i64)]),[],none⟩]
noncomputable def q64:=qe [(89,q9 j8 ja qX),(90,q9 q1w q20 zv),(257,q9 jS jU zt),(267,q9 qaZ qbb q3Q)] [(218,f218)] [] 0
noncomputable def j3:=qt q64 218 f218 true q1f q11
theorem qbF:zb prog qa 218 (q9 q1f q11 j3):=sk q64 qc q8 (alc j0 (alc q0A (alc ki (alc qh9 aln)))) aln (b1 func218) func218
def qsz:FIn:=⟨[.str,.str],[]⟩
def qrJ:List FOut:=[⟨(.tuple [.str,(.int .i64)]),[],none⟩]
noncomputable def qrk:=qe [(89,q9 j8 ja qX),(267,q9 qaZ qbb q3Q),(218,q9 q1f q11 j3)] [(233,f233)] [] 0
noncomputable def q63:=qt qrk 233 f233 true qsz qrJ
theorem qtC:zb prog qa 233 (q9 qsz qrJ q63):=sk qrk qc q8 (alc j0 (alc qh9 (alc qbF aln))) aln (b1 func233) func233
def qb7:FIn:=⟨[(.ptr 0 0),.str,.str,.str,.str],[.cells [(.int .i64)]]⟩
def qax:List FOut:=[⟨(.tuple [.str,.str]),[.cells [(.int .i64)]],none⟩]
noncomputable def qmr:=qe [(91,q9 yV yW qB),(220,q9 q5u q5t jz)] [(219,f219)] [] 1
noncomputable def q3E:=qt qmr 219 f219 true qb7 qax
theorem qgQ:zb prog qa 219 (q9 qb7 qax q3E):=sk qmr qc q8 (alc uX (alc qbR aln)) aln (b1 func219) func219
def q14:FIn:=⟨[.str,.str,(.fn 219 [] [])],[]⟩
def q12:List FOut:=[⟨(.tuple [.str,(.int .i64)]),[],none⟩]
noncomputable def q6b:=qe [(89,q9 j8 ja qX),(90,q9 q1w q20 zv),(219,q9 qb7 qax q3E),(257,q9 jS jU zt)] [(218,f218)] [] 0
noncomputable def vT:=qt q6b 218 f218 true q14 q12
theorem qc0:zb prog qa 218 (q9 q14 q12 vT):=sk q6b qc q8 (alc j0 (alc q0A (alc qgQ (alc ki aln)))) aln (b1 func218) func218
def qfu:FIn:=⟨[.str,.str],[]⟩
def qgq:List FOut:=[⟨(.tuple [.str,(.int .i64)]),[],none⟩]
noncomputable def qqB:=qe [(219,q9 qb7 qax q3E),(218,q9 q14 q12 vT)] [(165,f165)] [] 0
noncomputable def v6:=qt qqB 165 f165 true qfu qgq
theorem qds:zb prog qa 165 (q9 qfu qgq v6):=sk qqB qc q8 (alc qgQ (alc qc0 aln)) aln (b1 func165) func165
def qh5:FIn:=⟨[(.agg [(.int .i64),(.int .i64),(.imm [.str])])],[]⟩
def qhc:List FOut:=[⟨(.tuple [(.agg [(.int .i64),(.int .i64),(.imm [.str])]),(.int .i64)]),[],none⟩]
noncomputable def u4:List PV->TR:=qJ0 yf yU q63 v6
theorem qlF:zb prog qa 162 (q9 qh5 qhc u4):=qEC qfi q8W qtC qds
def q0m:FIn:=⟨[(.ptr 0 0),(.fn 279 [] []),.str,.str],[.cells [(.int .i64)]]⟩
def q0q:List FOut:=[⟨.str,[.cells [(.int .i64)]],none⟩]
noncomputable def q5j:=qe [(279,q9 qc6 qca q32)] [(129,f129)] [] 1
noncomputable def vw:=qt q5j 129 f129 true q0m q0q
theorem qb4:zb prog qa 129 (q9 q0m q0q vw):=sk q5j qc q8 (alc qe3 aln) aln (b1 func129) func129
def q9U:FIn:=⟨[(.ptr 0 0),.str,.str],[.cells [(.int .i64)]]⟩
def qac:List FOut:=[⟨.str,[.cells [(.int .i64)]],none⟩]
noncomputable def qgU:=qe [(279,q9 qc6 qca q32),(129,q9 q0m q0q vw)] [(256,f256)] [] 1
noncomputable def q2g:=qt qgU 256 f256 true q9U qac
theorem qkS:zb prog qa 256 (q9 q9U qac q2g):=sk qgU qc q8 (alc qe3 (alc qb4 aln)) aln (b1 func256) func256
def qb3:FIn:=⟨[(.ptr 0 0),.str,.str,.str,.str],[.cells [(.int .i64)]]⟩
def qb9:List FOut:=[⟨(.tuple [.str,.str]),[.cells [(.int .i64)]],none⟩]
noncomputable def qmV:=qe [(91,q9 yV yW qB),(256,q9 q9U qac q2g)] [(255,f255)] [] 1
noncomputable def q41:=qt qmV 255 f255 true qb3 qb9
theorem qh7:zb prog qa 255 (q9 qb3 qb9 q41):=sk qmV qc q8 (alc uX (alc qkS aln)) aln (b1 func255) func255
def q1c:FIn:=⟨[.str,.str,(.fn 255 [] [])],[]⟩
def q0S:List FOut:=[⟨(.tuple [.str,(.int .i64)]),[],none⟩]
noncomputable def q6j:=qe [(89,q9 j8 ja qX),(90,q9 q1w q20 zv),(255,q9 qb3 qb9 q41),(257,q9 jS jU zt)] [(218,f218)] [] 0
noncomputable def vX:=qt q6j 218 f218 true q1c q0S
theorem qbz:zb prog qa 218 (q9 q1c q0S vX):=sk q6j qc q8 (alc j0 (alc q0A (alc qh7 (alc ki aln)))) aln (b1 func218) func218
def q5V:FIn:=⟨[.str,.str],[]⟩
def q5S:List FOut:=[⟨(.tuple [.str,(.int .i64)]),[],none⟩]
noncomputable def qst:=qe [(255,q9 qb3 qb9 q41),(218,q9 q1c q0S vX)] [(217,f217)] [] 0
noncomputable def uW:=qt qst 217 f217 true q5V q5S
theorem q5b:zb prog qa 217 (q9 q5V q5S uW):=sk qst qc q8 (alc qh7 (alc qbz aln)) aln (b1 func217) func217
def q1A:FIn:=⟨[(.ptr 0 0),.str,(.int .i64)],[.cells [(.int .i64)]]⟩
def q1W:List FOut:=[⟨.str,[.cells [(.int .i64)]],none⟩]
noncomputable def qcm:=qe [] [(254,f254)] [] 1
noncomputable def vK:=qt qcm 254 f254 true q1A q1W
theorem q7T:zb prog qa 254 (q9 q1A q1W vK):=sk qcm qc q8 aln aln (b1 func254) func254
def q6N:FIn:=⟨[(.ptr 0 0),.str,.str],[.cells [(.int .i64)]]⟩
def q7K:List FOut:=[⟨.str,[.cells [(.int .i64)]],none⟩]
noncomputable def qdl:=qe [(217,q9 q5V q5S uW),(254,q9 q1A q1W vK)] [(214,f214)] [] 1
noncomputable def kU:=qt qdl 214 f214 true q6N q7K
theorem qiS:zb prog qa 214 (q9 q6N q7K kU):=sk qdl qc q8 (alc q5b (alc q7T aln)) aln (b1 func214) func214
def q7M:FIn:=⟨[(.ptr 0 0),.str,.str],[.cells [(.int .i64)]]⟩
def q7h:List FOut:=[⟨.str,[.cells [(.int .i64)]],none⟩]
noncomputable def qd2:=qe [(221,q9 qbv qc3 yU),(254,q9 q1A q1W vK)] [(215,f215)] [] 1
noncomputable def q0a:=qt qd2 215 f215 true q7M q7h
theorem qhz:zb prog qa 215 (q9 q7M q7h q0a):=sk qd2 qc q8 (alc q8W (alc q7T aln)) aln (b1 func215) func215
def qdF:FIn:=⟨[(.agg [(.int .i64),(.int .i64),(.imm [.str])]),(.int .i64),(.int .i64)],[]⟩
def qdz:List FOut:=[⟨.str,[],none⟩]
noncomputable def qkc:=qe [] [(216,f216)] [] 0
noncomputable def q51:=qt qkc 216 f216 true qdF qdz
theorem qov:zb prog qa 216 (q9 qdF qdz q51):=sk qkc qc q8 aln aln (b1 func216) func216
def qet:FIn:=⟨[(.agg [(.int .i64),(.int .i64),(.imm [.str])]),(.imm [.str])],[]⟩
def qdM:List FOut:=[⟨(.tuple [(.imm [.str]),(.int .i64)]),[],none⟩]
def q8B:Tmpl:={ t:=(.any::(.imm [.str])::(.ptr 0 0)::qx 5 ((.ptr 1 0)::(.vec 2)::(.int .i64)::.str::qx 20 ((.int .i64)::(.int .i64)::.any::.any::(.imm [.str])::(.int .i64)::(.int .i64)::qx 30 []))),h:=[.cells [(.int .i64),(.int .i64),(.imm [.str])],.cells [(.int .i64)],.vec 32 [.str]] }
def q8g:List Out:=[⟨(.exit 2),{ t:=(.any::(.imm [.str])::(.ptr 0 0)::qx 5 ((.ptr 1 0)::(.vec 2)::.any::.str::qx 20 ((.int .i64)::(.int .i64)::qx 35 []))),h:=[.cells [(.int .i64),(.int .i64),(.imm [.str])],.cells [(.int .i64)],.vec 32 [.str]] }⟩]
noncomputable def q6s:List (FuncId×zP):=[(208,q9 qe4 qdE yf),(213,q9 q5q q5A jA),(214,q9 q6N q7K kU),(215,q9 q7M q7h q0a),(216,q9 qdF qdz q51)]
theorem q9I:∀x,x∈q6s->zb prog qa x.1 x.2:=(alc qfi (alc qcg (alc qiS (alc qhz (alc qov aln)))))
noncomputable def q3D:=qe q6s [(163,f163)] [] 0
noncomputable def uL:=wj q3D 163 f163 24 q8B q8g
theorem qjH:qm prog qa q3D.nimp (qC prog q3D.iter 163) (zo f163 24) (qk q8B q8g (qf uL)):=gk q3D qc q8 q9I aln (b1 func163) func163
def q8y:Tmpl:={ t:=(.any::(.imm [.str])::(.ptr 0 0)::qx 5 ((.ptr 1 0)::(.vec 2)::qx 22 ((.int .i64)::(.int .i64)::qx 35 []))),h:=[.cells [(.int .i64),(.int .i64),(.imm [.str])],.cells [(.int .i64)],.vec 32 [.str]],pro:=[(9,32,[.str])] }
def q8k:List Out:=[⟨(.exit 0),{ t:=(qx 8 ((.ptr 1 0)::(.vec 2)::qx 59 [])),h:=[.dead,.cells [(.int .i64)],.vec 32 [.str]] }⟩]
noncomputable def q3R:=qe q6s [(163,f163)] [((163,24),qk q8B q8g (qf uL))] 0
noncomputable def uQ:=wj q3R 163 f163 16 q8y q8k
theorem qjM:qm prog qa q3R.nimp (qC prog q3R.iter 163) (zo f163 16) (qk q8y q8k (qf uQ)):=gk q3R qc q8 q9I (alc (lk func163 qjH) aln) (b1 func163) func163
noncomputable def qjV:=qe q6s [(163,f163)] [((163,16),qk q8y q8k (qf uQ))] 0
noncomputable def q53:=qt qjV 163 f163 true qet qdM
theorem qo6:zb prog qa 163 (q9 qet qdM q53):=sk qjV qc q8 q9I (alc (lk func163 qjM) aln) (b1 func163) func163
def qlB:FIn:=⟨[(.imm [.str])],[]⟩
def qlt:List FOut:=[⟨(.tuple [.str,(.int .i64)]),[],none⟩]
def qe8:Tmpl:={ t:=(qx 5 (.str::qx 12 ((.imm [.str])::(.int .i64)::(.int .i64)::qx 15 []))),h:=[] }
def qdI:List Out:=[⟨(.exit 0),{ t:=(qx 5 (.str::qx 30 [])),h:=[] }⟩,⟨.ret,{ t:=(.any::.any::.str::(.int .i64)::qx 32 []),h:=[] }⟩]
noncomputable def q8Z:=qe [(89,q9 j8 ja qX),(217,q9 q5V q5S uW)] [(164,f164)] [] 0
noncomputable def q2o:=wj q8Z 164 f164 11 qe8 qdI
theorem qnU:qm prog qa q8Z.nimp (qC prog q8Z.iter 164) (zo f164 11) (qk qe8 qdI (qf q2o)):=gk q8Z qc q8 (alc j0 (alc q5b aln)) aln (b1 func164) func164
noncomputable def qqt:=qe [(89,q9 j8 ja qX),(217,q9 q5V q5S uW)] [(164,f164)] [((164,11),qk qe8 qdI (qf q2o))] 0
noncomputable def qbM:=qt qqt 164 f164 true qlB qlt
theorem qsQ:zb prog qa 164 (q9 qlB qlt qbM):=sk qqt qc q8 (alc j0 (alc q5b aln)) (alc (lk func164 qnU) aln) (b1 func164) func164
def wM:FIn:=⟨[(.imm [.str]),(.imm [.str])],[]⟩
def wU:List FOut:=[⟨(.tuple [.str,(.int .i64)]),[],none⟩]
def jf:Tmpl:={ t:=(.any::(.imm [.str])::qx 4 (.str::qx 4 ((.imm [.str])::(.int .i64)::(.int .i64)::qx 27 []))),h:=[] }
def jq:List Out:=[⟨(.exit 0),{ t:=(qx 6 (.str::qx 34 [])),h:=[] }⟩,⟨.ret,{ t:=(qx 4 (.str::(.int .i64)::qx 35 [])),h:=[] }⟩]
noncomputable def wk:=qe [(217,q9 q5V q5S uW),(221,q9 qbv qc3 yU)] [(167,f167)] [] 0
noncomputable def zj:=wj wk 167 f167 4 jf jq
theorem q4N:qm prog qa wk.nimp (qC prog wk.iter 167) (zo f167 4) (qk jf jq (qf zj)):=gk wk qc q8 (alc q5b (alc q8W aln)) aln (b1 func167) func167
noncomputable def q1m:=qe [(217,q9 q5V q5S uW),(221,q9 qbv qc3 yU)] [(167,f167)] [((167,4),qk jf jq (qf zj))] 0
noncomputable def qT:=qt q1m 167 f167 true wM wU
theorem kr:zb prog qa 167 (q9 wM wU qT):=sk q1m qc q8 (alc q5b (alc q8W aln)) (alc (lk func167 q4N) aln) (b1 func167) func167
def q4S:FIn:=⟨[(.agg [.str,.str,.str]),(.agg [(.int .i64),(.int .i64),(.int .i64)])],[]⟩
def q59:List FOut:=[⟨(.tuple [.str,(.int .i64)]),[],none⟩]
def qa9:Tmpl:={ t:=(.any::.any::(.ptr 0 0)::.any::.any::.any::(.vec 2)::qx 5 ((.agg [(.int .i64),(.int .i64),(.int .i64)])::(.int .i64)::qx 25 [])),h:=[.cells [.str,.str,.str],.dead,.vec 32 [.str]],pro:=[(6,32,[.str])] }
def qad:List Out:=[⟨(.exit 0),{ t:=(qx 6 ((.vec 2)::qx 32 [])),h:=[.dead,.dead,.vec 32 [.str]] }⟩,⟨.ret,{ t:=(qx 4 (.str::(.int .i64)::qx 33 [])),h:=[] }⟩]
noncomputable def qc4:List (FuncId×zP):=[(160,q9 q70 q7v ya),(165,q9 qfu qgq v6),(166,q9 vP vZ qY),(167,q9 wM wU qT)]
theorem qgF:∀x,x∈qc4->zb prog qa x.1 x.2:=(alc qae (alc qds (alc yO (alc kr aln))))
noncomputable def q5k:=qe qc4 [(168,f168)] [] 0
noncomputable def kP:=wj q5k 168 f168 4 qa9 qad
theorem qlK:qm prog qa q5k.nimp (qC prog q5k.iter 168) (zo f168 4) (qk qa9 qad (qf kP)):=gk q5k qc q8 qgF aln (b1 func168) func168
noncomputable def qjO:=qe qc4 [(168,f168)] [((168,4),qk qa9 qad (qf kP))] 0
noncomputable def j9:=qt qjO 168 f168 true q4S q59
theorem q8v:zb prog qa 168 (q9 q4S q59 j9):=sk qjO qc q8 qgF (alc (lk func168 qlK) aln) (b1 func168) func168
def q5w:FIn:=⟨[(.imm [(.int .i64),(.int .i64),(.int .i64)])],[]⟩
def q5v:List FOut:=[⟨(.tuple [(.agg [.str,.str,.str,.str,(.imm [.str])]),.bool,(.int .i64)]),[],none⟩]
def q5Y:Tmpl:={ t:=((.imm [(.int .i64),(.int .i64),(.int .i64)])::.any::(.ptr 0 0)::.any::.any::(.int .i64)::(.vec 1)::(.vec 2)::(.int .i64)::qx 15 ((.int .i64)::(.int .i64)::.any::.any::(.int .i64)::(.int .i64)::qx 141 [])),h:=[.cells [.str,.str,.str,.str,.nils],.vec 3 [(.int .i64)],.vec 32 [.str]] }
def q60:List Out:=[⟨(.exit 2),{ t:=((.imm [(.int .i64),(.int .i64),(.int .i64)])::.any::(.ptr 0 0)::.any::.any::(.int .i64)::(.vec 1)::(.vec 2)::(.int .i64)::qx 15 ((.int .i64)::(.int .i64)::qx 145 [])),h:=[.cells [.str,.str,.str,.str,.nils],.vec 3 [(.int .i64)],.vec 32 [.str]] }⟩]
noncomputable def uH:List (FuncId×zP):=[(159,q9 qfn qgb q1B),(160,q9 q70 q7v ya),(161,q9 qld qkY qcw),(162,q9 qh5 qhc u4),(163,q9 qet qdM q53),(164,q9 qlB qlt qbM),(165,q9 qfu qgq v6),(166,q9 vP vZ qY),(167,q9 wM wU qT),(168,q9 q4S q59 j9)]
theorem q02:∀x,x∈uH->zb prog qa x.1 x.2:=(alc qq2 (alc qae (alc qts (alc qlF (alc qo6 (alc qsQ (alc qds (alc yO (alc kr (alc q8v aln))))))))))
noncomputable def q1u:=qe uH [(123,f123)] [] 0
noncomputable def jX:=wj q1u 123 f123 13 q5Y q60
theorem qhn:qm prog qa q1u.nimp (qC prog q1u.iter 123) (zo f123 13) (qk q5Y q60 (qf jX)):=gk q1u qc q8 q02 aln (b1 func123) func123
def q6X:Tmpl:={ t:=((.imm [(.int .i64),(.int .i64),(.int .i64)])::.any::(.ptr 0 0)::.any::.any::(.int .i64)::(.vec 1)::(.vec 2)::qx 16 ((.int .i64)::(.int .i64)::qx 145 [])),h:=[.cells [.str,.str,.str,.str,.nils],.vec 3 [(.int .i64)],.vec 32 [.str]],pro:=[(6,3,[(.int .i64)]),(7,32,[.str])] }
def q77:List Out:=[⟨(.exit 0),{ t:=((.imm [(.int .i64),(.int .i64),(.int .i64)])::.any::(.ptr 0 0)::.any::.any::(.int .i64)::(.vec 1)::(.vec 2)::qx 163 []),h:=[.cells [.str,.str,.str,.str,.nils],.vec 3 [(.int .i64)],.vec 32 [.str]] }⟩]
noncomputable def q2V:=qe uH [(123,f123)] [((123,13),qk q5Y q60 (qf jX))] 0
noncomputable def yM:=wj q2V 123 f123 6 q6X q77
theorem qi4:qm prog qa q2V.nimp (qC prog q2V.iter 123) (zo f123 6) (qk q6X q77 (qf yM)):=gk q2V qc q8 q02 (alc (lk func123 qhn) aln) (b1 func123) func123
def q5Q:Tmpl:={ t:=((.imm [(.int .i64),(.int .i64),(.int .i64)])::.any::(.ptr 0 0)::qx 13 ((.ptr 6 0)::(.int .i64)::(.vec 7)::qx 107 ((.int .i64)::.any::.any::(.imm [(.int .i64),(.int .i64),(.int .i64)])::(.int .i64)::(.int .i64)::qx 39 []))),h:=[.cells [.str,.str,.str,.str,.nils],.dead,.dead,.dead,.dead,.frz 32 [.str],.cells [.str,.str,.str,.str,(.vec 5)],.vec 32 [.str]],pro:=[(18,32,[.str])] }
def q5N:List Out:=[⟨(.exit 6),{ t:=((.imm [(.int .i64),(.int .i64),(.int .i64)])::.any::(.ptr 0 0)::qx 13 ((.ptr 6 0)::(.int .i64)::(.vec 7)::qx 107 ((.int .i64)::qx 44 []))),h:=[.cells [.str,.str,.str,.str,.nils],.dead,.dead,.dead,.dead,.frz 32 [.str],.cells [.str,.str,.str,.str,(.vec 5)],.vec 32 [.str]] }⟩]
noncomputable def q1t:=qe uH [(123,f123)] [] 0
noncomputable def jQ:=wj q1t 123 f123 52 q5Q q5N
theorem qht:qm prog qa q1t.nimp (qC prog q1t.iter 123) (zo f123 52) (qk q5Q q5N (qf jQ)):=gk q1t qc q8 q02 aln (b1 func123) func123
def q5L:Tmpl:={ t:=((.imm [(.int .i64),(.int .i64),(.int .i64)])::.any::(.ptr 0 0)::qx 13 ((.ptr 6 0)::qx 109 ((.int .i64)::qx 44 []))),h:=[.cells [.str,.str,.str,.str,.nils],.dead,.dead,.dead,.dead,.frz 32 [.str],.cells [.str,.str,.str,.str,(.vec 5)]],fz:=[5] }
def q5U:List Out:=[⟨(.exit 4),{ t:=((.imm [(.int .i64),(.int .i64),(.int .i64)])::.any::(.ptr 0 0)::qx 13 ((.ptr 6 0)::qx 154 [])),h:=[.cells [.str,.str,.str,.str,.nils],.dead,.dead,.dead,.dead,.frz 32 [.str],.cells [.str,.str,.str,.str,(.vec 5)]] }⟩,⟨.ret,{ t:=(.any::.any::(.ptr 0 0)::.bool::(.int .i64)::qx 166 []),h:=[.cells [.str,.str,.str,.str,.nils]] }⟩]
noncomputable def q1M:=qe uH [(123,f123)] [((123,52),qk q5Q q5N (qf jQ))] 0
noncomputable def jV:=wj q1M 123 f123 44 q5L q5U
theorem qhu:qm prog qa q1M.nimp (qC prog q1M.iter 123) (zo f123 44) (qk q5L q5U (qf jV)):=gk q1M qc q8 q02 (alc (lk func123 qht) aln) (b1 func123) func123
noncomputable def qh6:=qe uH [(123,f123)] [((123,6),qk q6X q77 (qf yM)),((123,44),qk q5L q5U (qf jV))] 0
noncomputable def jB:=qt qh6 123 f123 true q5w q5v
theorem qbQ:zb prog qa 123 (q9 q5w q5v jB):=sk qh6 qc q8 q02 (alc (lk func123 qi4) (alc (lk func123 qhu) aln)) (b1 func123) func123
def q9S:FIn:=⟨[(.imm [(.int .i64),(.int .i64),(.int .i64)]),(.imm [(.int .i64)])],[]⟩
def q9Z:List FOut:=[⟨(.imm [(.int .i64),(.int .i64),(.int .i64)]),[],none⟩]
def q7k:Tmpl:={ t:=((.imm [(.int .i64),(.int .i64),(.int .i64)])::qx 4 ((.vec 0)::.any::.any::(.imm [(.int .i64)])::(.int .i64)::(.int .i64)::qx 12 [])),h:=[.vec 31 [(.int .i64),(.int .i64),(.int .i64)]],pro:=[(5,31,[(.int .i64),(.int .i64),(.int .i64)])] }
def q6Y:List Out:=[⟨(.exit 0),{ t:=(qx 5 ((.vec 0)::qx 17 [])),h:=[.vec 31 [(.int .i64),(.int .i64),(.int .i64)]] }⟩]
noncomputable def q2S:=qe [] [(151,f151)] [] 0
noncomputable def yH:=wj q2S 151 f151 4 q7k q6Y
theorem qhK:qm prog qa q2S.nimp (qC prog q2S.iter 151) (zo f151 4) (qk q7k q6Y (qf yH)):=gk q2S qc q8 aln aln (b1 func151) func151
noncomputable def qgK:=qe [] [(151,f151)] [((151,4),qk q7k q6Y (qf yH))] 0
noncomputable def q25:=qt qgK 151 f151 true q9S q9Z
theorem qkX:zb prog qa 151 (q9 q9S q9Z q25):=sk qgK qc q8 aln (alc (lk func151 qhK) aln) (b1 func151) func151
def qfy:FIn:=⟨[.str],[]⟩
def qfF:List FOut:=[⟨(.tuple [.str,.str,(.int .i64)]),[],none⟩]
noncomputable def qna:=qe [(90,q9 q1w q20 zv),(106,q9 q00 q0b zI)] [(249,f249)] [] 0
noncomputable def q6Q:=qt qna 249 f249 true qfy qfF
theorem qpW:zb prog qa 249 (q9 qfy qfF q6Q):=sk qna qc q8 (alc q0A (alc kJ aln)) aln (b1 func249) func249
def qif:FIn:=⟨[.str],[]⟩
def qi9:List FOut:=[⟨(.tuple [(.int .i64),(.int .i64)]),[],none⟩]
noncomputable def qoW:=qe [(132,q9 q9j q9l uw),(141,q9 kV q0c zy)] [(250,f250)] [] 0
noncomputable def q9e:=qt qoW 250 f250 true qif qi9
theorem qrR:zb prog qa 250 (q9 qif qi9 q9e):=sk qoW qc q8 (alc qbE (alc kG aln)) aln (b1 func250) func250
def qiC:FIn:=⟨[.str],[]⟩
def qiQ:List FOut:=[⟨(.tuple [(.int .i64),(.int .i64)]),[],none⟩]
noncomputable def qpd:=qe [(249,q9 qfy qfF q6Q),(250,q9 qif qi9 q9e)] [(202,f202)] [] 0
noncomputable def q6f:=qt qpd 202 f202 true qiC qiQ
theorem qrN:zb prog qa 202 (q9 qiC qiQ q6f):=sk qpd qc q8 (alc qpW (alc qrR aln)) aln (b1 func202) func202
def vk:FIn:=⟨[.str],[]⟩
def vu:List FOut:=[⟨.bool,[],none⟩]
noncomputable def q4O:=qe [(202,q9 qiC qiQ q6f)] [(201,f201)] [] 0
noncomputable def zL:=qt q4O 201 f201 true vk vu
theorem ut:zb prog qa 201 (q9 vk vu zL):=sk q4O qc q8 (alc qrN aln) aln (b1 func201) func201
def z6:FIn:=⟨[(.imm [.str]),(.fn 201 [] [])],[]⟩
def za:List FOut:=[⟨.bool,[],none⟩]
def qO:Tmpl:={ t:=((.imm [.str])::(.fn 201 [] [])::qx 5 ((.int .i64)::(.int .i64)::qx 10 [])),h:=[],fs:=[[(.imm [.str]),(.fn 201 [] []),.any,.any,(.blit false),(.imm [.str]),(.fn 201 [] []),.any,.any],[]] }
def qQ:List Out:=[⟨(.exit 0),{ t:=(qx 19 []),h:=[],fs:=[[(.imm [.str]),(.fn 201 [] []),.any,.any,(.blit false),(.imm [.str]),(.fn 201 [] []),.any,.any],[]] }⟩,⟨.ret,{ t:=(qx 4 ((.int .i64)::qx 14 [])),h:=[],fs:=[[(.imm [.str]),(.fn 201 [] []),.any,.any,(.blit false),(.imm [.str]),(.fn 201 [] []),.any,.any],[]] }⟩]
noncomputable def qz:=qe [(201,q9 vk vu zL)] [(48,f48),(99,f99)] [] 0
noncomputable def qj:=wj qz 99 f99 3 qO qQ
theorem vq:qm prog qa qz.nimp (qC prog qz.iter 99) (zo f99 3) (qk qO qQ (qf qj)):=gk qz qc q8 (alc ut aln) aln (alc (bk func48) (alc (bk func99) aln)) func99
noncomputable def zM:=qe [(201,q9 vk vu zL)] [(48,f48),(99,f99)] [((99,3),qk qO qQ (qf qj))] 0
noncomputable def qu:=qt zM 48 f48 true z6 za
theorem j7:zb prog qa 48 (q9 z6 za qu):=sk zM qc q8 (alc ut aln) (alc (lk func99 vq) aln) (alc (bk func48) (alc (bk func99) aln)) func48
def q1y:FIn:=⟨[(.agg [.str,.str,.str,.str,(.imm [.str])])],[]⟩
def q1G:List FOut:=[⟨.bool,[],none⟩]
noncomputable def q7E:=qe [(201,q9 vk vu zL),(48,q9 z6 za qu)] [(152,f152)] [] 0
noncomputable def jh:=qt q7E 152 f152 true q1y q1G
theorem qcB:zb prog qa 152 (q9 q1y q1G jh):=sk q7E qc q8 (alc ut (alc j7 aln)) aln (b1 func152) func152
def uR:FIn:=⟨[.str,.str],[]⟩
def uV:List FOut:=[⟨(.tuple [(.int .i64),(.int .i64)]),[],none⟩]
noncomputable def qhY:=qe [(89,q9 j8 ja qX),(90,q9 q1w q20 zv),(91,q9 yV yW qB),(92,q9 q6V q7j uS)] [(34,f34)] [] 0
noncomputable def zd:=qt qhY 34 f34 true uR uV
theorem q03:zb prog qa 34 (q9 uR uV zd):=sk qhY qc q8 (alc j0 (alc q0A (alc uX (alc qdi aln)))) aln (b1 func34) func34
def q0l:FIn:=⟨[(.agg [.str,.str,.str,.str,(.imm [.str])]),(.imm [(.int .i64),(.int .i64),(.int .i64)])],[]⟩
def q0D:List FOut:=[⟨(.tuple [.bool,(.int .i64)]),[],none⟩]
def uY:Tmpl:={ t:=(.any::.any::(.ptr 0 0)::qx 9 ((.imm [(.int .i64),(.int .i64),(.int .i64)])::(.int .i64)::(.int .i64)::qx 28 [])),h:=[.cells [.str,.str,.str,.str,(.imm [.str])]] }
def kf:List Out:=[⟨(.exit 0),{ t:=(qx 43 []),h:=[] }⟩,⟨.ret,{ t:=(qx 4 (.bool::(.int .i64)::qx 37 [])),h:=[] }⟩]
noncomputable def jn:=qe [(34,q9 uR uV zd),(168,q9 q4S q59 j9)] [(153,f153)] [] 0
noncomputable def zw:=wj jn 153 f153 3 uY kf
theorem q99:qm prog qa jn.nimp (qC prog jn.iter 153) (zo f153 3) (qk uY kf (qf zw)):=gk jn qc q8 (alc q03 (alc q8v aln)) aln (b1 func153) func153
noncomputable def q5a:=qe [(34,q9 uR uV zd),(168,q9 q4S q59 j9)] [(153,f153)] [((153,3),qk uY kf (qf zw))] 0
noncomputable def vC:=qt q5a 153 f153 true q0l q0D
theorem qav:zb prog qa 153 (q9 q0l q0D vC):=sk q5a qc q8 (alc q03 (alc q8v aln)) (alc (lk func153 q99) aln) (b1 func153) func153
def q1S:FIn:=⟨[(.imm [(.int .i64),(.int .i64),(.int .i64)]),(.imm [(.int .i64)])],[]⟩
def q1x:List FOut:=[⟨(.tuple [(.agg [.str,.str,.str,.str,(.imm [.str])]),.bool,(.int .i64)]),[],none⟩]
noncomputable def qbs:=qe [(123,q9 q5w q5v jB),(151,q9 q9S q9Z q25),(152,q9 q1y q1G jh),(153,q9 q0l q0D vC)] [(114,f114)] [] 0
noncomputable def zK:=qt qbs 114 f114 true q1S q1x
theorem q7X:zb prog qa 114 (q9 q1S q1x zK):=sk qbs qc q8 (alc qbQ (alc qkX (alc qcB (alc qav aln)))) aln (b1 func114) func114
def q71:FIn:=⟨[(.imm [(.int .i64),(.int .i64),(.int .i64)]),(.int .i64)],[]⟩
def q7o:List FOut:=[⟨(.tuple [(.agg [.str,.str,.str,.str,(.imm [.str])]),(.imm [(.int .i64)]),(.int .i64)]),[],none⟩]
def q2B:Tmpl:={ t:=(.yld::.any::(.ptr 4 0)::.any::.any::(.vec 7)::.any::(.imm [(.int .i64)])::.any::(.int .i64)::.any::.any::(.int .i64)::(.int .i64)::.any::(.vec 6)::(.int .i64)::(.int .i64)::qx 35 []),h:=[.cells [(.imm [(.int .i64),(.int .i64),(.int .i64)])],.cells [.str,.str,.str,.str,.nils],.cells [.nils],.cells [(.int .i64)],.cells [(.int .i64)],.cells [(.int .i64)],.vec 35 [(.sl [(.int .i64)])],.vec 35 [(.sl [(.int .i64)])]],fs:=[[.any,.any,(.ptr 0 0),.any,(.ptr 1 0),(.ptr 2 0),(.ptr 3 0),.any,.any,.any,.any,.any,.any,.any,(.fn 149 [] [(.ptr 5 0),(.ptr 4 0)]),.any,.any,.any,.any,.any,.any,.any,.any,.any,.any,.any,.any,.any,.any,.any,.any],[]] }
def q2A:List Out:=[⟨(.exit 4),{ t:=(.yld::.any::(.ptr 4 0)::.any::.any::(.vec 7)::qx 6 ((.int .i64)::(.int .i64)::.any::(.vec 6)::(.int .i64)::(.int .i64)::qx 35 [])),h:=[.cells [(.imm [(.int .i64),(.int .i64),(.int .i64)])],.cells [.str,.str,.str,.str,.nils],.cells [.nils],.cells [(.int .i64)],.cells [(.int .i64)],.cells [(.int .i64)],.vec 35 [(.sl [(.int .i64)])],.vec 35 [(.sl [(.int .i64)])]],fs:=[[.any,.any,(.ptr 0 0),.any,(.ptr 1 0),(.ptr 2 0),(.ptr 3 0),.any,.any,.any,.any,.any,.any,.any,(.fn 149 [] [(.ptr 5 0),(.ptr 4 0)]),.any,.any,.any,.any,.any,.any,.any,.any,.any,.any,.any,.any,.any,.any,.any,.any],[]] }⟩,⟨.ret,{ t:=(qx 53 []),h:=[.cells [(.imm [(.int .i64),(.int .i64),(.int .i64)])],.cells [.str,.str,.str,.str,(.imm [.str])],.cells [(.vec 8)],.cells [(.int .i64)],.cells [(.int .i64)],.cells [(.int .i64)],.dead,.dead,.frz 3 [(.int .i64)]],fs:=[[.any,.any,(.ptr 0 0),.any,(.ptr 1 0),(.ptr 2 0),(.ptr 3 0),.any,.any,.any,.any,.any,.any,.any,(.fn 149 [] [(.ptr 5 0),(.ptr 4 0)]),.any,.any,.any,.any,.any,.any,.any,.any,.any,.any,.any,.any,.any,.any,.any,.any],[]],pend:=(.some .ret) }⟩]
noncomputable def q2e:List (FuncId×zP):=[(114,q9 q1S q1x zK),(150,q9 q2v q2E vg)]
theorem q48:∀x,x∈q2e->zb prog qa x.1 x.2:=(alc q7X (alc qdS aln))
noncomputable def ko:Env:={ tt:=qah,glob:=qa,spec:=q2e,body:=[(66,f66),(113,f113),(149,f149)],loops:=[],nimp:=0,iter:=[(149,66,3)],raws:=[150] }
noncomputable def zc:=qAQ ko (some (66,f66,3)) 149 f149 18 q2B q2A
theorem qdZ:qm prog qa ko.nimp (qC prog ko.iter 149) (zo f149 18) (qk q2B q2A (qf zc)):=qda (E:=ko) qc ⟨q4e q8,⟨q48,aln⟩,aln,(alc (bk func66) (alc (bk func113) (alc (bk func149) aln)))⟩ func149 (by kernel_rfl) (y:=some (66,f66,3)) ⟨func66,by kernel_rfl⟩ (by kernel_rfl) (by kernel_rfl) (fun _=>rfl)
def q2Y:Tmpl:={ t:=(.yld::.any::(.ptr 4 0)::.any::.any::(.vec 7)::qx 6 ((.int .i64)::(.int .i64)::.any::(.vec 6)::(.int .i64)::(.int .i64)::qx 35 [])),h:=[.cells [(.imm [(.int .i64),(.int .i64),(.int .i64)])],.cells [.str,.str,.str,.str,.nils],.cells [.nils],.cells [(.int .i64)],.cells [(.int .i64)],.cells [(.int .i64)],.vec 35 [(.sl [(.int .i64)])],.vec 35 [(.sl [(.int .i64)])]],pro:=[(5,35,[(.sl [(.int .i64)])])],fs:=[[.any,.any,(.ptr 0 0),.any,(.ptr 1 0),(.ptr 2 0),(.ptr 3 0),.any,.any,.any,.any,.any,.any,.any,(.fn 149 [] [(.ptr 5 0),(.ptr 4 0)]),.any,.any,.any,.any,.any,.any,.any,.any,.any,.any,.any,.any,.any,.any,.any,.any],[]] }
def q2X:List Out:=[⟨(.exit 2),{ t:=(.yld::.any::(.ptr 4 0)::.any::.any::(.vec 7)::qx 6 ((.int .i64)::(.int .i64)::qx 39 [])),h:=[.cells [(.imm [(.int .i64),(.int .i64),(.int .i64)])],.cells [.str,.str,.str,.str,.nils],.cells [.nils],.cells [(.int .i64)],.cells [(.int .i64)],.cells [(.int .i64)],.dead,.vec 35 [(.sl [(.int .i64)])]],fs:=[[.any,.any,(.ptr 0 0),.any,(.ptr 1 0),(.ptr 2 0),(.ptr 3 0),.any,.any,.any,.any,.any,.any,.any,(.fn 149 [] [(.ptr 5 0),(.ptr 4 0)]),.any,.any,.any,.any,.any,.any,.any,.any,.any,.any,.any,.any,.any,.any,.any,.any],[]] }⟩,⟨.ret,{ t:=(qx 53 []),h:=[.cells [(.imm [(.int .i64),(.int .i64),(.int .i64)])],.cells [.str,.str,.str,.str,(.imm [.str])],.cells [(.vec 8)],.cells [(.int .i64)],.cells [(.int .i64)],.cells [(.int .i64)],.dead,.dead,.frz 3 [(.int .i64)]],fs:=[[.any,.any,(.ptr 0 0),.any,(.ptr 1 0),(.ptr 2 0),(.ptr 3 0),.any,.any,.any,.any,.any,.any,.any,(.fn 149 [] [(.ptr 5 0),(.ptr 4 0)]),.any,.any,.any,.any,.any,.any,.any,.any,.any,.any,.any,.any,.any,.any,.any,.any],[]],pend:=(.some .ret) }⟩]
noncomputable def q0e:Env:={ tt:=qah,glob:=qa,spec:=q2e,body:=[(66,f66),(113,f113),(149,f149)],loops:=[((149,18),qk q2B q2A (qf zc))],nimp:=0,iter:=[(149,66,3)],raws:=[150] }
noncomputable def vY:=qAQ q0e (some (66,f66,3)) 149 f149 9 q2Y q2X
theorem qeY:qm prog qa q0e.nimp (qC prog q0e.iter 149) (zo f149 9) (qk q2Y q2X (qf vY)):=qda (E:=q0e) qc ⟨q4e q8,⟨q48,aln⟩,(alc (lk func149 qdZ) aln),(alc (bk func66) (alc (bk func113) (alc (bk func149) aln)))⟩ func149 (by kernel_rfl) (y:=some (66,f66,3)) ⟨func66,by kernel_rfl⟩ (by kernel_rfl) (by kernel_rfl) (fun _=>rfl)
def q3y:Tmpl:={ t:=(.yld::.any::(.ptr 4 0)::.any::(.vec 6)::qx 7 ((.int .i64)::(.int .i64)::qx 39 [])),h:=[.cells [(.imm [(.int .i64),(.int .i64),(.int .i64)])],.cells [.str,.str,.str,.str,.nils],.cells [.nils],.cells [(.int .i64)],.cells [(.int .i64)],.cells [(.int .i64)],.vec 35 [(.sl [(.int .i64)])]],sw:=[(2,4),(4,6)],swn:=0,fs:=[[.any,.any,(.ptr 0 0),.any,(.ptr 1 0),(.ptr 2 0),(.ptr 3 0),.any,.any,.any,.any,.any,.any,.any,(.fn 149 [] [(.ptr 5 0),(.ptr 4 0)]),.any,.any,.any,.any,.any,.any,.any,.any,.any,.any,.any,.any,.any,.any,.any,.any],[]] }
def q3h:List Out:=[⟨(.exit 0),{ t:=(qx 53 []),h:=[.cells [(.imm [(.int .i64),(.int .i64),(.int .i64)])],.cells [.str,.str,.str,.str,.nils],.cells [.nils],.cells [(.int .i64)],.cells [(.int .i64)],.cells [(.int .i64)]],fs:=[[.any,.any,(.ptr 0 0),.any,(.ptr 1 0),(.ptr 2 0),(.ptr 3 0),.any,.any,.any,.any,.any,.any,.any,(.fn 149 [] [(.ptr 5 0),(.ptr 4 0)]),.any,.any,.any,.any,.any,.any,.any,.any,.any,.any,.any,.any,.any,.any,.any,.any],[]] }⟩,⟨.ret,{ t:=(qx 53 []),h:=[.cells [(.imm [(.int .i64),(.int .i64),(.int .i64)])],.cells [.str,.str,.str,.str,(.imm [.str])],.cells [(.vec 8)],.cells [(.int .i64)],.cells [(.int .i64)],.cells [(.int .i64)],.dead,.dead,.frz 3 [(.int .i64)]],fs:=[[.any,.any,(.ptr 0 0),.any,(.ptr 1 0),(.ptr 2 0),(.ptr 3 0),.any,.any,.any,.any,.any,.any,.any,(.fn 149 [] [(.ptr 5 0),(.ptr 4 0)]),.any,.any,.any,.any,.any,.any,.any,.any,.any,.any,.any,.any,.any,.any,.any,.any],[]],pend:=(.some .ret) }⟩]
noncomputable def q09:Env:={ tt:=qah,glob:=qa,spec:=q2e,body:=[(66,f66),(113,f113),(149,f149)],loops:=[((149,9),qk q2Y q2X (qf vY))],nimp:=0,iter:=[(149,66,3)],raws:=[150] }
noncomputable def vQ:=qAQ q09 (some (66,f66,3)) 149 f149 2 q3y q3h
theorem qeD:qm prog qa q09.nimp (qC prog q09.iter 149) (zo f149 2) (qk q3y q3h (qf vQ)):=qda (E:=q09) qc ⟨q4e q8,⟨q48,aln⟩,(alc (lk func149 qeY) aln),(alc (bk func66) (alc (bk func113) (alc (bk func149) aln)))⟩ func149 (by kernel_rfl) (y:=some (66,f66,3)) ⟨func66,by kernel_rfl⟩ (by kernel_rfl) (by kernel_rfl) (fun _=>rfl)
noncomputable def qiT:Env:={ tt:=qah,glob:=qa,spec:=q2e,body:=[(66,f66),(113,f113),(149,f149)],loops:=[((149,2),qk q3y q3h (qf vQ))],nimp:=0,iter:=[(149,66,3)],raws:=[150] }
noncomputable def jd:=qt qiT 66 f66 true q71 q7o
theorem qdr:zb prog qa 66 (q9 q71 q7o jd):=sk qiT qc q8 q48 (alc (lk func149 qeD) aln) (alc (bk func66) (alc (bk func113) (alc (bk func149) aln))) func66
def q2i:FIn:=⟨[(.imm [(.int .i64),(.int .i64)])],[]⟩
def q2c:List FOut:=[⟨(.imm [(.int .i64),(.int .i64),(.int .i64)]),[],none⟩]
def q7q:Tmpl:={ t:=(.any::.any::.any::(.vec 0)::.any::.any::(.imm [(.int .i64),(.int .i64)])::(.int .i64)::(.int .i64)::qx 13 []),h:=[.vec 31 [(.int .i64),(.int .i64),(.int .i64)]],pro:=[(3,31,[(.int .i64),(.int .i64),(.int .i64)])] }
def q6t:List Out:=[⟨(.exit 0),{ t:=(.any::.any::.any::(.vec 0)::qx 18 []),h:=[.vec 31 [(.int .i64),(.int .i64),(.int .i64)]] }⟩]
noncomputable def q2U:=qe [] [(67,f67)] [] 0
noncomputable def yE:=wj q2U 67 f67 4 q7q q6t
theorem qit:qm prog qa q2U.nimp (qC prog q2U.iter 67) (zo f67 4) (qk q7q q6t (qf yE)):=gk q2U qc q8 aln aln (b1 func67) func67
noncomputable def qhd:=qe [] [(67,f67)] [((67,4),qk q7q q6t (qf yE))] 0
noncomputable def vH:=qt qhd 67 f67 true q2i q2c
theorem q61:zb prog qa 67 (q9 q2i q2c vH):=sk qhd qc q8 aln (alc (lk func67 qit) aln) (b1 func67) func67
def kp:FIn:=⟨[(.agg [.str,.str,.str,.str,(.imm [.str])])],[]⟩
def kh:List FOut:=[⟨(.agg [.str,.str]),[],none⟩]
noncomputable def q7Z:=qe [] [(68,f68)] [] 0
noncomputable def vd:=qt q7Z 68 f68 true kp kh
theorem q5f:zb prog qa 68 (q9 kp kh vd):=sk q7Z qc q8 aln aln (b1 func68) func68
def yT:FIn:=⟨[(.imm [(.int .i64),(.int .i64)])],[]⟩
def yZ:List FOut:=[⟨(.tuple [(.agg [.str,.str]),.str,(.imm [(.int .i64)]),(.int .i64)]),[],none⟩]
noncomputable def qgR:=qe [(65,q9 q5h q4W yg),(66,q9 q71 q7o jd),(67,q9 q2i q2c vH),(68,q9 kp kh vd)] [(16,f16)] [] 0
noncomputable def qV:=qt qgR 16 f16 true yT yZ
theorem k8:zb prog qa 16 (q9 yT yZ qV):=sk qgR qc q8 (alc q8A (alc qdr (alc q61 (alc q5f aln)))) aln (b1 func16) func16
def q9E:FIn:=⟨[],[]⟩
def q9y:List FOut:=[⟨.bool,[],none⟩]
noncomputable def qhh:=qe [(16,q9 yT yZ qV)] [(15,f15)] [] 0
noncomputable def kI:=qt qhh 15 f15 true q9E q9y
theorem qlj:zb prog qa 15 (q9 q9E q9y kI):=sk qhh qc q8 (alc k8 aln) aln (b1 func15) func15
def q3T:FIn:=⟨[(.agg [(.int .i64),(.int .i64),(.int .i64)])],[]⟩
def q4a:List FOut:=[⟨.bool,[],none⟩]
noncomputable def qn3:=qe [(200,q9 q6G q73 zu)] [(155,f155)] [] 0
noncomputable def q04:=qt qn3 155 f155 true q3T q4a
theorem q5H:zb prog qa 155 (q9 q3T q4a q04):=sk qn3 qc q8 (alc qdo aln) aln (b1 func155) func155
def q3f:FIn:=⟨[(.fn 155 [] []),(.imm [(.int .i64),(.int .i64),(.int .i64)])],[]⟩
def q3p:List FOut:=[⟨(.int .i64),[],none⟩]
def q1U:Tmpl:={ t:=((.fn 155 [] [])::qx 6 ((.imm [(.int .i64),(.int .i64),(.int .i64)])::(.int .i64)::(.int .i64)::qx 8 [])),h:=[] }
def q1J:List Out:=[⟨(.exit 0),{ t:=(qx 18 []),h:=[] }⟩,⟨.ret,{ t:=(qx 4 ((.int .i64)::qx 13 [])),h:=[] }⟩]
noncomputable def ui:=qe [(155,q9 q3T q4a q04)] [(203,f203)] [] 0
noncomputable def w8:=wj ui 203 f203 3 q1U q1J
theorem qcH:qm prog qa ui.nimp (qC prog ui.iter 203) (zo f203 3) (qk q1U q1J (qf w8)):=gk ui qc q8 (alc q5H aln) aln (b1 func203) func203
noncomputable def q9h:=qe [(155,q9 q3T q4a q04)] [(203,f203)] [((203,3),qk q1U q1J (qf w8))] 0
noncomputable def yB:=qt q9h 203 f203 true q3f q3p
theorem qfc:zb prog qa 203 (q9 q3f q3p yB):=sk q9h qc q8 (alc q5H aln) (alc (lk func203 qcH) aln) (b1 func203) func203
def q0C:FIn:=⟨[(.imm [(.int .i64),(.int .i64),(.int .i64)]),(.fn 155 [] [])],[]⟩
def q0p:List FOut:=[⟨(.int .i64),[],none⟩]
noncomputable def q4Z:=qe [(155,q9 q3T q4a q04),(203,q9 q3f q3p yB)] [(154,f154)] [] 0
noncomputable def vB:=qt q4Z 154 f154 true q0C q0p
theorem qaQ:zb prog qa 154 (q9 q0C q0p vB):=sk q4Z qc q8 (alc q5H (alc qfc aln)) aln (b1 func154) func154
def q5I:FIn:=⟨[(.imm [(.int .i64),(.int .i64),(.int .i64)])],[]⟩
def q5X:List FOut:=[⟨(.int .i64),[],none⟩]
noncomputable def qbu:=qe [(154,q9 q0C q0p vB),(155,q9 q3T q4a q04)] [(115,f115)] [] 0
noncomputable def k9:=qt qbu 115 f115 true q5I q5X
theorem qhs:zb prog qa 115 (q9 q5I q5X k9):=sk qbu qc q8 (alc qaQ (alc q5H aln)) aln (b1 func115) func115
def qdY:FIn:=⟨[(.imm [(.int .i64),(.int .i64),(.int .i64)])],[]⟩
def qdK:List FOut:=[⟨(.int .i64),[],none⟩]
noncomputable def qk3:=qe [(112,q9 q8T q8S q0i),(115,q9 q5I q5X k9)] [(69,f69)] [] 0
noncomputable def q4Y:=qt qk3 69 f69 true qdY qdK
theorem qnV:zb prog qa 69 (q9 qdY qdK q4Y):=sk qk3 qc q8 (alc qeZ (alc qhs aln)) aln (b1 func69) func69
def kR:FIn:=⟨[(.imm [(.int .i64),(.int .i64),(.int .i64)])],[]⟩
def kN:List FOut:=[⟨(.tuple [(.agg [.str,.str,.str]),.str,(.imm [(.int .i64)]),(.int .i64)]),[],none⟩]
noncomputable def qh8:=qe [(66,q9 q71 q7o jd),(69,q9 qdY qdK q4Y)] [(17,f17)] [] 0
noncomputable def ze:=qt qh8 17 f17 true kR kN
theorem q1z:zb prog qa 17 (q9 kR kN ze):=sk qh8 qc q8 (alc qdr (alc qnV aln)) aln (b1 func17) func17
def q4G:FIn:=⟨[(.int .i64),(.int .i64)],[]⟩
def q4V:List FOut:=[⟨(.imm [(.sl [(.int .i64)])]),[],none⟩]
noncomputable def qkb:=qe [] [] [] 0
noncomputable def uE:=qt qkb 18 f18 true q4G q4V
theorem q8e:zb prog qa 18 (q9 q4G q4V uE):=sk qkb qc q8 aln aln aln func18
def q4X:FIn:=⟨[(.int .i64),(.int .i64)],[]⟩
def q4P:List FOut:=[⟨(.imm [(.sl [(.int .i64)])]),[],none⟩]
def q8r:Tmpl:={ t:=((.int .i64)::qx 4 ((.vec 0)::.any::(.imm [(.int .i64)])::.any::(.int .i64)::qx 6 ((.imm [(.sl [(.int .i64)])])::(.int .i64)::(.int .i64)::qx 30 []))),h:=[.vec 35 [(.sl [(.int .i64)])]] }
def q8j:List Out:=[⟨(.exit 2),{ t:=((.int .i64)::qx 4 ((.vec 0)::qx 10 ((.imm [(.sl [(.int .i64)])])::(.int .i64)::(.int .i64)::qx 30 []))),h:=[.vec 35 [(.sl [(.int .i64)])]] }⟩]
noncomputable def q3A:=qe [(18,q9 q4G q4V uE)] [] [] 0
noncomputable def uO:=wj q3A 18 f18 16 q8r q8j
theorem qjF:qm prog qa q3A.nimp (qC prog q3A.iter 18) (zo f18 16) (qk q8r q8j (qf uO)):=gk q3A qc q8 (alc q8e aln) aln aln func18
def q9Y:Tmpl:={ t:=((.int .i64)::qx 4 ((.vec 0)::qx 10 ((.imm [(.sl [(.int .i64)])])::(.int .i64)::(.int .i64)::qx 30 []))),h:=[.vec 35 [(.sl [(.int .i64)])]],pro:=[(5,35,[(.sl [(.int .i64)])])] }
def q9N:List Out:=[⟨(.exit 0),{ t:=(qx 5 ((.vec 0)::qx 43 [])),h:=[.vec 35 [(.sl [(.int .i64)])]] }⟩]
noncomputable def q5p:=qe [(18,q9 q4G q4V uE)] [] [((18,16),qk q8r q8j (qf uO))] 0
noncomputable def q27:=wj q5p 18 f18 7 q9Y q9N
theorem qkZ:qm prog qa q5p.nimp (qC prog q5p.iter 18) (zo f18 7) (qk q9Y q9N (qf q27)):=gk q5p qc q8 (alc q8e aln) (alc (lk func18 qjF) aln) aln func18
noncomputable def qjW:=qe [(18,q9 q4G q4V uE)] [] [((18,7),qk q9Y q9N (qf q27))] 0
noncomputable def q0B:=qt qjW 18 f18 true q4X q4P
theorem q8w:zb prog qa 18 (q9 q4X q4P q0B):=sk qjW qc q8 (alc q8e aln) (alc (lk func18 qkZ) aln) aln func18
def q5c:FIn:=⟨[(.int .i64),(.int .i64)],[]⟩
def q52:List FOut:=[⟨(.imm [(.sl [(.int .i64)])]),[],none⟩]
def q8f:Tmpl:={ t:=((.int .i64)::qx 4 ((.vec 0)::.any::(.imm [(.int .i64)])::.any::(.int .i64)::qx 6 ((.imm [(.sl [(.int .i64)])])::(.int .i64)::(.int .i64)::qx 30 []))),h:=[.vec 35 [(.sl [(.int .i64)])]] }
def q84:List Out:=[⟨(.exit 2),{ t:=((.int .i64)::qx 4 ((.vec 0)::qx 10 ((.imm [(.sl [(.int .i64)])])::(.int .i64)::(.int .i64)::qx 30 []))),h:=[.vec 35 [(.sl [(.int .i64)])]] }⟩]
noncomputable def q3G:=qe [(18,q9 q4X q4P q0B)] [] [] 0
noncomputable def uI:=wj q3G 18 f18 16 q8f q84
theorem qjI:qm prog qa q3G.nimp (qC prog q3G.iter 18) (zo f18 16) (qk q8f q84 (qf uI)):=gk q3G qc q8 (alc q8w aln) aln aln func18
def qa1:Tmpl:={ t:=((.int .i64)::qx 4 ((.vec 0)::qx 10 ((.imm [(.sl [(.int .i64)])])::(.int .i64)::(.int .i64)::qx 30 []))),h:=[.vec 35 [(.sl [(.int .i64)])]],pro:=[(5,35,[(.sl [(.int .i64)])])] }
def qab:List Out:=[⟨(.exit 0),{ t:=(qx 5 ((.vec 0)::qx 43 [])),h:=[.vec 35 [(.sl [(.int .i64)])]] }⟩]
noncomputable def q5F:=qe [(18,q9 q4X q4P q0B)] [] [((18,16),qk q8f q84 (qf uI))] 0
noncomputable def q2h:=wj q5F 18 f18 7 qa1 qab
theorem qkQ:qm prog qa q5F.nimp (qC prog q5F.iter 18) (zo f18 7) (qk qa1 qab (qf q2h)):=gk q5F qc q8 (alc q8w aln) (alc (lk func18 qjI) aln) aln func18
noncomputable def qku:=qe [(18,q9 q4X q4P q0B)] [] [((18,7),qk qa1 qab (qf q2h))] 0
noncomputable def q0w:=qt qku 18 f18 true q5c q52
theorem q8F:zb prog qa 18 (q9 q5c q52 q0w):=sk qku qc q8 (alc q8w aln) (alc (lk func18 qkQ) aln) aln func18
def q4M:FIn:=⟨[(.int .i64),(.int .i64)],[]⟩
def q4I:List FOut:=[⟨(.imm [(.sl [(.int .i64)])]),[],none⟩]
def q8q:Tmpl:={ t:=((.int .i64)::qx 4 ((.vec 0)::.any::(.imm [(.int .i64)])::.any::(.int .i64)::qx 6 ((.imm [(.sl [(.int .i64)])])::(.int .i64)::(.int .i64)::qx 30 []))),h:=[.vec 35 [(.sl [(.int .i64)])]] }
def q8b:List Out:=[⟨(.exit 2),{ t:=((.int .i64)::qx 4 ((.vec 0)::qx 10 ((.imm [(.sl [(.int .i64)])])::(.int .i64)::(.int .i64)::qx 30 []))),h:=[.vec 35 [(.sl [(.int .i64)])]] }⟩]
noncomputable def q3H:=qe [(18,q9 q5c q52 q0w)] [] [] 0
noncomputable def uN:=wj q3H 18 f18 16 q8q q8b
theorem qjG:qm prog qa q3H.nimp (qC prog q3H.iter 18) (zo f18 16) (qk q8q q8b (qf uN)):=gk q3H qc q8 (alc q8F aln) aln aln func18
def q9A:Tmpl:={ t:=((.int .i64)::qx 4 ((.vec 0)::qx 10 ((.imm [(.sl [(.int .i64)])])::(.int .i64)::(.int .i64)::qx 30 []))),h:=[.vec 35 [(.sl [(.int .i64)])]],pro:=[(5,35,[(.sl [(.int .i64)])])] }
def q9W:List Out:=[⟨(.exit 0),{ t:=(qx 5 ((.vec 0)::qx 43 [])),h:=[.vec 35 [(.sl [(.int .i64)])]] }⟩]
noncomputable def q5E:=qe [(18,q9 q5c q52 q0w)] [] [((18,16),qk q8q q8b (qf uN))] 0
noncomputable def q2a:=wj q5E 18 f18 7 q9A q9W
theorem qkT:qm prog qa q5E.nimp (qC prog q5E.iter 18) (zo f18 7) (qk q9A q9W (qf q2a)):=gk q5E qc q8 (alc q8F aln) (alc (lk func18 qjG) aln) aln func18
noncomputable def qkC:=qe [(18,q9 q5c q52 q0w)] [] [((18,7),qk q9A q9W (qf q2a))] 0
noncomputable def q0v:=qt qkC 18 f18 true q4M q4I
theorem q8d:zb prog qa 18 (q9 q4M q4I q0v):=sk qkC qc q8 (alc q8F aln) (alc (lk func18 qkT) aln) aln func18
def qfR:FIn:=⟨[(.int .i64),(.int .i64)],[]⟩
def qfQ:List FOut:=[⟨(.imm [(.sl [(.int .i64)])]),[],none⟩]
def q9Q:Tmpl:={ t:=((.int .i64)::qx 4 ((.vec 0)::.any::(.imm [(.int .i64)])::.any::(.int .i64)::qx 6 ((.imm [(.sl [(.int .i64)])])::(.int .i64)::(.int .i64)::qx 30 []))),h:=[.vec 35 [(.sl [(.int .i64)])]] }
def qai:List Out:=[⟨(.exit 2),{ t:=((.int .i64)::qx 4 ((.vec 0)::qx 10 ((.imm [(.sl [(.int .i64)])])::(.int .i64)::(.int .i64)::qx 30 []))),h:=[.vec 35 [(.sl [(.int .i64)])]] }⟩]
noncomputable def q5l:=qe [(18,q9 q4M q4I q0v)] [] [] 0
noncomputable def kK:=wj q5l 18 f18 16 q9Q qai
theorem qkO:qm prog qa q5l.nimp (qC prog q5l.iter 18) (zo f18 16) (qk q9Q qai (qf kK)):=gk q5l qc q8 (alc q8d aln) aln aln func18
def qbC:Tmpl:={ t:=((.int .i64)::qx 4 ((.vec 0)::qx 10 ((.imm [(.sl [(.int .i64)])])::(.int .i64)::(.int .i64)::qx 30 []))),h:=[.vec 35 [(.sl [(.int .i64)])]],pro:=[(5,35,[(.sl [(.int .i64)])])] }
def qch:List Out:=[⟨(.exit 0),{ t:=(qx 5 ((.vec 0)::qx 43 [])),h:=[.vec 35 [(.sl [(.int .i64)])]] }⟩]
noncomputable def q7d:=qe [(18,q9 q4M q4I q0v)] [] [((18,16),qk q9Q qai (qf kK))] 0
noncomputable def q3s:=wj q7d 18 f18 7 qbC qch
theorem qnA:qm prog qa q7d.nimp (qC prog q7d.iter 18) (zo f18 7) (qk qbC qch (qf q3s)):=gk q7d qc q8 (alc q8d aln) (alc (lk func18 qkO) aln) aln func18
noncomputable def qmu:=qe [(18,q9 q4M q4I q0v)] [] [((18,7),qk qbC qch (qf q3s))] 0
noncomputable def q46:=qt qmu 18 f18 true qfR qfQ
theorem qpS:zb prog qa 18 (q9 qfR qfQ q46):=sk qmu qc q8 (alc q8d aln) (alc (lk func18 qnA) aln) aln func18
def qaN:FIn:=⟨[.str],[]⟩
def qas:List FOut:=[⟨(.int .i64),[],none⟩]
def qcf:Tmpl:={ t:=(.str::.any::.any::(.int .i64)::qx 11 []),h:=[] }
def qco:List Out:=[⟨(.exit 0),{ t:=(qx 15 []),h:=[] }⟩,⟨.ret,{ t:=(.any::.any::(.int .i64)::qx 12 []),h:=[] }⟩]
noncomputable def q76:=qe [] [(72,f72)] [] 0
noncomputable def q3i:=wj q76 72 f72 3 qcf qco
theorem qlU:qm prog qa q76.nimp (qC prog q76.iter 72) (zo f72 3) (qk qcf qco (qf q3i)):=gk q76 qc q8 aln aln (b1 func72) func72
noncomputable def qmU:=qe [] [(72,f72)] [((72,3),qk qcf qco (qf q3i))] 0
noncomputable def q1Z:=qt qmU 72 f72 true qaN qas
theorem qh3:zb prog qa 72 (q9 qaN qas q1Z):=sk qmU qc q8 aln (alc (lk func72 qlU) aln) (b1 func72) func72
def qb1:FIn:=⟨[.str],[]⟩
def qbc:List FOut:=[⟨(.tuple [.str,.str]),[],none⟩]
noncomputable def qnn:=qe [(72,q9 qaN qas q1Z)] [(70,f70)] [] 0
noncomputable def ul:=qt qnn 70 f70 true qb1 qbc
theorem qhi:zb prog qa 70 (q9 qb1 qbc ul):=sk qnn qc q8 (alc qh3 aln) aln (b1 func70) func70
def jD:FIn:=⟨[.str],[]⟩
def jy:List FOut:=[⟨.str,[],none⟩]
noncomputable def qps:=qe [] [(116,f116)] [] 0
noncomputable def qA:=qt qps 116 f116 true jD jy
theorem vE:zb prog qa 116 (q9 jD jy qA):=sk qps qc q8 aln aln (b1 func116) func116
def qfv:FIn:=⟨[.str],[]⟩
def qg8:List FOut:=[⟨(.int .i64),[],none⟩]
def qcl:Tmpl:={ t:=(.any::.any::.any::.str::(.int .i64)::qx 38 []),h:=[] }
def qcy:List Out:=[⟨(.exit 0),{ t:=(.any::.any::.any::.str::qx 39 []),h:=[] }⟩,⟨.ret,{ t:=(.any::.any::(.int .i64)::qx 40 []),h:=[] }⟩]
noncomputable def q74:=qe [(116,q9 jD jy qA)] [(71,f71)] [] 0
noncomputable def q3b:=wj q74 71 f71 7 qcl qcy
theorem qni:qm prog qa q74.nimp (qC prog q74.iter 71) (zo f71 7) (qk qcl qcy (qf q3b)):=gk q74 qc q8 (alc vE aln) aln (b1 func71) func71
noncomputable def qnj:=qe [(116,q9 jD jy qA)] [(71,f71)] [((71,7),qk qcl qcy (qf q3b))] 0
noncomputable def q3J:=qt qnj 71 f71 true qfv qg8
theorem qq6:zb prog qa 71 (q9 qfv qg8 q3J):=sk qnj qc q8 (alc vE aln) (alc (lk func71 qni) aln) (b1 func71) func71
def yk:FIn:=⟨[.str],[]⟩
def yv:List FOut:=[⟨.bool,[],none⟩]
noncomputable def qlT:=qe [] [(118,f118)] [] 0
noncomputable def qL:=qt qlT 118 f118 true yk yv
theorem jC:zb prog qa 118 (q9 yk yv qL):=sk qlT qc q8 aln aln (b1 func118) func118
def q0j:FIn:=⟨[.str,.bool],[]⟩
def q0y:List FOut:=[⟨.str,[],none⟩]
noncomputable def qk0:=qe [] [(119,f119)] [] 0
noncomputable def zF:=qt qk0 119 f119 true q0j q0y
theorem q16:zb prog qa 119 (q9 q0j q0y zF):=sk qk0 qc q8 aln aln (b1 func119) func119
def uF:FIn:=⟨[.str],[]⟩
def uC:List FOut:=[⟨.str,[],none⟩]
noncomputable def qkn:=qe [(116,q9 jD jy qA),(118,q9 yk yv qL),(119,q9 q0j q0y zF)] [(135,f135)] [] 0
noncomputable def wH:=qt qkn 135 f135 true uF uC
theorem uK:zb prog qa 135 (q9 uF uC wH):=sk qkn qc q8 (alc vE (alc jC (alc q16 aln))) aln (b1 func135) func135
def qfI:FIn:=⟨[(.int .i64)],[]⟩
def qgB:List FOut:=[⟨.str,[],none⟩]
def qgk:Tmpl:={ t:=((.int .i64)::.any::.any::.str::qx 33 []),h:=[] }
def qfD:List Out:=[⟨(.exit 0),{ t:=((.int .i64)::.any::.any::.str::qx 33 []),h:=[] }⟩]
noncomputable def qbf:=qe [(135,q9 uF uC wH)] [] [] 0
noncomputable def qaX:=wj qbf 93 f93 9 qgk qfD
theorem qpD:qm prog qa qbf.nimp (qC prog qbf.iter 93) (zo f93 9) (qk qgk qfD (qf qaX)):=gk qbf qc q8 (alc uK aln) aln aln func93
noncomputable def qs8:=qe [(135,q9 uF uC wH)] [] [((93,9),qk qgk qfD (qf qaX))] 0
noncomputable def q5P:=qt qs8 93 f93 true qfI qgB
theorem qkk:zb prog qa 93 (q9 qfI qgB q5P):=sk qs8 qc q8 (alc uK aln) (alc (lk func93 qpD) aln) aln func93
def q8x:FIn:=⟨[(.int .i64)],[]⟩
def q8I:List FOut:=[⟨.str,[],none⟩]
def qhN:Tmpl:={ t:=((.int .i64)::.any::.any::.str::qx 33 []),h:=[] }
def qhG:List Out:=[⟨(.exit 0),{ t:=((.int .i64)::.any::.any::.str::qx 33 []),h:=[] }⟩]
noncomputable def qde:=qe [(93,q9 qfI qgB q5P),(135,q9 uF uC wH)] [] [] 0
noncomputable def qdd:=wj qde 93 f93 9 qhN qhG
theorem qqU:qm prog qa qde.nimp (qC prog qde.iter 93) (zo f93 9) (qk qhN qhG (qf qdd)):=gk qde qc q8 (alc qkk (alc uK aln)) aln aln func93
noncomputable def quv:=qe [(93,q9 qfI qgB q5P),(135,q9 uF uC wH)] [] [((93,9),qk qhN qhG (qf qdd))] 0
noncomputable def wA:=qt quv 93 f93 true q8x q8I
theorem q6y:zb prog qa 93 (q9 q8x q8I wA):=sk quv qc q8 (alc qkk (alc uK aln)) (alc (lk func93 qqU) aln) aln func93
def qes:FIn:=⟨[.str],[]⟩
def qdu:List FOut:=[⟨(.int .i64),[],none⟩]
def q9r:Tmpl:={ t:=(.str::.any::.any::(.int .i64)::.str::(.int .i64)::qx 21 []),h:=[] }
def q9H:List Out:=[⟨(.exit 0),{ t:=(.str::.any::.any::(.int .i64)::qx 23 []),h:=[] }⟩]
noncomputable def q5s:=qe [(116,q9 jD jy qA),(118,q9 yk yv qL)] [(156,f156)] [] 0
noncomputable def kL:=wj q5s 156 f156 4 q9r q9H
theorem qlo:qm prog qa q5s.nimp (qC prog q5s.iter 156) (zo f156 4) (qk q9r q9H (qf kL)):=gk q5s qc q8 (alc vE (alc jC aln)) aln (b1 func156) func156
noncomputable def qkh:=qe [(116,q9 jD jy qA),(118,q9 yk yv qL)] [(156,f156)] [((156,4),qk q9r q9H (qf kL))] 0
noncomputable def uB:=qt qkh 156 f156 true qes qdu
theorem qof:zb prog qa 156 (q9 qes qdu uB):=sk qkh qc q8 (alc vE (alc jC aln)) (alc (lk func156 qlo) aln) (b1 func156) func156
def q3X:FIn:=⟨[.str,.str],[]⟩
def q3C:List FOut:=[⟨(.tuple [(.int .i64),(.int .i64),.bool]),[],none⟩]
noncomputable def qmM:=qe [(116,q9 jD jy qA),(156,q9 qes qdu uB)] [(120,f120)] [] 0
noncomputable def jm:=qt qmM 120 f120 true q3X q3C
theorem q5x:zb prog qa 120 (q9 q3X q3C jm):=sk qmM qc q8 (alc vE (alc qof aln)) aln (b1 func120) func120
def q96:FIn:=⟨[.str],[]⟩
def q9p:List FOut:=[⟨.str,[],none⟩]
def qey:Tmpl:={ t:=(.str::qx 13 []),h:=[] }
def qe9:List Out:=[⟨(.exit 0),{ t:=(.str::qx 13 []),h:=[] }⟩]
noncomputable def q91:=qe [] [(204,f204)] [] 0
noncomputable def q5e:=wj q91 204 f204 2 qey qe9
theorem qo9:qm prog qa q91.nimp (qC prog q91.iter 204) (zo f204 2) (qk qey qe9 (qf q5e)):=gk q91 qc q8 aln aln (b1 func204) func204
noncomputable def qpp:=qe [] [(204,f204)] [((204,2),qk qey qe9 (qf q5e))] 0
noncomputable def uD:=qt qpp 204 f204 true q96 q9p
theorem qc2:zb prog qa 204 (q9 q96 q9p uD):=sk qpp qc q8 aln (alc (lk func204 qo9) aln) (b1 func204) func204
def qiK:FIn:=⟨[.str,(.int .i64)],[]⟩
def qhL:List FOut:=[⟨.str,[],none⟩]
def qep:Tmpl:={ t:=(.str::(.int .i64)::.any::.any::.any::(.vec 0)::(.int .i64)::qx 20 []),h:=[.vec 5 [(.int .u8)]] }
def qdV:List Out:=[⟨(.exit 0),{ t:=(.str::(.int .i64)::.any::.any::.any::(.vec 0)::qx 21 []),h:=[.vec 5 [(.int .u8)]] }⟩]
noncomputable def q95:=qe [] [(231,f231)] [] 0
noncomputable def q2k:=wj q95 231 f231 4 qep qdV
theorem qob:qm prog qa q95.nimp (qC prog q95.iter 231) (zo f231 4) (qk qep qdV (qf q2k)):=gk q95 qc q8 aln aln (b1 func231) func231
noncomputable def qpo:=qe [] [(231,f231)] [((231,4),qk qep qdV (qf q2k))] 0
noncomputable def q66:=qt qpo 231 f231 true qiK qhL
theorem qrA:zb prog qa 231 (q9 qiK qhL q66):=sk qpo qc q8 aln (alc (lk func231 qob) aln) (b1 func231) func231
def qdB:FIn:=⟨[(.int .u8),(.int .u8),(.int .i64),.bool],[]⟩
def qdt:List FOut:=[⟨(.tuple [(.int .u8),(.int .i64)]),[],none⟩]
noncomputable def qjY:=qe [] [(232,f232)] [] 0
noncomputable def q5i:=qt qjY 232 f232 true qdB qdt
theorem qoj:zb prog qa 232 (q9 qdB qdt q5i):=sk qjY qc q8 aln aln (b1 func232) func232
def qaM:FIn:=⟨[.str,.str,.bool],[]⟩
def qbg:List FOut:=[⟨.str,[],none⟩]
def qbN:Tmpl:={ t:=(.str::.str::.bool::qx 5 ((.vec 0)::(.int .i64)::(.int .i64)::qx 38 [])),h:=[.vec 5 [(.int .u8)]] }
def qbK:List Out:=[⟨(.exit 0),{ t:=(qx 8 ((.vec 0)::qx 40 [])),h:=[.vec 5 [(.int .u8)]] }⟩]
noncomputable def qdH:List (FuncId×zP):=[(204,q9 q96 q9p uD),(231,q9 qiK qhL q66),(232,q9 qdB qdt q5i)]
theorem qhW:∀x,x∈qdH->zb prog qa x.1 x.2:=(alc qc2 (alc qrA (alc qoj aln)))
noncomputable def q6S:=qe qdH [(183,f183)] [] 0
noncomputable def q13:=wj q6S 183 f183 7 qbN qbK
theorem qm9:qm prog qa q6S.nimp (qC prog q6S.iter 183) (zo f183 7) (qk qbN qbK (qf q13)):=gk q6S qc q8 qhW aln (b1 func183) func183
noncomputable def qng:=qe qdH [(183,f183)] [((183,7),qk qbN qbK (qf q13))] 0
noncomputable def ur:=qt qng 183 f183 true qaM qbg
theorem qh2:zb prog qa 183 (q9 qaM qbg ur):=sk qng qc q8 qhW (alc (lk func183 qm9) aln) (b1 func183) func183
def qd7:FIn:=⟨[.str,.str],[]⟩
def qdq:List FOut:=[⟨.bool,[],none⟩]
noncomputable def qoV:=qe [] [(184,f184)] [] 0
noncomputable def q3a:=qt qoV 184 f184 true qd7 qdq
theorem qiP:zb prog qa 184 (q9 qd7 qdq q3a):=sk qoV qc q8 aln aln (b1 func184) func184
def qcU:FIn:=⟨[.str,.str],[]⟩
def qdk:List FOut:=[⟨.str,[],none⟩]
noncomputable def qp9:=qe [(93,q9 q8x q8I wA),(116,q9 jD jy qA),(118,q9 yk yv qL),(119,q9 q0j q0y zF),(120,q9 q3X q3C jm),(183,q9 qaM qbg ur),(184,q9 qd7 qdq q3a)] [(136,f136)] [] 0
noncomputable def q3e:=qt qp9 136 f136 true qcU qdk
theorem qia:zb prog qa 136 (q9 qcU qdk q3e):=sk qp9 qc q8 (alc q6y (alc vE (alc jC (alc q16 (alc q5x (alc qh2 (alc qiP aln))))))) aln (b1 func136) func136
def q6F:FIn:=⟨[.str,.str],[]⟩
def q6w:List FOut:=[⟨.str,[],none⟩]
noncomputable def qmd:=qe [(135,q9 uF uC wH),(136,q9 qcU qdk q3e)] [(117,f117)] [] 0
noncomputable def jg:=qt qmd 117 f117 true q6F q6w
theorem q9O:zb prog qa 117 (q9 q6F q6w jg):=sk qmd qc q8 (alc uK (alc qia aln)) aln (b1 func117) func117
def qaC:FIn:=⟨[.str,.str],[]⟩
def qbd:List FOut:=[⟨(.int .i64),[],none⟩]
noncomputable def qmK:=qe [(117,q9 q6F q6w jg),(118,q9 yk yv qL)] [(73,f73)] [] 0
noncomputable def q1I:=qt qmK 73 f73 true qaC qbd
theorem qgP:zb prog qa 73 (q9 qaC qbd q1I):=sk qmK qc q8 (alc q9O (alc jC aln)) aln (b1 func73) func73
def qbT:FIn:=⟨[.str,.str],[]⟩
def qbS:List FOut:=[⟨.str,[],none⟩]
def q85:Tmpl:={ t:=(.str::.str::.any::.any::.any::(.vec 0)::(.int .i64)::(.int .i64)::qx 69 []),h:=[.vec 3 [(.int .i64)]] }
def q8h:List Out:=[⟨(.exit 2),{ t:=(.str::.str::.any::.any::.any::(.vec 0)::(.int .i64)::qx 70 []),h:=[.vec 3 [(.int .i64)]] }⟩]
noncomputable def q2j:List (FuncId×zP):=[(204,q9 q96 q9p uD)]
theorem q40:∀x,x∈q2j->zb prog qa x.1 x.2:=(alc qc2 aln)
noncomputable def q3K:=qe q2j [(158,f158)] [] 0
noncomputable def uJ:=wj q3K 158 f158 9 q85 q8h
theorem qjK:qm prog qa q3K.nimp (qC prog q3K.iter 158) (zo f158 9) (qk q85 q8h (qf uJ)):=gk q3K qc q8 q40 aln (b1 func158) func158
def q8m:Tmpl:={ t:=(.str::.str::.any::.any::.any::(.vec 0)::(.int .i64)::qx 70 []),h:=[.vec 3 [(.int .i64)]] }
def q8E:List Out:=[⟨(.exit 0),{ t:=(qx 5 ((.vec 0)::qx 71 [])),h:=[.vec 3 [(.int .i64)]] }⟩]
noncomputable def q4b:=qe q2j [(158,f158)] [((158,9),qk q85 q8h (qf uJ))] 0
noncomputable def uP:=wj q4b 158 f158 4 q8m q8E
theorem qjv:qm prog qa q4b.nimp (qC prog q4b.iter 158) (zo f158 4) (qk q8m q8E (qf uP)):=gk q4b qc q8 q40 (alc (lk func158 qjK) aln) (b1 func158) func158
def q7g:Tmpl:={ t:=(qx 5 ((.vec 0)::.any::.any::(.vec 1)::(.int .i64)::(.int .i64)::qx 66 [])),h:=[.vec 3 [(.int .i64)],.vec 5 [(.int .u8)]] }
def q6A:List Out:=[⟨(.exit 4),{ t:=(qx 8 ((.vec 1)::qx 68 [])),h:=[.dead,.vec 5 [(.int .u8)]] }⟩]
noncomputable def q2J:=qe q2j [(158,f158)] [] 0
noncomputable def yK:=wj q2J 158 f158 17 q7g q6A
theorem qi3:qm prog qa q2J.nimp (qC prog q2J.iter 158) (zo f158 17) (qk q7g q6A (qf yK)):=gk q2J qc q8 q40 aln (b1 func158) func158
noncomputable def qiy:=qe q2j [(158,f158)] [((158,4),qk q8m q8E (qf uP)),((158,17),qk q7g q6A (qf yK))] 0
noncomputable def q3u:=qt qiy 158 f158 true qbT qbS
theorem qnr:zb prog qa 158 (q9 qbT qbS q3u):=sk qiy qc q8 q40 (alc (lk func158 qjv) (alc (lk func158 qi3) aln)) (b1 func158) func158
def qaI:FIn:=⟨[.str,.str],[]⟩
def qbe:List FOut:=[⟨.str,[],none⟩]
noncomputable def qnw:=qe [(93,q9 q8x q8I wA),(116,q9 jD jy qA),(118,q9 yk yv qL),(119,q9 q0j q0y zF),(120,q9 q3X q3C jm),(158,q9 qbT qbS q3u)] [(122,f122)] [] 0
noncomputable def vG:=qt qnw 122 f122 true qaI qbe
theorem qh4:zb prog qa 122 (q9 qaI qbe vG):=sk qnw qc q8 (alc q6y (alc vE (alc jC (alc q16 (alc q5x (alc qnr aln)))))) aln (b1 func122) func122
def qcv:FIn:=⟨[.str,.str],[]⟩
def qcb:List FOut:=[⟨(.tuple [.str,.str]),[],none⟩]
def q75:Tmpl:={ t:=(.str::.str::qx 4 (.str::.str::(.int .i64)::(.int .u8)::qx 31 [])),h:=[] }
def q7e:List Out:=[⟨(.exit 2),{ t:=(.str::.str::qx 4 (.str::.str::(.int .i64)::(.int .u8)::qx 31 [])),h:=[] }⟩]
noncomputable def q5z:List (FuncId×zP):=[(183,q9 qaM qbg ur),(184,q9 qd7 qdq q3a),(204,q9 q96 q9p uD)]
theorem q83:∀x,x∈q5z->zb prog qa x.1 x.2:=(alc qh2 (alc qiP (alc qc2 aln)))
noncomputable def q2M:=qe q5z [(157,f157)] [] 0
noncomputable def yI:=wj q2M 157 f157 11 q75 q7e
theorem qiX:qm prog qa q2M.nimp (qC prog q2M.iter 157) (zo f157 11) (qk q75 q7e (qf yI)):=gk q2M qc q8 q83 aln (b1 func157) func157
def q8D:Tmpl:={ t:=(.str::.str::qx 4 (.str::.str::(.int .i64)::qx 32 [])),h:=[] }
def q86:List Out:=[⟨(.exit 0),{ t:=(qx 6 (.str::.str::qx 33 [])),h:=[] }⟩]
noncomputable def q3U:=qe q5z [(157,f157)] [((157,11),qk q75 q7e (qf yI))] 0
noncomputable def q0T:=wj q3U 157 f157 4 q8D q86
theorem qjz:qm prog qa q3U.nimp (qC prog q3U.iter 157) (zo f157 4) (qk q8D q86 (qf q0T)):=gk q3U qc q8 q83 (alc (lk func157 qiX) aln) (b1 func157) func157
noncomputable def qih:=qe q5z [(157,f157)] [((157,4),qk q8D q86 (qf q0T))] 0
noncomputable def q3q:=qt qih 157 f157 true qcv qcb
theorem qlV:zb prog qa 157 (q9 qcv qcb q3q):=sk qih qc q8 q83 (alc (lk func157 qjz) aln) (b1 func157) func157
def q8V:FIn:=⟨[.str,.str],[]⟩
def q8P:List FOut:=[⟨(.tuple [.str,.str]),[],none⟩]
noncomputable def qko:=qe [(93,q9 q8x q8I wA),(116,q9 jD jy qA),(117,q9 q6F q6w jg),(118,q9 yk yv qL),(119,q9 q0j q0y zF),(120,q9 q3X q3C jm),(122,q9 qaI qbe vG),(157,q9 qcv qcb q3q)] [(121,f121)] [] 0
noncomputable def jb:=qt qko 121 f121 true q8V q8P
theorem qf0:zb prog qa 121 (q9 q8V q8P jb):=sk qko qc q8 (alc q6y (alc vE (alc q9O (alc jC (alc q16 (alc q5x (alc qh4 (alc qlV aln)))))))) aln (b1 func121) func121
def q8N:FIn:=⟨[.str,.str],[]⟩
def q8Y:List FOut:=[⟨.str,[],none⟩]
def q87:Tmpl:={ t:=(qx 5 ((.int .i64)::(.int .i64)::qx 36 [])),h:=[] }
def q8G:List Out:=[⟨(.exit 2),{ t:=(qx 5 ((.int .i64)::qx 37 [])),h:=[] }⟩]
noncomputable def q6M:List (FuncId×zP):=[(93,q9 q8x q8I wA),(116,q9 jD jy qA),(119,q9 q0j q0y zF),(120,q9 q3X q3C jm),(121,q9 q8V q8P jb)]
theorem q9z:∀x,x∈q6M->zb prog qa x.1 x.2:=(alc q6y (alc vE (alc q16 (alc q5x (alc qf0 aln)))))
noncomputable def q3S:=qe q6M [(74,f74)] [] 0
noncomputable def uM:=wj q3S 74 f74 10 q87 q8G
theorem qjE:qm prog qa q3S.nimp (qC prog q3S.iter 74) (zo f74 10) (qk q87 q8G (qf uM)):=gk q3S qc q8 q9z aln (b1 func74) func74
def q9V:Tmpl:={ t:=(.str::.str::qx 41 []),h:=[] }
def qa7:List Out:=[⟨(.exit 0),{ t:=(.str::qx 42 []),h:=[] }⟩,⟨.ret,{ t:=(qx 4 (.str::qx 38 [])),h:=[] }⟩]
noncomputable def q5r:=qe q6M [(74,f74)] [((74,10),qk q87 q8G (qf uM))] 0
noncomputable def q26:=wj q5r 74 f74 3 q9V qa7
theorem ql4:qm prog qa q5r.nimp (qC prog q5r.iter 74) (zo f74 3) (qk q9V qa7 (qf q26)):=gk q5r qc q8 q9z (alc (lk func74 qjE) aln) (b1 func74) func74
noncomputable def qkD:=qe q6M [(74,f74)] [((74,3),qk q9V qa7 (qf q26))] 0
noncomputable def q0t:=qt qkD 74 f74 true q8N q8Y
theorem qf1:zb prog qa 74 (q9 q8N q8Y q0t):=sk qkD qc q8 q9z (alc (lk func74 ql4) aln) (b1 func74) func74
def q49:FIn:=⟨[.str],[]⟩
def q4c:List FOut:=[⟨(.int .i64),[],none⟩]
noncomputable def qmO:=qe [(70,q9 qb1 qbc ul),(71,q9 qfv qg8 q3J),(72,q9 qaN qas q1Z),(73,q9 qaC qbd q1I),(74,q9 q8N q8Y q0t)] [(19,f19)] [] 0
noncomputable def zg:=qt qmO 19 f19 true q49 q4c
theorem q5G:zb prog qa 19 (q9 q49 q4c zg):=sk qmO qc q8 (alc qhi (alc qq6 (alc qh3 (alc qgP (alc qf1 aln))))) aln (b1 func19) func19
def q19:FIn:=⟨[.str,.str],[]⟩
def q18:List FOut:=[⟨(.imm [.str]),[],none⟩]
noncomputable def qi7:=qe [(70,q9 qb1 qbc ul),(122,q9 qaI qbe vG)] [(75,f75)] [] 0
noncomputable def wG:=qt qi7 75 f75 true q19 q18
theorem q2R:zb prog qa 75 (q9 q19 q18 wG):=sk qi7 qc q8 (alc qhi (alc qh4 aln)) aln (b1 func75) func75
def qgi:FIn:=⟨[.str,.str],[]⟩
def qge:List FOut:=[⟨(.int .i64),[],none⟩]
noncomputable def qnp:=qe [(73,q9 qaC qbd q1I),(75,q9 q19 q18 wG)] [(20,f20)] [] 0
noncomputable def q43:=qt qnp 20 f20 true qgi qge
theorem qpx:zb prog qa 20 (q9 qgi qge q43):=sk qnp qc q8 (alc qgP (alc q2R aln)) aln (b1 func20) func20
def qe2:FIn:=⟨[(.imm [(.int .i64),(.int .i64),(.int .i64)]),(.imm [(.int .i64)])],[]⟩
def qeu:List FOut:=[⟨(.imm [(.int .i64),(.int .i64),(.int .i64)]),[],none⟩]
def q9s:Tmpl:={ t:=((.imm [(.int .i64),(.int .i64),(.int .i64)])::(.imm [(.int .i64)])::.any::.any::.any::(.vec 0)::(.int .i64)::qx 17 []),h:=[.vec 31 [(.int .i64),(.int .i64),(.int .i64)]],pro:=[(5,31,[(.int .i64),(.int .i64),(.int .i64)])] }
def q9w:List Out:=[⟨(.exit 0),{ t:=(qx 5 ((.vec 0)::qx 18 [])),h:=[.vec 31 [(.int .i64),(.int .i64),(.int .i64)]] }⟩]
noncomputable def q5D:=qe [] [(21,f21)] [] 0
noncomputable def kH:=wj q5D 21 f21 4 q9s q9w
theorem qlb:qm prog qa q5D.nimp (qC prog q5D.iter 21) (zo f21 4) (qk q9s q9w (qf kH)):=gk q5D qc q8 aln aln (b1 func21) func21
noncomputable def qk8:=qe [] [(21,f21)] [((21,4),qk q9s q9w (qf kH))] 0
noncomputable def q5d:=qt qk8 21 f21 true qe2 qeu
theorem qoD:zb prog qa 21 (q9 qe2 qeu q5d):=sk qk8 qc q8 aln (alc (lk func21 qlb) aln) (b1 func21) func21
def q23:FIn:=⟨[(.imm [(.int .i64),(.int .i64)]),(.imm [(.int .i8)])],[]⟩
def q1N:List FOut:=[⟨.bool,[],none⟩]
def q0k:Tmpl:={ t:=((.imm [(.int .i64),(.int .i64)])::(.imm [(.int .i8)])::.any::.any::.any::(.vec 0)::qx 37 ((.imm [(.int .i64),(.int .i64)])::(.int .i64)::(.int .i64)::qx 134 [])),h:=[.vec 31 [(.int .i64),(.int .i64),(.int .i64)]],pro:=[(5,31,[(.int .i64),(.int .i64),(.int .i64)])] }
def q0h:List Out:=[⟨(.exit 0),{ t:=((.imm [(.int .i64),(.int .i64)])::qx 4 ((.vec 0)::qx 174 [])),h:=[.vec 31 [(.int .i64),(.int .i64),(.int .i64)]] }⟩]
noncomputable def wu:List (FuncId×zP):=[(14,q9 q9X qaa kM),(15,q9 q9E q9y kI),(16,q9 yT yZ qV),(17,q9 kR kN ze),(18,q9 qfR qfQ q46),(19,q9 q49 q4c zg),(20,q9 qgi qge q43),(21,q9 qe2 qeu q5d)]
theorem vl:∀x,x∈wu->zb prog qa x.1 x.2:=(alc qlI (alc qlj (alc k8 (alc q1z (alc qpS (alc q5G (alc qpx (alc qoD aln))))))))
noncomputable def ym:=qe wu [(3,f3)] [] 0
noncomputable def wg:=wj ym 3 f3 7 q0k q0h
theorem qaF:qm prog qa ym.nimp (qC prog ym.iter 3) (zo f3 7) (qk q0k q0h (qf wg)):=gk ym qc q8 vl aln (b1 func3) func3
def kE:Tmpl:={ t:=((.imm [(.int .i64),(.int .i64)])::qx 4 ((.vec 0)::qx 4 (.str::.any::(.int .i64)::.any::.str::.any::(.int .i64)::.str::.str::.any::.any::(.vec 1)::qx 66 ((.imm [(.sl [(.int .i64)])])::(.int .i64)::(.int .i64)::.any::.any::.any::(.imm [(.int .i64)])::(.int .i64)::(.int .i64)::qx 83 [])))),h:=[.frz 31 [(.int .i64),(.int .i64),(.int .i64)],.vec 28 [(.int .i64),(.int .i64)]],pro:=[(21,28,[(.int .i64),(.int .i64)])] }
def kB:List Out:=[⟨(.exit 4),{ t:=((.imm [(.int .i64),(.int .i64)])::qx 4 ((.vec 0)::qx 4 (.str::.any::(.int .i64)::.any::.str::.any::(.int .i64)::.str::.str::.any::.any::(.vec 1)::qx 66 ((.imm [(.sl [(.int .i64)])])::(.int .i64)::(.int .i64)::qx 89 [])))),h:=[.frz 31 [(.int .i64),(.int .i64),(.int .i64)],.vec 28 [(.int .i64),(.int .i64)]] }⟩]
noncomputable def jI:=qe wu [(3,f3)] [] 0
noncomputable def zV:=wj jI 3 f3 28 kE kB
theorem q9x:qm prog qa jI.nimp (qC prog jI.iter 3) (zo f3 28) (qk kE kB (qf zV)):=gk jI qc q8 vl aln (b1 func3) func3
def ky:Tmpl:={ t:=((.imm [(.int .i64),(.int .i64)])::qx 4 ((.vec 0)::qx 4 (.str::.any::(.int .i64)::.any::.str::.any::(.int .i64)::.str::.str::qx 69 ((.imm [(.sl [(.int .i64)])])::(.int .i64)::(.int .i64)::qx 89 [])))),h:=[.frz 31 [(.int .i64),(.int .i64),(.int .i64)]] }
def kA:List Out:=[⟨(.exit 2),{ t:=((.imm [(.int .i64),(.int .i64)])::qx 4 ((.vec 0)::qx 4 (.str::.any::(.int .i64)::.any::.str::.any::(.int .i64)::.str::.str::qx 161 []))),h:=[.frz 31 [(.int .i64),(.int .i64),(.int .i64)]] }⟩,⟨.ret,{ t:=(qx 4 (.bool::qx 175 [])),h:=[] }⟩]
noncomputable def jK:=qe wu [(3,f3)] [((3,28),qk kE kB (qf zV))] 0
noncomputable def zW:=wj jK 3 f3 20 ky kA
theorem q9F:qm prog qa jK.nimp (qC prog jK.iter 3) (zo f3 20) (qk ky kA (qf zW)):=gk jK qc q8 vl (alc (lk func3 q9x) aln) (b1 func3) func3
def kx:Tmpl:={ t:=(qx 5 ((.vec 0)::qx 4 (.str::.any::(.int .i64)::.any::.str::.any::(.int .i64)::.str::.str::qx 114 ((.imm [(.sl [(.int .i64)])])::(.int .i64)::(.int .i64)::qx 44 [])))),h:=[.frz 31 [(.int .i64),(.int .i64),(.int .i64)]] }
def kz:List Out:=[⟨(.exit 6),{ t:=(qx 10 (.str::.any::(.int .i64)::.any::.str::.any::(.int .i64)::.str::.str::qx 161 [])),h:=[] }⟩,⟨.ret,{ t:=(qx 4 (.bool::qx 175 [])),h:=[] }⟩]
noncomputable def jJ:=qe wu [(3,f3)] [] 0
noncomputable def zX:=wj jJ 3 f3 40 kx kz
theorem q9v:qm prog qa jJ.nimp (qC prog jJ.iter 3) (zo f3 40) (qk kx kz (qf zX)):=gk jJ qc q8 vl aln (b1 func3) func3
noncomputable def w9:=qe wu [(3,f3)] [((3,7),qk q0k q0h (qf wg)),((3,20),qk ky kA (qf zW)),((3,40),qk kx kz (qf zX))] 0
noncomputable def jo:=qt w9 3 f3 true q23 q1N
theorem qcA:zb prog qa 3 (q9 q23 q1N jo):=sk w9 qc q8 vl (alc (lk func3 qaF) (alc (lk func3 q9F) (alc (lk func3 q9v) aln))) (b1 func3) func3
def qa4:FIn:=⟨[(.imm [(.int .i64),(.int .i64),(.int .i64)]),(.int .i64)],[]⟩
def q9B:List FOut:=[⟨(.tuple [(.agg [.str,.str,.str,.str,(.imm [.str])]),(.int .i64)]),[],none⟩]
noncomputable def qgT:=qe [(123,q9 q5w q5v jB)] [(78,f78)] [] 0
noncomputable def q2b:=qt qgT 78 f78 true qa4 q9B
theorem qkF:zb prog qa 78 (q9 qa4 q9B q2b):=sk qgT qc q8 (alc qbQ aln) aln (b1 func78) func78
def q9L:FIn:=⟨[(.imm [(.int .i64),(.int .i64)])],[]⟩
def q9C:List FOut:=[⟨(.tuple [(.agg [.str,.str]),.str,(.int .i64)]),[],none⟩]
noncomputable def qgM:=qe [(65,q9 q5h q4W yg),(67,q9 q2i q2c vH),(68,q9 kp kh vd),(78,q9 qa4 q9B q2b)] [(24,f24)] [] 0
noncomputable def yY:=qt qgM 24 f24 true q9L q9C
theorem qkK:zb prog qa 24 (q9 q9L q9C yY):=sk qgM qc q8 (alc q8A (alc q61 (alc q5f (alc qkF aln)))) aln (b1 func24) func24
def yx:FIn:=⟨[(.imm [.str]),(.imm [.str])],[]⟩
def yA:List FOut:=[⟨.bool,[],none⟩]
def jF:Tmpl:={ t:=((.imm [.str])::(.imm [.str])::qx 10 ((.int .i64)::(.int .i64)::qx 12 [])),h:=[] }
def jG:List Out:=[⟨(.exit 0),{ t:=(qx 26 []),h:=[] }⟩,⟨.ret,{ t:=(qx 4 (.bool::qx 21 [])),h:=[] }⟩]
noncomputable def wC:=qe [] [(127,f127)] [] 0
noncomputable def z7:=wj wC 127 f127 6 jF jG
theorem q5T:qm prog qa wC.nimp (qC prog wC.iter 127) (zo f127 6) (qk jF jG (qf z7)):=gk wC qc q8 aln aln (b1 func127) func127
noncomputable def q1r:=qe [] [(127,f127)] [((127,6),qk jF jG (qf z7))] 0
noncomputable def zA:=qt q1r 127 f127 true yx yA
theorem q6H:zb prog qa 127 (q9 yx yA zA):=sk q1r qc q8 aln (alc (lk func127 q5T) aln) (b1 func127) func127
def q6J:FIn:=⟨[(.imm [(.int .i64),(.int .i64),(.int .i64)]),(.imm [.str]),(.imm [(.int .i64)]),(.int .i64)],[]⟩
def q7w:List FOut:=[⟨(.tuple [.bool,(.int .i64)]),[],none⟩]
def q4z:Tmpl:={ t:=((.imm [(.int .i64),(.int .i64),(.int .i64)])::(.imm [.str])::(.imm [(.int .i64)])::(.int .i64)::qx 14 ((.imm [.str])::(.int .i64)::(.int .i64)::qx 71 [])),h:=[] }
def q4x:List Out:=[⟨(.exit 0),{ t:=((.imm [(.int .i64),(.int .i64),(.int .i64)])::(.imm [.str])::(.imm [(.int .i64)])::(.int .i64)::qx 88 []),h:=[] }⟩,⟨.ret,{ t:=(qx 8 (.bool::(.int .i64)::qx 82 [])),h:=[] }⟩]
noncomputable def q1F:List (FuncId×zP):=[(106,q9 q00 q0b zI),(114,q9 q1S q1x zK),(127,q9 yx yA zA)]
theorem q4j:∀x,x∈q1F->zb prog qa x.1 x.2:=(alc kJ (alc q7X (alc q6H aln)))
noncomputable def q0R:=qe q1F [(83,f83)] [] 0
noncomputable def jv:=wj q0R 83 f83 3 q4z q4x
theorem qgE:qm prog qa q0R.nimp (qC prog q0R.iter 83) (zo f83 3) (qk q4z q4x (qf jv)):=gk q0R qc q8 q4j aln (b1 func83) func83
def q33:Tmpl:={ t:=((.imm [(.int .i64),(.int .i64),(.int .i64)])::(.imm [.str])::(.imm [(.int .i64)])::(.int .i64)::qx 35 ((.imm [(.int .i64)])::(.int .i64)::(.int .i64)::qx 50 [])),h:=[] }
def q3c:List Out:=[⟨(.exit 3),{ t:=((.imm [(.int .i64),(.int .i64),(.int .i64)])::(.imm [.str])::(.imm [(.int .i64)])::(.int .i64)::qx 88 []),h:=[] }⟩,⟨.ret,{ t:=(qx 8 (.bool::(.int .i64)::qx 82 [])),h:=[] }⟩]
noncomputable def q0d:=qe q1F [(83,f83)] [] 0
noncomputable def vS:=wj q0d 83 f83 18 q33 q3c
theorem qeA:qm prog qa q0d.nimp (qC prog q0d.iter 83) (zo f83 18) (qk q33 q3c (qf vS)):=gk q0d qc q8 q4j aln (b1 func83) func83
noncomputable def qcX:=qe q1F [(83,f83)] [((83,3),qk q4z q4x (qf jv)),((83,18),qk q33 q3c (qf vS))] 0
noncomputable def ji:=qt qcX 83 f83 true q6J q7w
theorem qip:zb prog qa 83 (q9 q6J q7w ji):=sk qcX qc q8 q4j (alc (lk func83 qgE) (alc (lk func83 qeA) aln)) (b1 func83) func83
def kn:FIn:=⟨[(.imm [(.int .i64),(.int .i64)]),(.agg [.str,.str]),.str,(.imm [(.int .i64)])],[]⟩
def km:List FOut:=[⟨(.tuple [.bool,(.int .i64)]),[],none⟩]
noncomputable def q7U:=qe [(65,q9 q5h q4W yg),(67,q9 q2i q2c vH),(83,q9 q6J q7w ji)] [(29,f29)] [] 0
noncomputable def zx:=qt q7U 29 f29 true kn km
theorem q4K:zb prog qa 29 (q9 kn km zx):=sk q7U qc q8 (alc q8A (alc q61 (alc qip aln))) aln (b1 func29) func29
def qnW:FIn:=⟨[(.int .i64),(.int .i64)],[]⟩
def qoE:List FOut:=[⟨(.agg [(.int .i64),(.int .i64)]),[],none⟩]
noncomputable def qtZ:=qe [] [(76,f76)] [] 0
noncomputable def q2l:=qt qtZ 76 f76 true qnW qoE
theorem quV:zb prog qa 76 (q9 qnW qoE q2l):=sk qtZ qc q8 aln aln (b1 func76) func76
def q2H:FIn:=⟨[(.imm [(.int .i64)]),(.imm [(.int .i64)])],[]⟩
def q2I:List FOut:=[⟨.bool,[],none⟩]
def q0Y:Tmpl:={ t:=((.imm [(.int .i64)])::(.imm [(.int .i64)])::qx 10 ((.int .i64)::(.int .i64)::qx 12 [])),h:=[] }
def q10:List Out:=[⟨(.exit 0),{ t:=(qx 26 []),h:=[] }⟩,⟨.ret,{ t:=(qx 4 (.bool::qx 21 [])),h:=[] }⟩]
noncomputable def yN:=qe [] [(77,f77)] [] 0
noncomputable def ww:=wj yN 77 f77 6 q0Y q10
theorem qcp:qm prog qa yN.nimp (qC prog yN.iter 77) (zo f77 6) (qk q0Y q10 (qf ww)):=gk yN qc q8 aln aln (b1 func77) func77
noncomputable def q7V:=qe [] [(77,f77)] [((77,6),qk q0Y q10 (qf ww))] 0
noncomputable def ve:=qt q7V 77 f77 true q2H q2I
theorem qel:zb prog qa 77 (q9 q2H q2I ve):=sk q7V qc q8 aln (alc (lk func77 qcp) aln) (b1 func77) func77
def q6U:FIn:=⟨[],[]⟩
def q6I:List FOut:=[⟨.bool,[],none⟩]
noncomputable def qn4:=qe [(16,q9 yT yZ qV),(17,q9 kR kN ze),(24,q9 q9L q9C yY),(29,q9 kn km zx),(76,q9 qnW qoE q2l),(77,q9 q2H q2I ve)] [(23,f23)] [] 0
noncomputable def vF:=qt qn4 23 f23 true q6U q6I
theorem q9G:zb prog qa 23 (q9 q6U q6I vF):=sk qn4 qc q8 (alc k8 (alc q1z (alc qkK (alc q4K (alc quV (alc qel aln)))))) aln (b1 func23) func23
def qdC:FIn:=⟨[(.imm [(.int .i64),(.int .i64)])],[]⟩
def qeo:List FOut:=[⟨(.imm [(.int .i64),(.int .i64),(.int .i64)]),[],none⟩]
def qaf:Tmpl:={ t:=((.imm [(.int .i64),(.int .i64)])::.any::.any::(.vec 0)::(.int .i64)::qx 21 []),h:=[.vec 31 [(.int .i64),(.int .i64),(.int .i64)]],pro:=[(3,31,[(.int .i64),(.int .i64),(.int .i64)])] }
def q9D:List Out:=[⟨(.exit 0),{ t:=(.any::.any::.any::(.vec 0)::qx 22 []),h:=[.vec 31 [(.int .i64),(.int .i64),(.int .i64)]] }⟩]
noncomputable def q5B:=qe [] [(42,f42)] [] 0
noncomputable def kQ:=wj q5B 42 f42 4 qaf q9D
theorem qkU:qm prog qa q5B.nimp (qC prog q5B.iter 42) (zo f42 4) (qk qaf q9D (qf kQ)):=gk q5B qc q8 aln aln (b1 func42) func42
noncomputable def qjR:=qe [] [(42,f42)] [((42,4),qk qaf q9D (qf kQ))] 0
noncomputable def uA:=qt qjR 42 f42 true qdC qeo
theorem qnH:zb prog qa 42 (q9 qdC qeo uA):=sk qjR qc q8 aln (alc (lk func42 qkU) aln) (b1 func42) func42
def qj2:FIn:=⟨[(.int .i64)],[]⟩
def qj4:List FOut:=[⟨.bool,[],none⟩]
noncomputable def qur:=qe [] [(86,f86)] [] 0
noncomputable def jT:=qt qur 86 f86 true qj2 qj4
theorem qmp:zb prog qa 86 (q9 qj2 qj4 jT):=sk qur qc q8 aln aln (b1 func86) func86
def q6D:FIn:=⟨[(.agg [(.int .i64),(.int .i64)])],[]⟩
def q6z:List FOut:=[⟨.bool,[],none⟩]
noncomputable def qmv:=qe [(86,q9 qj2 qj4 jT)] [(32,f32)] [] 0
noncomputable def q08:=qt qmv 32 f32 true q6D q6z
theorem q9J:zb prog qa 32 (q9 q6D q6z q08):=sk qmv qc q8 (alc qmp aln) aln (b1 func32) func32
def qfx:FIn:=⟨[(.imm [(.int .i64),(.int .i64)])],[]⟩
def qfB:List FOut:=[⟨(.int .i64),[],none⟩]
def qbP:Tmpl:={ t:=((.imm [(.int .i64),(.int .i64)])::.any::.any::(.int .i64)::qx 15 []),h:=[] }
def qc9:List Out:=[⟨(.exit 0),{ t:=(qx 19 []),h:=[] }⟩,⟨.ret,{ t:=(.any::.any::(.int .i64)::qx 16 []),h:=[] }⟩]
noncomputable def q7G:=qe [(32,q9 q6D q6z q08)] [(50,f50)] [] 0
noncomputable def uZ:=wj q7G 50 f50 6 qbP qc9
theorem qmG:qm prog qa q7G.nimp (qC prog q7G.iter 50) (zo f50 6) (qk qbP qc9 (qf uZ)):=gk q7G qc q8 (alc q9J aln) aln (b1 func50) func50
noncomputable def qlY:=qe [(32,q9 q6D q6z q08)] [(50,f50)] [((50,6),qk qbP qc9 (qf uZ))] 0
noncomputable def q3V:=qt qlY 50 f50 true qfx qfB
theorem qpI:zb prog qa 50 (q9 qfx qfB q3V):=sk qlY qc q8 (alc q9J aln) (alc (lk func50 qmG) aln) (b1 func50) func50
def qaV:FIn:=⟨[(.int .i64)],[]⟩
def qaS:List FOut:=[⟨.str,[],none⟩]
noncomputable def qmY:=qe [(93,q9 q8x q8I wA)] [(35,f35)] [] 0
noncomputable def ye:=qt qmY 35 f35 true qaV qaS
theorem qgY:zb prog qa 35 (q9 qaV qaS ye):=sk qmY qc q8 (alc q6y aln) aln (b1 func35) func35
def q56:FIn:=⟨[.str,.str],[]⟩
def q4H:List FOut:=[⟨.str,[],none⟩]
noncomputable def qkf:=qe [(74,q9 q8N q8Y q0t),(118,q9 yk yv qL),(121,q9 q8V q8P jb),(135,q9 uF uC wH)] [(102,f102)] [] 0
noncomputable def yj:=qt qkf 102 f102 true q56 q4H
theorem q8n:zb prog qa 102 (q9 q56 q4H yj):=sk qkf qc q8 (alc qf1 (alc jC (alc qf0 (alc uK aln)))) aln (b1 func102) func102
def qg2:FIn:=⟨[.str,.str],[]⟩
def qfS:List FOut:=[⟨.str,[],none⟩]
noncomputable def qmo:=qe [(75,q9 q19 q18 wG),(102,q9 q56 q4H yj)] [(54,f54)] [] 0
noncomputable def q1T:=qt qmo 54 f54 true qg2 qfS
theorem qpJ:zb prog qa 54 (q9 qg2 qfS q1T):=sk qmo qc q8 (alc q2R (alc q8n aln)) aln (b1 func54) func54
def qfH:FIn:=⟨[.str,.str],[]⟩
def qg7:List FOut:=[⟨.str,[],none⟩]
noncomputable def qm2:=qe [(75,q9 q19 q18 wG),(102,q9 q56 q4H yj),(117,q9 q6F q6w jg)] [(96,f96)] [] 0
noncomputable def q1Y:=qt qm2 96 f96 true qfH qg7
theorem qpG:zb prog qa 96 (q9 qfH qg7 q1Y):=sk qm2 qc q8 (alc q2R (alc q8n (alc q9O aln))) aln (b1 func96) func96
def qhH:FIn:=⟨[.str,.str],[]⟩
def qij:List FOut:=[⟨.str,[],none⟩]
noncomputable def qpg:=qe [(75,q9 q19 q18 wG),(102,q9 q56 q4H yj),(136,q9 qcU qdk q3e)] [(97,f97)] [] 0
noncomputable def q3t:=qt qpg 97 f97 true qhH qij
theorem qqP:zb prog qa 97 (q9 qhH qij q3t):=sk qpg qc q8 (alc q2R (alc q8n (alc qia aln))) aln (b1 func97) func97
def qd4:FIn:=⟨[(.agg [.str,.str,.str]),(.agg [(.int .i64),(.int .i64),(.int .i64)])],[]⟩
def qdf:List FOut:=[⟨.str,[],none⟩]
def qdR:Tmpl:={ t:=(.any::.any::(.ptr 0 0)::.any::.any::.str::qx 9 ((.agg [(.int .i64),(.int .i64),(.int .i64)])::(.int .i64)::qx 16 [])),h:=[.cells [.str,.str,.str]] }
def qdJ:List Out:=[⟨(.exit 0),{ t:=(qx 5 (.str::qx 27 [])),h:=[] }⟩]
noncomputable def qg9:List (FuncId×zP):=[(35,q9 qaV qaS ye),(54,q9 qg2 qfS q1T),(96,q9 qfH qg7 q1Y),(97,q9 qhH qij q3t)]
theorem qkz:∀x,x∈qg9->zb prog qa x.1 x.2:=(alc qgY (alc qpJ (alc qpG (alc qqP aln))))
noncomputable def q8M:=qe qg9 [(43,f43)] [] 0
noncomputable def q2r:=wj q8M 43 f43 4 qdR qdJ
theorem qok:qm prog qa q8M.nimp (qC prog q8M.iter 43) (zo f43 4) (qk qdR qdJ (qf q2r)):=gk q8M qc q8 qkz aln (b1 func43) func43
noncomputable def qoY:=qe qg9 [(43,f43)] [((43,4),qk qdR qdJ (qf q2r))] 0
noncomputable def q1q:=qt qoY 43 f43 true qd4 qdf
theorem qhR:zb prog qa 43 (q9 qd4 qdf q1q):=sk qoY qc q8 qkz (alc (lk func43 qok) aln) (b1 func43) func43
end Go.Eng

namespace Go.Eng
open Go.Proofs
open Tryz
def qaU:FIn:=⟨[(.imm [(.int .i64),(.int .i64)])],[]⟩
def qaJ:List FOut:=[⟨.bool,[],none⟩]
noncomputable def qnE:=qe [(50,q9 qfx qfB q3V)] [(31,f31)] [] 0
noncomputable def uq:=qt qnE 31 f31 true qaU qaJ
theorem qgI:zb prog qa 31 (q9 qaU qaJ uq):=sk qnE qc q8 (alc qpI aln) aln (b1 func31) func31
def qfV:FIn:=⟨[(.agg [(.int .i64),(.int .i64)]),(.agg [(.int .i64),(.int .i64)])],[]⟩
def qfY:List FOut:=[⟨(.int .i64),[],none⟩]
noncomputable def qn9:=qe [] [(87,f87)] [] 0
noncomputable def qaA:=qt qn9 87 f87 true qfV qfY
theorem qpQ:zb prog qa 87 (q9 qfV qfY qaA):=sk qn9 qc q8 aln aln (b1 func87) func87
def qgd:FIn:=⟨[(.agg [(.int .i64),(.int .i64)]),(.agg [(.int .i64),(.int .i64)])],[]⟩
def qfM:List FOut:=[⟨(.agg [(.int .i64),(.int .i64)]),[],none⟩]
noncomputable def qmb:=qe [] [(88,f88)] [] 0
noncomputable def qaP:=qt qmb 88 f88 true qgd qfM
theorem qpV:zb prog qa 88 (q9 qgd qfM qaP):=sk qmb qc q8 aln aln (b1 func88) func88
def qkI:FIn:=⟨[(.agg [(.int .i64),(.int .i64)]),(.agg [(.int .i64),(.int .i64)])],[]⟩
def qlq:List FOut:=[⟨(.int .i64),[],none⟩]
noncomputable def qqA:=qe [(87,q9 qfV qfY qaA),(88,q9 qgd qfM qaP)] [(33,f33)] [] 0
noncomputable def qcu:=qt qqA 33 f33 true qkI qlq
theorem qt3:zb prog qa 33 (q9 qkI qlq qcu):=sk qqA qc q8 (alc qpQ (alc qpV aln)) aln (b1 func33) func33
def q4C:FIn:=⟨[(.imm [(.int .i64),(.int .i64)]),(.agg [(.int .i64),(.int .i64)])],[]⟩
def q4t:List FOut:=[⟨.bool,[],none⟩]
def q1L:Tmpl:={ t:=(.any::.any::.any::(.ptr 0 0)::.any::(.ptr 1 0)::.str::.any::.any::(.int .i64)::qx 22 ((.imm [(.int .i64),(.int .i64)])::(.int .i64)::(.int .i64)::qx 41 [])),h:=[.cells [(.int .i64),(.int .i64)],.cells [.str,.str]] }
def q22:List Out:=[⟨(.exit 0),{ t:=(.any::.any::.any::(.ptr 0 0)::.any::(.ptr 1 0)::.str::.any::.any::(.int .i64)::qx 66 []),h:=[.cells [(.int .i64),(.int .i64)],.cells [.str,.str]] }⟩]
noncomputable def q3z:List (FuncId×zP):=[(16,q9 yT yZ qV),(23,q9 q6U q6I vF),(31,q9 qaU qaJ uq),(32,q9 q6D q6z q08),(33,q9 qkI qlq qcu),(34,q9 uR uV zd),(35,q9 qaV qaS ye)]
theorem q7W:∀x,x∈q3z->zb prog qa x.1 x.2:=(alc k8 (alc q9G (alc qgI (alc q9J (alc qt3 (alc q03 (alc qgY aln)))))))
noncomputable def uk:=qe q3z [(6,f6)] [] 0
noncomputable def wP:=wj uk 6 f6 11 q1L q22
theorem qcN:qm prog qa uk.nimp (qC prog uk.iter 6) (zo f6 11) (qk q1L q22 (qf wP)):=gk uk qc q8 q7W aln (b1 func6) func6
noncomputable def v8:=qe q3z [(6,f6)] [((6,11),qk q1L q22 (qf wP))] 0
noncomputable def u9:=qt v8 6 f6 true q4C q4t
theorem qfz:zb prog qa 6 (q9 q4C q4t u9):=sk v8 qc q8 q7W (alc (lk func6 qcN) aln) (b1 func6) func6
def q1i:FIn:=⟨[(.agg [(.int .i64),(.int .i64),(.int .i64)])],[]⟩
def q1b:List FOut:=[⟨.bool,[],none⟩]
noncomputable def qeU:=qe [(86,q9 qj2 qj4 jT)] [(46,f46)] [] 0
noncomputable def wT:=qt qeU 46 f46 true q1i q1b
theorem q4q:zb prog qa 46 (q9 q1i q1b wT):=sk qeU qc q8 (alc qmp aln) aln (b1 func46) func46
def q6R:FIn:=⟨[(.imm [(.int .i64),(.int .i64),(.int .i64)])],[]⟩
def q6O:List FOut:=[⟨(.int .i64),[],none⟩]
def q4v:Tmpl:={ t:=((.imm [(.int .i64),(.int .i64),(.int .i64)])::.any::.any::(.int .i64)::qx 15 []),h:=[] }
def q4A:List Out:=[⟨(.exit 0),{ t:=(qx 19 []),h:=[] }⟩,⟨.ret,{ t:=(.any::.any::(.int .i64)::qx 16 []),h:=[] }⟩]
noncomputable def q0K:=qe [(46,q9 q1i q1b wT)] [(45,f45)] [] 0
noncomputable def wZ:=wj q0K 45 f45 6 q4v q4A
theorem qgx:qm prog qa q0K.nimp (qC prog q0K.iter 45) (zo f45 6) (qk q4v q4A (qf wZ)):=gk q0K qc q8 (alc q4q aln) aln (b1 func45) func45
noncomputable def qdg:=qe [(46,q9 q1i q1b wT)] [(45,f45)] [((45,6),qk q4v q4A (qf wZ))] 0
noncomputable def yQ:=qt qdg 45 f45 true q6R q6O
theorem qiO:zb prog qa 45 (q9 q6R q6O yQ):=sk qdg qc q8 (alc q4q aln) (alc (lk func45 qgx) aln) (b1 func45) func45
def q2u:FIn:=⟨[(.imm [(.int .i64)]),(.int .i64)],[]⟩
def q2y:List FOut:=[⟨(.int .i64),[],none⟩]
def q1a:Tmpl:={ t:=((.imm [(.int .i64)])::(.int .i64)::qx 5 ((.int .i64)::(.int .i64)::qx 10 [])),h:=[] }
def q0U:List Out:=[⟨(.exit 0),{ t:=(qx 19 []),h:=[] }⟩,⟨.ret,{ t:=(qx 4 ((.int .i64)::qx 14 [])),h:=[] }⟩]
noncomputable def yP:=qe [] [(98,f98)] [] 0
noncomputable def zD:=wj yP 98 f98 3 q1a q0U
theorem qc7:qm prog qa yP.nimp (qC prog yP.iter 98) (zo f98 3) (qk q1a q0U (qf zD)):=gk yP qc q8 aln aln (b1 func98) func98
noncomputable def q7P:=qe [] [(98,f98)] [((98,3),qk q1a q0U (qf zD))] 0
noncomputable def vh:=qt q7P 98 f98 true q2u q2y
theorem qed:zb prog qa 98 (q9 q2u q2y vh):=sk q7P qc q8 aln (alc (lk func98 qc7) aln) (b1 func98) func98
def yi:FIn:=⟨[(.imm [(.int .i64)]),(.int .i64)],[]⟩
def yu:List FOut:=[⟨.bool,[],none⟩]
noncomputable def q50:=qe [(98,q9 q2u q2y vh)] [(44,f44)] [] 0
noncomputable def zm:=qt q50 44 f44 true yi yu
theorem q2O:zb prog qa 44 (q9 yi yu zm):=sk q50 qc q8 (alc qed aln) aln (b1 func44) func44
def q4k:FIn:=⟨[(.imm [(.int .i64),(.int .i64)])],[]⟩
def q4p:List FOut:=[⟨.bool,[],none⟩]
def q1P:Tmpl:={ t:=((.imm [(.int .i64),(.int .i64)])::.any::.any::(.ptr 0 0)::.str::(.imm [(.int .i64)])::qx 41 ((.imm [(.int .i64),(.int .i64),(.int .i64)])::(.int .i64)::(.int .i64)::qx 74 [])),h:=[.cells [.str,.str]] }
def q1R:List Out:=[⟨(.exit 0),{ t:=((.imm [(.int .i64),(.int .i64)])::.any::.any::(.ptr 0 0)::.str::(.imm [(.int .i64)])::qx 118 []),h:=[.cells [.str,.str]] }⟩,⟨.ret,{ t:=(.any::.any::.bool::qx 121 []),h:=[] }⟩]
noncomputable def q3v:List (FuncId×zP):=[(16,q9 yT yZ qV),(17,q9 kR kN ze),(19,q9 q49 q4c zg),(23,q9 q6U q6I vF),(29,q9 kn km zx),(31,q9 qaU qaJ uq),(34,q9 uR uV zd),(42,q9 qdC qeo uA),(43,q9 qd4 qdf q1q),(44,q9 yi yu zm)]
theorem q7Y:∀x,x∈q3v->zb prog qa x.1 x.2:=(alc k8 (alc q1z (alc q5G (alc q9G (alc q4K (alc qgI (alc q03 (alc qnH (alc qhR (alc q2O aln))))))))))
noncomputable def uo:=qe q3v [(9,f9)] [] 0
noncomputable def wN:=wj uo 9 f9 10 q1P q1R
theorem qcI:qm prog qa uo.nimp (qC prog uo.iter 9) (zo f9 10) (qk q1P q1R (qf wN)):=gk uo qc q8 q7Y aln (b1 func9) func9
noncomputable def ud:=qe q3v [(9,f9)] [((9,10),qk q1P q1R (qf wN))] 0
noncomputable def u5:=qt ud 9 f9 true q4k q4p
theorem qfU:zb prog qa 9 (q9 q4k q4p u5):=sk ud qc q8 q7Y (alc (lk func9 qcI) aln) (b1 func9) func9
def jE:FIn:=⟨[(.imm [(.int .i64),(.int .i64),(.int .i64)])],[]⟩
def jH:List FOut:=[⟨(.vec 0),[.vec 31 [(.int .i64),(.int .i64),(.int .i64)]],none⟩]
noncomputable def q0H:=qe [] [(47,f47)] [] 0
noncomputable def z8:=qt q0H 47 f47 false jE jH
theorem q5Z:zb prog qa 47 (q9 jE jH z8):=ql9 (E:=q0H) qc ⟨q4e q8,⟨aln,aln⟩,aln,(b1 func47)⟩ func47 (by kernel_rfl) (by kernel_rfl) (fun _=>rfl)
def jP:FIn:=⟨[.str],[]⟩
def jN:List FOut:=[⟨.bool,[],none⟩]
noncomputable def q7S:=qe [(19,q9 q49 q4c zg)] [(49,f49)] [] 0
noncomputable def zN:=qt q7S 49 f49 true jP jN
theorem q0z:zb prog qa 49 (q9 jP jN zN):=sk q7S qc q8 (alc q5G aln) aln (b1 func49) func49
def qN:FIn:=⟨[(.imm [.str]),(.fn 49 [] [])],[]⟩
def qR:List FOut:=[⟨.bool,[],none⟩]
def qJ:Tmpl:={ t:=((.imm [.str])::(.fn 49 [] [])::qx 5 ((.int .i64)::(.int .i64)::qx 10 [])),h:=[],fs:=[[(.imm [.str]),(.fn 49 [] []),.any,.any,(.blit false),(.imm [.str]),(.fn 49 [] []),.any,.any],[]] }
def qI:List Out:=[⟨(.exit 0),{ t:=(qx 19 []),h:=[],fs:=[[(.imm [.str]),(.fn 49 [] []),.any,.any,(.blit false),(.imm [.str]),(.fn 49 [] []),.any,.any],[]] }⟩,⟨.ret,{ t:=(qx 4 ((.int .i64)::qx 14 [])),h:=[],fs:=[[(.imm [.str]),(.fn 49 [] []),.any,.any,(.blit false),(.imm [.str]),(.fn 49 [] []),.any,.any],[]] }⟩]
noncomputable def qw:=qe [(49,q9 jP jN zN)] [(48,f48),(99,f99)] [] 0
noncomputable def ql:=wj qw 99 f99 3 qJ qI
theorem wJ:qm prog qa qw.nimp (qC prog qw.iter 99) (zo f99 3) (qk qJ qI (qf ql)):=gk qw qc q8 (alc q0z aln) aln (alc (bk func48) (alc (bk func99) aln)) func99
noncomputable def zC:=qe [(49,q9 jP jN zN)] [(48,f48),(99,f99)] [((99,3),qk qJ qI (qf ql))] 0
noncomputable def qq:=qt zC 48 f48 true qN qR
theorem vr:zb prog qa 48 (q9 qN qR qq):=sk zC qc q8 (alc q0z aln) (alc (lk func99 wJ) aln) (alc (bk func48) (alc (bk func99) aln)) func48
def q4m:FIn:=⟨[(.imm [(.int .i64),(.int .i64),(.int .i64)]),(.agg [(.int .i64),(.int .i64),(.int .i64)])],[]⟩
def q4D:List FOut:=[⟨.bool,[],none⟩]
noncomputable def v7:Env:={ tt:=qah,glob:=qa,spec:=[(17,q9 kR kN ze),(19,q9 q49 q4c zg),(23,q9 q6U q6I vF),(34,q9 uR uV zd),(43,q9 qd4 qdf q1q),(44,q9 yi yu zm),(45,q9 q6R q6O yQ),(46,q9 q1i q1b wT),(47,q9 jE jH z8),(49,q9 jP jN zN),(48,q9 qN qR qq)],body:=[(10,f10)],loops:=[],nimp:=0,raws:=[47] }
noncomputable def u7:=qt v7 10 f10 true q4m q4D
theorem qfO:zb prog qa 10 (q9 q4m q4D u7):=sk v7 qc q8 (alc q1z (alc q5G (alc q9G (alc q03 (alc qhR (alc q2O (alc qiO (alc q4q (alc q5Z (alc q0z (alc vr aln))))))))))) aln (b1 func10) func10
end Go.Eng

namespace Go.Eng
abbrev qLs(r t:TR):TR:=.br (okR r) t .fail
abbrev qLt(c:Bool)(t:TR):TR:=.br c t .fail
abbrev qLu(l:List PV):TR:=.leaf (0,l)
variable (a0 a1 a2 a3 a4 a5 a6 a7 a8 a9 a10 a11 a12 a13 a14 a15:R)
variable (c0 c1 c2 c3 c4 c5 c6 c7 c8 c9 c10 c11 c12 c13:Int)
variable (d0 d1 d2 d3 d4 d5 d7 d8 d10 d11:Bool)
variable (e0 e1 e2 e3 e4 e5 e6 e7 e8 e9 e10 e11 e12 e13 e14:qLv)
theorem qlM:jk [.i c0,.i c1]=(.br (ilt c0 (-9000)) (qLu [.b true]) (.br (ilt 9000 c0) (qLu [.b true]) (.br (ilt c1 (-9000)) (qLu [.b true]) (qLu [.b (ilt 9000 c1)])))):=by kernel_rfl
theorem qF:qg [.r a0,.i c1,.i c2,.r a3,.r a4]=(.br (ilt c2 c1) (qLt (inb c2 (qh a0)) (let r0:=jk [.i (cI a0 c2 0),.i (cI a0 c2 1)];qLs r0 (.br (gB r0 0) (.leaf (2,[.i c2,.r a3,.r a4])) (qLu [.r a0,.i c1,.i (qE .i64 c2 1),.r a3,.r a4])))) (.leaf (1,[.r a3,.r a4]))):=by kernel_rfl
theorem vO:qp [.r a0]=(let r0:=qf qg [.r a0,.i (qh a0),.i 0,.r a0,.r a0];qLs r0 (.br (jIs r0 0) (qLu [.b false]) (qLu [.b (ile 0 (gI r0 0))]))):=by kernel_rfl
theorem qnM:kM [.r a0]=(.br (ilt 0 (qh a0)) (.br (ile (qh a0) 8) (let r0:=qp [.r a0];qLs r0 (qLu [.b (not (gB r0 0))])) (qLu [.b false])) (qLu [.b false])):=by kernel_rfl
theorem qq4:zu [.i c0]=(.br (ile (-100000) c0) (qLu [.b (ile c0 100000)]) (qLu [.b false])):=by kernel_rfl
theorem qth:kS [.i c0,.i c1]=(qLs (zu [.i c0]) (.br (gB (zu [.i c0]) 0) (qLs (zu [.i c1]) (qLu [.b (gB (zu [.i c1]) 0)])) (qLu [.b false]))):=by kernel_rfl
theorem q4T:zS [.r a0,.i c1,.i c2]=(.br (ilt c2 c1) (qLt (inb c2 (qh a0)) (let r0:=kS [.i (cI a0 c2 0),.i (cI a0 c2 1)];qLs r0 (.br (not (gB r0 0)) (.leaf (2,[.i 2])) (qLu [.r a0,.i c1,.i (qE .i64 c2 1)])))) (.leaf (1,[]))):=by kernel_rfl
theorem qfq:jO [.r a0]=(let r0:=qf zS [.r a0,.i (qh a0),.i 0];qLs r0 (.br (jIs r0 0) (qLu [.i 0]) (qLu [.i (gI r0 0)]))):=by kernel_rfl
theorem qbH:wV [.r a0]=(.br (ilt 64 (qh a0)) (qLu [.i 5]) (let r0:=jO [.r a0];qLs r0 (qLu [.i (gI r0 0)]))):=by kernel_rfl
theorem qrv:q4L [.r a0]=(let r0:=wV [.r a0];qLs r0 (qLu [.i (gI r0 0)])):=by kernel_rfl
theorem qsr:q0i [.i c0]=(.br (ieq c0 0) (qLu [.i 13]) (qLu [.i 0])):=by kernel_rfl
theorem qrQ:yg [.r a0]=(let r0:=q4L [.r a0];qLs r0 (.br (ine (gI r0 0) 0) (qLu [.i (gI r0 0)]) (let r1:=q0i [.i (qh a0)];qLs r1 (qLu [.i (gI r1 0)])))):=by kernel_rfl
theorem q7x:vg [.r a0]=(qLt (ile (qh a0) 17592186044416) (qLu [.r a0])):=by kernel_rfl
theorem qho:qY [.i c0,.i c1,.i c2]=(qLu [.i c0,.i c1,.i c2]):=by kernel_rfl
theorem qh0:q1g [.i c0,.i c1,.i c2,.i c3,.i c4,.i c5,.i c6,.i c7,.i c8,.i c9,.i c10]=(let b0:Bool:=(ieq c1 2);let p0:List PV:=[.i (qE .i64 c1 1),.i c2,.i c3,.i c4,.i c5,.i c6,.i c7,.i c8,.i c9,.i c10];let i0:Int:=(vN .i64 c7 c4);let i1:Int:=(vN .i64 c10 c4);let b1:Bool:=(ieq c1 1);let i2:Int:=(vN .i64 c10 c3);let b2:Bool:=(ieq c1 0);let i3:Int:=(vN .i64 c10 c2);let i4:Int:=(vN .i64 c9 c4);let i5:Int:=(vN .i64 c9 c3);let i6:Int:=(vN .i64 c9 c2);let i7:Int:=(vN .i64 c8 c4);let i8:Int:=(vN .i64 c8 c3);let i9:Int:=(vN .i64 c8 c2);let i10:Int:=(vN .i64 c7 c3);let i11:Int:=(vN .i64 c7 c2);let i12:Int:=(vN .i64 c6 c4);let i13:Int:=(vN .i64 c6 c3);let i14:Int:=(vN .i64 c6 c2);let i15:Int:=(vN .i64 c5 c4);let i16:Int:=(vN .i64 c5 c3);let i17:Int:=(vN .i64 c5 c2);(.br (ilt c1 3) (.br b0 (.br b0 (.br b0 (.br b0 (qLu ((.i (qE .i64 c0 (jw .i64 i0 i1)))::p0)) (.br b1 (qLu ((.i (qE .i64 c0 (jw .i64 i0 i2)))::p0)) (qLt b2 (qLu ((.i (qE .i64 c0 (jw .i64 i0 i3)))::p0))))) (.br b1 (.br b0 (qLu ((.i (qE .i64 c0 (jw .i64 i0 i4)))::p0)) (.br b1 (qLu ((.i (qE .i64 c0 (jw .i64 i0 i5)))::p0)) (qLt b2 (qLu ((.i (qE .i64 c0 (jw .i64 i0 i6)))::p0))))) (qLt b2 (.br b0 (qLu ((.i (qE .i64 c0 (jw .i64 i0 i7)))::p0)) (.br b1 (qLu ((.i (qE .i64 c0 (jw .i64 i0 i8)))::p0)) (qLt b2 (qLu ((.i (qE .i64 c0 (jw .i64 i0 i9)))::p0)))))))) (.br b1 (.br b0 (.br b0 (qLu ((.i (qE .i64 c0 (jw .i64 i10 i1)))::p0)) (.br b1 (qLu ((.i (qE .i64 c0 (jw .i64 i10 i2)))::p0)) (qLt b2 (qLu ((.i (qE .i64 c0 (jw .i64 i10 i3)))::p0))))) (.br b1 (.br b0 (qLu ((.i (qE .i64 c0 (jw .i64 i10 i4)))::p0)) (.br b1 (qLu ((.i (qE .i64 c0 (jw .i64 i10 i5)))::p0)) (qLt b2 (qLu ((.i (qE .i64 c0 (jw .i64 i10 i6)))::p0))))) (qLt b2 (.br b0 (qLu ((.i (qE .i64 c0 (jw .i64 i10 i7)))::p0)) (.br b1 (qLu ((.i (qE .i64 c0 (jw .i64 i10 i8)))::p0)) (qLt b2 (qLu ((.i (qE .i64 c0 (jw .i64 i10 i9)))::p0)))))))) (qLt b2 (.br b0 (.br b0 (qLu ((.i (qE .i64 c0 (jw .i64 i11 i1)))::p0)) (.br b1 (qLu ((.i (qE .i64 c0 (jw .i64 i11 i2)))::p0)) (qLt b2 (qLu ((.i (qE .i64 c0 (jw .i64 i11 i3)))::p0))))) (.br b1 (.br b0 (qLu ((.i (qE .i64 c0 (jw .i64 i11 i4)))::p0)) (.br b1 (qLu ((.i (qE .i64 c0 (jw .i64 i11 i5)))::p0)) (qLt b2 (qLu ((.i (qE .i64 c0 (jw .i64 i11 i6)))::p0))))) (qLt b2 (.br b0 (qLu ((.i (qE .i64 c0 (jw .i64 i11 i7)))::p0)) (.br b1 (qLu ((.i (qE .i64 c0 (jw .i64 i11 i8)))::p0)) (qLt b2 (qLu ((.i (qE .i64 c0 (jw .i64 i11 i9)))::p0))))))))))) (.br b1 (.br b0 (.br b0 (.br b0 (qLu ((.i (qE .i64 c0 (jw .i64 i12 i1)))::p0)) (.br b1 (qLu ((.i (qE .i64 c0 (jw .i64 i12 i2)))::p0)) (qLt b2 (qLu ((.i (qE .i64 c0 (jw .i64 i12 i3)))::p0))))) (.br b1 (.br b0 (qLu ((.i (qE .i64 c0 (jw .i64 i12 i4)))::p0)) (.br b1 (qLu ((.i (qE .i64 c0 (jw .i64 i12 i5)))::p0)) (qLt b2 (qLu ((.i (qE .i64 c0 (jw .i64 i12 i6)))::p0))))) (qLt b2 (.br b0 (qLu ((.i (qE .i64 c0 (jw .i64 i12 i7)))::p0)) (.br b1 (qLu ((.i (qE .i64 c0 (jw .i64 i12 i8)))::p0)) (qLt b2 (qLu ((.i (qE .i64 c0 (jw .i64 i12 i9)))::p0)))))))) (.br b1 (.br b0 (.br b0 (qLu ((.i (qE .i64 c0 (jw .i64 i13 i1)))::p0)) (.br b1 (qLu ((.i (qE .i64 c0 (jw .i64 i13 i2)))::p0)) (qLt b2 (qLu ((.i (qE .i64 c0 (jw .i64 i13 i3)))::p0))))) (.br b1 (.br b0 (qLu ((.i (qE .i64 c0 (jw .i64 i13 i4)))::p0)) (.br b1 (qLu ((.i (qE .i64 c0 (jw .i64 i13 i5)))::p0)) (qLt b2 (qLu ((.i (qE .i64 c0 (jw .i64 i13 i6)))::p0))))) (qLt b2 (.br b0 (qLu ((.i (qE .i64 c0 (jw .i64 i13 i7)))::p0)) (.br b1 (qLu ((.i (qE .i64 c0 (jw .i64 i13 i8)))::p0)) (qLt b2 (qLu ((.i (qE .i64 c0 (jw .i64 i13 i9)))::p0)))))))) (qLt b2 (.br b0 (.br b0 (qLu ((.i (qE .i64 c0 (jw .i64 i14 i1)))::p0)) (.br b1 (qLu ((.i (qE .i64 c0 (jw .i64 i14 i2)))::p0)) (qLt b2 (qLu ((.i (qE .i64 c0 (jw .i64 i14 i3)))::p0))))) (.br b1 (.br b0 (qLu ((.i (qE .i64 c0 (jw .i64 i14 i4)))::p0)) (.br b1 (qLu ((.i (qE .i64 c0 (jw .i64 i14 i5)))::p0)) (qLt b2 (qLu ((.i (qE .i64 c0 (jw .i64 i14 i6)))::p0))))) (qLt b2 (.br b0 (qLu ((.i (qE .i64 c0 (jw .i64 i14 i7)))::p0)) (.br b1 (qLu ((.i (qE .i64 c0 (jw .i64 i14 i8)))::p0)) (qLt b2 (qLu ((.i (qE .i64 c0 (jw .i64 i14 i9)))::p0))))))))))) (qLt b2 (.br b0 (.br b0 (.br b0 (qLu ((.i (qE .i64 c0 (jw .i64 i15 i1)))::p0)) (.br b1 (qLu ((.i (qE .i64 c0 (jw .i64 i15 i2)))::p0)) (qLt b2 (qLu ((.i (qE .i64 c0 (jw .i64 i15 i3)))::p0))))) (.br b1 (.br b0 (qLu ((.i (qE .i64 c0 (jw .i64 i15 i4)))::p0)) (.br b1 (qLu ((.i (qE .i64 c0 (jw .i64 i15 i5)))::p0)) (qLt b2 (qLu ((.i (qE .i64 c0 (jw .i64 i15 i6)))::p0))))) (qLt b2 (.br b0 (qLu ((.i (qE .i64 c0 (jw .i64 i15 i7)))::p0)) (.br b1 (qLu ((.i (qE .i64 c0 (jw .i64 i15 i8)))::p0)) (qLt b2 (qLu ((.i (qE .i64 c0 (jw .i64 i15 i9)))::p0)))))))) (.br b1 (.br b0 (.br b0 (qLu ((.i (qE .i64 c0 (jw .i64 i16 i1)))::p0)) (.br b1 (qLu ((.i (qE .i64 c0 (jw .i64 i16 i2)))::p0)) (qLt b2 (qLu ((.i (qE .i64 c0 (jw .i64 i16 i3)))::p0))))) (.br b1 (.br b0 (qLu ((.i (qE .i64 c0 (jw .i64 i16 i4)))::p0)) (.br b1 (qLu ((.i (qE .i64 c0 (jw .i64 i16 i5)))::p0)) (qLt b2 (qLu ((.i (qE .i64 c0 (jw .i64 i16 i6)))::p0))))) (qLt b2 (.br b0 (qLu ((.i (qE .i64 c0 (jw .i64 i16 i7)))::p0)) (.br b1 (qLu ((.i (qE .i64 c0 (jw .i64 i16 i8)))::p0)) (qLt b2 (qLu ((.i (qE .i64 c0 (jw .i64 i16 i9)))::p0)))))))) (qLt b2 (.br b0 (.br b0 (qLu ((.i (qE .i64 c0 (jw .i64 i17 i1)))::p0)) (.br b1 (qLu ((.i (qE .i64 c0 (jw .i64 i17 i2)))::p0)) (qLt b2 (qLu ((.i (qE .i64 c0 (jw .i64 i17 i3)))::p0))))) (.br b1 (.br b0 (qLu ((.i (qE .i64 c0 (jw .i64 i17 i4)))::p0)) (.br b1 (qLu ((.i (qE .i64 c0 (jw .i64 i17 i5)))::p0)) (qLt b2 (qLu ((.i (qE .i64 c0 (jw .i64 i17 i6)))::p0))))) (qLt b2 (.br b0 (qLu ((.i (qE .i64 c0 (jw .i64 i17 i7)))::p0)) (.br b1 (qLu ((.i (qE .i64 c0 (jw .i64 i17 i8)))::p0)) (qLt b2 (qLu ((.i (qE .i64 c0 (jw .i64 i17 i9)))::p0)))))))))))))) (.leaf (1,[.i c0])))):=by kernel_rfl
theorem qtK:q1B [.i c0,.i c1,.i c2,.i c3,.i c4,.i c5,.i c6,.i c7,.i c8]=(let r0:=qY [.i c0,.i c1,.i c2];qLs r0 (let r1:=qY [.i c3,.i c4,.i c5];qLs r1 (let r2:=qY [.i c6,.i c7,.i c8];qLs r2 (let r3:=qf q1g [.i 0,.i 0,.i (gI r0 0),.i (gI r0 1),.i (gI r0 2),.i (gI r1 0),.i (gI r1 1),.i (gI r1 2),.i (gI r2 0),.i (gI r2 1),.i (gI r2 2)];qLs r3 (qLu [.i (gI r3 0)]))))):=by kernel_rfl
theorem qyr:vj [.i c0]=(qLs (q58 [.i c0]) (qLu [.s (gS (q58 [.i c0]) 0)])):=by kernel_rfl
theorem qtH:ya [.i c0]=(qLs (vj [.i c0]) (qLu [.s (gS (vj [.i c0]) 0)])):=by kernel_rfl
theorem qt5:je [.i c0]=(.br (ile 0 c0) (qLu [.b (ile c0 16)]) (qLu [.b false])):=by kernel_rfl
theorem qta:q0f [.i c0,.i c1,.r a2,.i c3]=(qLt (inb (qE .i64 (jw .i64 c0 c3) c1) (qh a2)) (let r0:=ya [.i (cI a2 (qE .i64 (jw .i64 c0 c3) c1) 0)];qLs r0 (qLu [.s (gS r0 0),.r a2,.i c3]))):=by kernel_rfl
theorem qf3:kO [.i c0,.i c1,.i c2,.i c3,.i c4,.i c5,.r a6,.i c7,.i c8,.i c9,.i c10,.i c11,.r a12]=(.br (ilt c5 c4) (let r0:=q0f [.i c1,.i c5,.r a6,.i c7];qLs r0 (qLt (ile ((qh a12)+(qh [[.s (gS r0 0)]])) 8796093022208) (qLu [.i c0,.i c1,.i c2,.i c3,.i c4,.i (qE .i64 c5 1),.r (gR r0 1),.i (gI r0 2),.i c8,.i c9,.i c10,.i c11,.r (wL a12 [[.s (gS r0 0)]])]))) (.leaf (1,[.i c0,.i c2,.i c3,.r a6,.i c7,.i c8,.i c9,.i c10,.i c11,.r a12]))):=by kernel_rfl
theorem qhb:q0X [.i c0,.i c1,.i c2,.r a3,.i c4,.i c5,.i c6,.i c7,.i c8,.r a9]=(.br (ilt c2 c1) (let r0:=qf kO [.i c0,.i c2,.i c1,.i c2,.i c0,.i 0,.r a3,.i c4,.i c5,.i c6,.i c7,.i c8,.r a9];qLs r0 (qLu [.i (gI r0 0),.i (gI r0 1),.i (qE .i64 (gI r0 2) 1),.r (gR r0 3),.i (gI r0 4),.i (gI r0 5),.i (gI r0 6),.i (gI r0 7),.i (gI r0 8),.r (gR r0 9)])) (.leaf (1,[.r a3,.i c4,.i c5,.i c6,.i c7,.i c8,.r a9]))):=by kernel_rfl
theorem qsS:q6r [.i c0,.i c1,.r a2,.i c3]=(let r0:=qf q0X [.i c1,.i c0,.i 0,.r a2,.i c3,.i 0,.i 0,.i c0,.i c1,.r []];qLs r0 (qLu [.i (gI r0 4),.i (gI r0 5),.r (gR r0 6),.r (gR r0 0),.i (gI r0 1)])):=by kernel_rfl
theorem qxD:qcw [.i c0,.i c1,.r a2]=(let r0:=je [.i c0];qLs r0 (.br (not (gB r0 0)) (qLu [.i 0,.i 0,.r [],.i 2]) (let r1:=je [.i c1];qLs r1 (.br (not (gB r1 0)) (qLu [.i 0,.i 0,.r [],.i 2]) (.br (ine (qh a2) (jw .i64 c0 c1)) (qLu [.i 0,.i 0,.r [],.i 8]) (let r2:=q6r [.i c0,.i c1,.r a2,.i c1];qLs r2 (qLu [.i (gI r2 0),.i (gI r2 1),.r (gR r2 2),.i 0]))))))):=by kernel_rfl
theorem qbZ:wW [.s e0,.s e1]=(let r0:=j4 [.s e0,.s e1];qLs r0 (.br (ile 0 (gI r0 0)) (qLt (q68 (gI r0 0) (qD e0)) (qLt (q68 0 (gI r0 0)) (qLt (q68 (qD e0) (qD e0)) (qLt (q68 (qE .i64 (gI r0 0) (qD e1)) (qD e0)) (qLu [.s (qcW e0 0 (gI r0 0)),.s (qcW e0 (qE .i64 (gI r0 0) (qD e1)) (qD e0)),.b true]))))) (qLu [.s e0,.s [],.b false]))):=by kernel_rfl
theorem qsR:q6K [.s e0,.s e1]=(let r0:=wW [.s e0,.s e1];qLs r0 (qLu [.s (gS r0 0),.s (gS r0 1),.b (gB r0 2)])):=by kernel_rfl
theorem qxd:zv [.s e0]=(let r0:=q6K [.s e0,.s [47]];qLs r0 (.br (not (gB r0 2)) (qLu [.s (gS r0 0),.s [49],.b (gB r0 2)]) (qLu [.s (gS r0 0),.s (gS r0 1),.b (gB r0 2)]))):=by kernel_rfl
theorem q7b:qZ [.s e0,.s e1]=(.br (ile (qD e1) (qD e0)) (qLt (q68 (qD e1) (qD e0)) (qLt (q68 0 (qD e1)) (qLu [.b (seq (qcW e0 0 (qD e1)) e1)]))) (qLu [.b false])):=by kernel_rfl
theorem q6q:zH [.s e0,.s e1]=(let r0:=qZ [.s e0,.s e1];qLs r0 (.br (gB r0 0) (qLt (q68 (qD e0) (qD e0)) (qLt (q68 (qD e1) (qD e0)) (qLu [.s (qcW e0 (qD e1) (qD e0))]))) (qLu [.s e0]))):=by kernel_rfl
theorem qiZ:zE [.s e0,.s e1]=(let r0:=zH [.s e0,.s e1];qLs r0 (qLu [.s (gS r0 0)])):=by kernel_rfl
theorem qtN:zy [.s e0]=(let t0:=zE [.s e0,.s [45]];let s0:List UInt8:=(gS t0 0);let t1:TR:=(qLu [.i 3]);let t2:=q8O [.s s0,.s [48,49,50,51,52,53,54,55,56,57]];let t3:TR:=(.br (ilt 1024 (qD s0)) (qLu [.i 11]) (qLu [.i 0]));(qLs t0 (.br (seq s0 []) t1 (qLs t2 (.br (not (seq (gS t2 0) [])) t1 (qLt (inb 0 (qD s0)) (.br (ieq (sat s0 0) 48) (.br (not (seq e0 [48])) t1 t3) t3))))))):=by kernel_rfl
theorem qjX:q7F [.r a0,.i c1,.i c2]=(.br (ilt c2 c1) (qLt (inb c2 (qh a0)) (let r0:=zy [.s (cS a0 c2 0)];qLs r0 (.br (ine (gI r0 0) 0) (.leaf (2,[.i (gI r0 0)])) (qLu [.r a0,.i c1,.i (qE .i64 c2 1)])))) (.leaf (1,[]))):=by kernel_rfl
theorem qxa:wX [.r a0]=(let r0:=qf q7F [.r a0,.i (qh a0),.i 0];qLs r0 (.br (jIs r0 0) (qLu [.i 0]) (qLu [.i (gI r0 0)]))):=by kernel_rfl
theorem qv5:uw [.s e0]=(.br (seq e0 [48]) (qLu [.i 0]) (qLt (inb 0 (qD e0)) (.br (ieq (sat e0 0) 45) (qLu [.i (-1)]) (qLu [.i 1])))):=by kernel_rfl
theorem qtA:q7H [.s e0,.s e1]=(.br (ine (qD e0) (qD e1)) (.br (ilt (qD e0) (qD e1)) (qLu [.i (-1)]) (qLu [.i 1])) (let r0:=q3I [.s e0,.s e1];qLs r0 (qLu [.i (gI r0 0)]))):=by kernel_rfl
theorem qpR:uS [.s e0,.s e1]=(let r0:=wX [.r [[.s e0],[.s e1]]];qLs r0 (.br (ine (gI r0 0) 0) (qLu [.i 0,.i (gI r0 0)]) (let r1:=uw [.s e0];qLs r1 (let r2:=uw [.s e1];qLs r2 (.br (ilt (gI r1 0) (gI r2 0)) (qLu [.i (-1),.i 0]) (qLs r2 (.br (ilt (gI r2 0) (gI r1 0)) (qLu [.i 1,.i 0]) (let r3:=zE [.s e0,.s [45]];qLs r3 (let r4:=zE [.s e1,.s [45]];qLs r4 (let r5:=q7H [.s (gS r3 0),.s (gS r4 0)];qLs r5 (qLu [.i (jw .i64 (gI r1 0) (gI r5 0)),.i 0]))))))))))):=by kernel_rfl
theorem qfX:jL [.b d0,.i c1,.r a2]=(let i0:Int:=(vN .i64 c1 1);let t0:TR:=(.leaf (1,[.b d0,.i c1,.r a2]));(.br (ilt 0 c1) (qLt (inb i0 232) (qLt (inb i0 232) (.br (ieq (cI a2 i0 0) 0) (qLu [.b d0,.i i0,.r a2]) t0))) t0)):=by kernel_rfl
theorem qhU:zl [.b d0,.i c1,.r a2]=(let r0:=qf jL [.b d0,.i c1,.r a2];qLs r0 (qLu [.b (gB r0 0),.i (gI r0 1),.r (gR r0 2)])):=by kernel_rfl
theorem qsF:q54 [.s e0,.b d1,.i c2,.r a3]=(let i0:Int:=(qD e0);let i1:Int:=(qos 0 (vN .i64 i0 9));let t0:=yl [.s (qcW e0 i1 i0)];(.br (ilt 0 i0) (qLt (q68 i0 i0) (qLt (q68 i1 i0) (qLs t0 (qLt (inb c2 232) (qLt (inb c2 232) (qLt (q68 i1 i0) (qLt (q68 0 i1) (qLu [.s (qcW e0 0 i1),.b d1,.i (qE .i64 c2 1),.r (qhx a3 c2 0 [.i (gI t0 0)])])))))))) (.leaf (1,[.b d1,.i c2,.r a3])))):=by kernel_rfl
theorem qw9:vb [.s e0]=(qLt (inb 0 (qD e0)) (let r0:=zE [.s e0,.s [45]];qLs r0 (let r1:=qf q54 [.s (gS r0 0),.b (ieq (sat e0 0) 45),.i 0,.r (q4n 232 [.i 0])];qLs r1 (let r2:=zl [.b (gB r1 0),.i (gI r1 1),.r (gR r1 2)];qLs r2 (qLu [.b (gB r2 0),.i (gI r2 1),.r (gR r2 2)]))))):=by kernel_rfl
theorem q9f:js [.i c0,.i c1,.i c2,.i c3,.b d4,.i c5,.r a6,.b d7,.i c8,.r a9]=(let i0:Int:=(qE .i64 c3 c1);let b0:Bool:=(inb i0 232);let i1:Int:=(qE .i64 (cI a6 i0 0) c2);let i2:Int:=(qE .i64 i1 (jw .i64 c0 (cI a9 c3 0)));let i3:Int:=(qdm .i64 i2 1000000000);let i4:Int:=(vN .i64 i2 (jw .i64 i3 1000000000));let p0:List PV:=[.b d7,.i c8,.r a9];let i5:Int:=(qos c5 (qE .i64 i0 1));let i6:Int:=(qE .i64 c3 1);let i7:Int:=(qdm .i64 i1 1000000000);let i8:Int:=(vN .i64 i1 (jw .i64 i7 1000000000));let t0:TR:=(qLt b0 (qLt b0 (.br (ilt c3 c8) (qLt (inb c3 232) (qLt (inb c3 232) (.br (ilt i4 0) (qLt b0 (qLt b0 (qLu ((.i c0)::(.i c1)::(.i (vN .i64 i3 1))::(.i i6)::(.b d4)::(.i i5)::(.r (qhx a6 i0 0 [.i (qE .i64 i4 1000000000)]))::p0)))) (qLt b0 (qLt b0 (qLu ((.i c0)::(.i c1)::(.i i3)::(.i i6)::(.b d4)::(.i i5)::(.r (qhx a6 i0 0 [.i i4]))::p0))))))) (.br (ilt i8 0) (qLt b0 (qLt b0 (qLu ((.i c0)::(.i c1)::(.i (vN .i64 i7 1))::(.i i6)::(.b d4)::(.i i5)::(.r (qhx a6 i0 0 [.i (qE .i64 i8 1000000000)]))::p0)))) (qLt b0 (qLt b0 (qLu ((.i c0)::(.i c1)::(.i i7)::(.i i6)::(.b d4)::(.i i5)::(.r (qhx a6 i0 0 [.i i8]))::p0))))))));(.br (ilt c3 c8) t0 (.br (ine c2 0) t0 (.leaf (1,((.b d4)::(.i c5)::(.r a6)::p0)))))):=by kernel_rfl
theorem ql3:zq [.i c0,.i c1,.b d2,.i c3,.r a4,.b d5,.i c6,.r a7]=(let r0:=qf js [.i c0,.i c1,.i 0,.i 0,.b d2,.i c3,.r a4,.b d5,.i c6,.r a7];qLs r0 (let r1:=zl [.b (gB r0 0),.i (gI r0 1),.r (gR r0 2)];qLs r1 (qLu [.b (gB r1 0),.i (gI r1 1),.r (gR r1 2),.b (gB r0 3),.i (gI r0 4),.r (gR r0 5)]))):=by kernel_rfl
theorem qhl:yD [.i c0,.b d1,.i c2,.r a3,.b d4,.i c5,.r a6]=(let b0:Bool:=(inb c0 232);let p0:List PV:=[.b d1,.i c2,.r a3,.b d4,.i c5,.r a6];(.br (ile 0 c0) (qLt b0 (qLt b0 (qLt b0 (qLt b0 (.br (ine (cI a3 c0 0) (cI a6 c0 0)) (qLt b0 (qLt b0 (qLt b0 (qLt b0 (.leaf (2,((.i (vN .i64 (cI a3 c0 0) (cI a6 c0 0)))::p0))))))) (qLu ((.i (vN .i64 c0 1))::p0))))))) (.leaf (1,p0)))):=by kernel_rfl
theorem qjL:vM [.b d0,.i c1,.r a2,.b d3,.i c4,.r a5]=(.br (ine c1 c4) (qLu [.i (vN .i64 c1 c4),.b d0,.i c1,.r a2,.b d3,.i c4,.r a5]) (let r0:=qf yD [.i (vN .i64 c1 1),.b d0,.i c1,.r a2,.b d3,.i c4,.r a5];qLs r0 (.br (jIs r0 0) (qLu [.i 0,.b (gB r0 0),.i (gI r0 1),.r (gR r0 2),.b (gB r0 3),.i (gI r0 4),.r (gR r0 5)]) (qLu [.i (gI r0 0),.b (gB r0 1),.i (gI r0 2),.r (gR r0 3),.b (gB r0 4),.i (gI r0 5),.r (gR r0 6)])))):=by kernel_rfl
theorem qog:q2f [.b d0,.i c1,.r a2,.b d3,.i c4,.r a5]=(let i0:Int:=(vN .i64 c4 1);let b0:Bool:=(ilt i0 0);let b1:Bool:=(ilt 1 c4);let p0:List PV:=[.b d0,.i c1,.r a2,.b d3,.i c4,.r a5];let t0:TR:=(qLu ((.i 1)::p0));let b2:Bool:=(ile c4 i0);let b3:Bool:=(inb i0 232);let i1:Int:=(cI a5 i0 0);let i2:Int:=(qE .i64 i1 1);let b4:Bool:=(ine i2 0);let b5:Bool:=(ine i1 0);let t1:TR:=(.br b0 (qLt b1 t0) (.br b2 (qLt b1 t0) (qLt b3 (qLt b3 (.br b1 (qLt b4 (.br (ilt 0 (qdm .i64 0 i2)) (qLu ((.i (qhy (qdm .i64 0 i2) 999999999))::p0)) t0)) (qLt b5 (.br (ilt 0 (qdm .i64 0 i1)) (qLu ((.i (qhy (qdm .i64 0 i1) 999999999))::p0)) t0)))))));let i3:Int:=(qE .i64 0 (cI a2 i0 0));let t2:TR:=(qLt b1 (.br (ilt 0 (qdm .i64 i3 1)) (qLu ((.i (qhy (qdm .i64 i3 1) 999999999))::p0)) t0));let t3:TR:=(.br b0 t1 (.br (ile c1 i0) t1 (qLt b3 (qLt b3 (.br b0 t2 (.br b2 t2 (qLt b3 (qLt b3 (.br b1 (qLt b4 (.br (ilt 0 (qdm .i64 i3 i2)) (qLu ((.i (qhy (qdm .i64 i3 i2) 999999999))::p0)) t0)) (qLt b5 (.br (ilt 0 (qdm .i64 i3 i1)) (qLu ((.i (qhy (qdm .i64 i3 i1) 999999999))::p0)) t0)))))))))));let i4:Int:=(jw .i64 (cI a2 c4 0) 1000000000);let i5:Int:=(qE .i64 i4 0);let t4:TR:=(qLt b1 (.br (ilt 0 (qdm .i64 i5 1)) (qLu ((.i (qhy (qdm .i64 i5 1) 999999999))::p0)) t0));let t5:TR:=(.br b0 t4 (.br b2 t4 (qLt b3 (qLt b3 (.br b1 (qLt b4 (.br (ilt 0 (qdm .i64 i5 i2)) (qLu ((.i (qhy (qdm .i64 i5 i2) 999999999))::p0)) t0)) (qLt b5 (.br (ilt 0 (qdm .i64 i5 i1)) (qLu ((.i (qhy (qdm .i64 i5 i1) 999999999))::p0)) t0)))))));let i6:Int:=(qE .i64 i4 (cI a2 i0 0));let t6:TR:=(qLt b1 (.br (ilt 0 (qdm .i64 i6 1)) (qLu ((.i (qhy (qdm .i64 i6 1) 999999999))::p0)) t0));(.br (ilt c4 0) t3 (.br (ile c1 c4) t3 (qLt (inb c4 232) (qLt (inb c4 232) (.br b0 t5 (.br (ile c1 i0) t5 (qLt b3 (qLt b3 (.br b0 t6 (.br b2 t6 (qLt b3 (qLt b3 (.br b1 (qLt b4 (.br (ilt 0 (qdm .i64 i6 i2)) (qLu ((.i (qhy (qdm .i64 i6 i2) 999999999))::p0)) t0)) (qLt b5 (.br (ilt 0 (qdm .i64 i6 i1)) (qLu ((.i (qhy (qdm .i64 i6 i1) 999999999))::p0)) t0)))))))))))))))):=by kernel_rfl
theorem qlg:yG [.i c0,.i c1,.b d2,.i c3,.r a4,.b d5,.i c6,.r a7,.b d8,.i c9,.r a10,.b d11,.i c12,.r a13]=(let r0:=vM [.b d11,.i c12,.r a13,.b d5,.i c6,.r a7];qLs r0 (.br (ile 0 (gI r0 0)) (let r1:=q2f [.b (gB r0 1),.i (gI r0 2),.r (gR r0 3),.b (gB r0 4),.i (gI r0 5),.r (gR r0 6)];qLs r1 (let r2:=zq [.i (vN .i64 0 (gI r1 0)),.i 0,.b (gB r1 1),.i (gI r1 2),.r (gR r1 3),.b (gB r1 4),.i (gI r1 5),.r (gR r1 6)];qLs r2 (qLu [.i c0,.i (qE .i64 c1 (gI r1 0)),.b d2,.i c3,.r a4,.b (gB r2 3),.i (gI r2 4),.r (gR r2 5),.b d8,.i c9,.r a10,.b (gB r2 0),.i (gI r2 1),.r (gR r2 2)]))) (.leaf (1,[.i c0,.i c1,.b d2,.i c3,.r a4,.b (gB r0 4),.i (gI r0 5),.r (gR r0 6),.b d8,.i c9,.r a10,.b (gB r0 1),.i (gI r0 2),.r (gR r0 3)])))):=by kernel_rfl
theorem qn1:q0Z [.i c0,.b d1,.i c2,.r a3,.b d4,.i c5,.r a6,.b d7,.i c8,.r a9,.b d10,.i c11,.r a12]=(.br (ile 0 c0) (qLt (q68 232 232) (qLt (q68 1 232) (qLt (q68 c11 232) (qLt (q68 0 c11) (qLt (inb c0 232) (qLt (inb c0 232) (let r0:=zl [.b d10,.i (qE .i64 c11 1),.r (qhx (qmP a12 1 a12 0 (qhy (qzH c11 0) (qzH 232 1))) 0 0 [.i (cI a3 c0 0)])];qLs r0 (let r1:=qf yG [.i c0,.i 0,.b d1,.i c2,.r a3,.b d4,.i c5,.r a6,.b d7,.i c8,.r a9,.b (gB r0 0),.i (gI r0 1),.r (gR r0 2)];qLs r1 (qLt (inb (gI r1 0) 232) (qLt (inb (gI r1 0) 232) (qLu [.i (vN .i64 (gI r1 0) 1),.b (gB r1 2),.i (gI r1 3),.r (gR r1 4),.b (gB r1 5),.i (gI r1 6),.r (gR r1 7),.b (gB r1 8),.i (qos (gI r1 9) (qE .i64 (gI r1 0) 1)),.r (qhx (gR r1 10) (gI r1 0) 0 [.i (gI r1 1)]),.b (gB r1 11),.i (gI r1 12),.r (gR r1 13)]))))))))))) (.leaf (1,[.b d1,.i c2,.r a3,.b d4,.i c5,.r a6,.b d7,.i c8,.r a9,.b d10,.i c11,.r a12]))):=by kernel_rfl
theorem qpL:ke [.b d0,.i c1,.r a2,.b d3,.i c4,.r a5]=(let r0:=qf q0Z [.i (vN .i64 c1 1),.b d0,.i c1,.r a2,.b d3,.i c4,.r a5,.b false,.i 0,.r (q4n 232 [.i 0]),.b false,.i 0,.r (q4n 232 [.i 0])];qLs r0 (let r1:=zl [.b (gB r0 6),.i (gI r0 7),.r (gR r0 8)];qLs r1 (qLu [.b (gB r0 0),.i (gI r0 1),.r (gR r0 2),.b (gB r0 3),.i (gI r0 4),.r (gR r0 5),.b (gB r1 0),.i (gI r1 1),.r (gR r1 2),.b (gB r0 9),.i (gI r0 10),.r (gR r0 11)]))):=by kernel_rfl
theorem qrt:q2p [.i c0,.i c1]=(.br (ine c1 0) (qLt (ine c1 0) (qLu [.i c1,.i (qcL c0 c1)])) (.leaf (1,[.i c0]))):=by kernel_rfl
theorem qtf:q7l [.b d0,.i c1,.r a2,.b d3,.i c4,.r a5]=(let t0:=qf q2p [.i (cI a2 0 0),.i (cI a5 0 0)];let t1:=vj [.i (gI t0 0)];let t2:=ke [.b d0,.i c1,.r a2,.b d3,.i c4,.r a5];let t3:TR:=(qLs t2 (qLu [.b (gB t2 3),.i (gI t2 4),.r (gR t2 5),.b (gB t2 9),.i (gI t2 10),.r (gR t2 11)]));(.br (ilt 0 c4) (.br (ile c1 1) (.br (ile c4 1) (qLs t0 (qLs t1 (.leaf (2,[.s (gS t1 0),.i 0])))) t3) t3) (.leaf (1,[.b d0,.i c1,.r a2])))):=by kernel_rfl
theorem qy8:q30 [.s e0,.s e1]=(let r0:=wX [.r [[.s e0],[.s e1]]];qLs r0 (.br (ine (gI r0 0) 0) (qLu [.s [],.i (gI r0 0)]) (let r1:=vb [.s e0];qLs r1 (let r2:=vb [.s e1];qLs r2 (let r3:=qf q7l [.b (gB r1 0),.i (gI r1 1),.r (gR r1 2),.b (gB r2 0),.i (gI r2 1),.r (gR r2 2)];qLs r3 (.br (jIs r3 0) (let r4:=zR [.b false,.i (gI r3 1),.r (gR r3 2)];qLs r4 (qLu [.s (gS r4 0),.i 0])) (qLu [.s (gS r3 0),.i (gI r3 1)]))))))):=by kernel_rfl
theorem qtr:zI [.s e0]=(let t0:=zv [.s e0];let t1:=zy [.s (gS t0 0)];let p0:List PV:=[.s (gS t0 1)];let t2:TR:=(qLu [.i 3]);let i0:Int:=(gI (zy p0) 0);let t3:TR:=(qLu [.i (qos (gI t1 0) i0)]);let t4:TR:=(qLu [.i 0]);let t5:=uS [.s (gS t0 1),.s [49]];let t6:=q30 ((.s (gS t0 0))::p0);(qLs t0 (qLs t1 (qLs (zy p0) (.br (ieq (gI t1 0) 3) t2 (.br (ieq i0 3) t2 (.br (ine (gI t1 0) 0) t3 (.br (ine i0 0) t3 (.br (not (gB t0 2)) t4 (qLs t5 (qLs t6 (.br (ine (gI t5 1) 0) t2 (.br (ine (gI t6 1) 0) t2 (.br (ile (gI t5 0) 0) t2 (.br (not (seq (gS t6 0) [49])) t2 t4))))))))))))))):=by kernel_rfl
theorem qbX:yJ [.r a0,.i c1,.i c2]=(.br (ilt c2 c1) (qLt (inb c2 (qh a0)) (let r0:=zI [.s (cS a0 c2 0)];qLs r0 (.br (ine (gI r0 0) 0) (.leaf (2,[.i (gI r0 0)])) (qLu [.r a0,.i c1,.i (qE .i64 c2 1)])))) (.leaf (1,[]))):=by kernel_rfl
theorem qo4:jA [.r a0]=(let r0:=qf yJ [.r a0,.i (qh a0),.i 0];qLs r0 (.br (jIs r0 0) (qLu [.i 0]) (qLu [.i (gI r0 0)]))):=by kernel_rfl
theorem qs5:yf [.i c0,.i c1,.r a2]=(qLs (je [.i c0]) (.br (not (gB (je [.i c0]) 0)) (qLu [.i 2]) (qLs (je [.i c1]) (.br (not (gB (je [.i c1]) 0)) (qLu [.i 2]) (.br (ine (qh a2) (jw .i64 c0 c1)) (qLu [.i 8]) (qLs (jA [.r a2]) (qLu [.i (gI (jA [.r a2]) 0)]))))))):=by kernel_rfl
theorem qt1:uv [.s e0,.s e1]=(.br (ilt 9 (qD e0)) (qLu [.i 0,.i 0,.b false]) (.br (ilt 9 (qD e1)) (qLu [.i 0,.i 0,.b false]) (qLs (yl [.s e0]) (qLs (yl [.s e1]) (qLu [.i (gI (yl [.s e0]) 0),.i (gI (yl [.s e1]) 0),.b true]))))):=by kernel_rfl
theorem qsc:q0o [.i c0]=(qLs (vj [.i c0]) (qLu [.s (gS (vj [.i c0]) 0),.i 0])):=by kernel_rfl
theorem qiJ:ub [.i c0,.i c1,.b d2,.i c3,.r a4,.b d5,.i c6,.r a7,.b d8,.i c9,.r a10]=(.br (ilt c1 c0) (qLt (inb c1 232) (qLt (inb c1 232) (let r0:=zq [.i (cI a7 c1 0),.i c1,.b d8,.i c9,.r a10,.b d2,.i c3,.r a4];qLs r0 (qLu [.i c0,.i (qE .i64 c1 1),.b (gB r0 3),.i (gI r0 4),.r (gR r0 5),.b d5,.i c6,.r a7,.b (gB r0 0),.i (gI r0 1),.r (gR r0 2)])))) (.leaf (1,[.b d2,.i c3,.r a4,.b d5,.i c6,.r a7,.b d8,.i c9,.r a10]))):=by kernel_rfl
theorem ql7:q07 [.b d0,.i c1,.r a2,.b d3,.i c4,.r a5]=(let r0:=qf ub [.i c4,.i 0,.b d0,.i c1,.r a2,.b d3,.i c4,.r a5,.b (not (beq d0 d3)),.i 0,.r (q4n 232 [.i 0])];qLs r0 (qLu [.b (gB r0 0),.i (gI r0 1),.r (gR r0 2),.b (gB r0 3),.i (gI r0 4),.r (gR r0 5),.b (gB r0 6),.i (gI r0 7),.r (gR r0 8)])):=by kernel_rfl
theorem qiA:wY [.b d0,.i c1,.r a2]=(let r0:=zR [.b d0,.i c1,.r a2];qLs r0 (let r1:=zy [.s (gS r0 0)];qLs r1 (.br (ine (gI r1 0) 0) (qLu [.s [],.i (gI r1 0),.b (gB r0 1),.i (gI r0 2),.r (gR r0 3)]) (qLu [.s (gS r0 0),.i 0,.b (gB r0 1),.i (gI r0 2),.r (gR r0 3)])))):=by kernel_rfl
theorem qxI:q5R [.s e0,.s e1]=(let r0:=wX [.r [[.s e0],[.s e1]]];qLs r0 (.br (ine (gI r0 0) 0) (qLu [.s [],.i (gI r0 0)]) (let r1:=uv [.s e0,.s e1];qLs r1 (.br (gB r1 2) (let r2:=q0o [.i (jw .i64 (gI r1 0) (gI r1 1))];qLs r2 (qLu [.s (gS r2 0),.i (gI r2 1)])) (let r2:=vb [.s e0];qLs r2 (let r3:=vb [.s e1];qLs r3 (let r4:=q07 [.b (gB r2 0),.i (gI r2 1),.r (gR r2 2),.b (gB r3 0),.i (gI r3 1),.r (gR r3 2)];qLs r4 (let r5:=wY [.b (gB r4 6),.i (gI r4 7),.r (gR r4 8)];qLs r5 (qLu [.s (gS r5 0),.i (gI r5 1)]))))))))):=by kernel_rfl
theorem qcO:wd [.s e0,.s e1,.i c2]=(.br (ine c2 0) (qLu [.s [48],.i c2]) (let r0:=q5R [.s e0,.s e1];qLs r0 (.br (ine (gI r0 1) 0) (qLu [.s [48],.i (gI r0 1)]) (qLu [.s (gS r0 0),.i (gI r0 1)])))):=by kernel_rfl
theorem qbB:yF [.s e0,.r a1,.i c2,.i c3,.i c4]=(.br (ilt c3 c2) (qLt (inb c3 (qh a1)) (let r0:=wd [.s e0,.s (cS a1 c3 0),.i c4];qLs r0 (qLu [.s (gS r0 0),.r a1,.i c2,.i (qE .i64 c3 1),.i (gI r0 1)]))) (.leaf (1,[.s e0,.i c4]))):=by kernel_rfl
theorem qoL:qB [.r a0,.i c1]=(let r0:=qf yF [.s [49],.r a0,.i (qh a0),.i 0,.i c1];qLs r0 (qLu [.s (gS r0 0),.i (gI r0 1)])):=by kernel_rfl
theorem qtk:q3B [.s e0,.s e1,.s e2,.s e3,.i c4]=(let r0:=qB [.r [[.s e0],[.s e2]],.i c4];qLs r0 (let r1:=qB [.r [[.s e1],[.s e3]],.i (gI r0 1)];qLs r1 (qLu [.s (gS r0 0),.s (gS r1 0),.i (gI r1 1)]))):=by kernel_rfl
theorem qeN:q29 [.r a0,.i c1,.i c2]=(.br (ilt c2 c1) (qLt (inb c2 (qh a0)) (let r0:=zI [.s (cS a0 c2 0)];qLs r0 (.br (ine (gI r0 0) 0) (.leaf (2,[.i (gI r0 0)])) (qLu [.r a0,.i c1,.i (qE .i64 c2 1)])))) (.leaf (1,[]))):=by kernel_rfl
theorem qqO:qX [.r a0]=(let r0:=qf q29 [.r a0,.i (qh a0),.i 0];qLs r0 (.br (jIs r0 0) (qLu [.i 0]) (qLu [.i (gI r0 0)]))):=by kernel_rfl
theorem qm5:vU [.b d0,.i c1,.r a2,.b d3,.i c4,.r a5]=(.br (beq d0 d3) (let r0:=zq [.i 1,.i 0,.b d0,.i c1,.r a2,.b d3,.i c4,.r a5];qLs r0 (qLu [.b (gB r0 0),.i (gI r0 1),.r (gR r0 2),.b (gB r0 3),.i (gI r0 4),.r (gR r0 5)])) (let r0:=vM [.b d0,.i c1,.r a2,.b d3,.i c4,.r a5];qLs r0 (.br (ile 0 (gI r0 0)) (let r1:=zq [.i (-1),.i 0,.b (gB r0 1),.i (gI r0 2),.r (gR r0 3),.b (gB r0 4),.i (gI r0 5),.r (gR r0 6)];qLs r1 (qLu [.b (gB r1 0),.i (gI r1 1),.r (gR r1 2),.b (gB r1 3),.i (gI r1 4),.r (gR r1 5)])) (let r1:=zq [.i (-1),.i 0,.b (gB r0 4),.i (gI r0 5),.r (gR r0 6),.b (gB r0 1),.i (gI r0 2),.r (gR r0 3)];qLs r1 (qLu [.b (gB r1 0),.i (gI r1 1),.r (gR r1 2),.b (gB r0 4),.i (gI r0 5),.r (gR r0 6)]))))):=by kernel_rfl
theorem qeh:q7t [.r a0,.i c1,.i c2,.b d3,.i c4,.r a5]=(.br (ilt c2 c1) (qLt (inb c2 (qh a0)) (let r0:=vb [.s (cS a0 c2 0)];qLs r0 (let r1:=vU [.b d3,.i c4,.r a5,.b (gB r0 0),.i (gI r0 1),.r (gR r0 2)];qLs r1 (qLu [.r a0,.i c1,.i (qE .i64 c2 1),.b (gB r1 0),.i (gI r1 1),.r (gR r1 2)])))) (.leaf (1,[.b d3,.i c4,.r a5]))):=by kernel_rfl
theorem qww:qbY [.r a0]=(let r0:=qf q7t [.r a0,.i (qh a0),.i 0,.b false,.i 0,.r (q4n 232 [.i 0])];qLs r0 (let r1:=wY [.b (gB r0 0),.i (gI r0 1),.r (gR r0 2)];qLs r1 (qLu [.s (gS r1 0),.i (gI r1 1)]))):=by kernel_rfl
theorem qxg:q32 [.s e0,.s e1]=(let r0:=wX [.r [[.s e0],[.s e1]]];qLs r0 (.br (ine (gI r0 0) 0) (qLu [.s [],.i (gI r0 0)]) (let r1:=uv [.s e0,.s e1];qLs r1 (.br (gB r1 2) (let r2:=q0o [.i (qE .i64 (gI r1 0) (gI r1 1))];qLs r2 (qLu [.s (gS r2 0),.i (gI r2 1)])) (let r2:=qbY [.r [[.s e0],[.s e1]]];qLs r2 (qLu [.s (gS r2 0),.i (gI r2 1)])))))):=by kernel_rfl
theorem qo5:q2d [.s e0]=(let r0:=uw [.s e0];qLs r0 (.br (ieq (gI r0 0) 0) (qLu [.s e0]) (.br (ieq (gI r0 0) 1) (qLt (ile ((qD [45])+(qD e0)) 140737488355328) (qLu [.s (qfl [45] e0)])) (qLt (q68 (qD e0) (qD e0)) (qLt (q68 1 (qD e0)) (qLu [.s (qcW e0 1 (qD e0))])))))):=by kernel_rfl
theorem qxJ:q8o [.s e0,.s e1]=(let r0:=wX [.r [[.s e0],[.s e1]]];qLs r0 (.br (ine (gI r0 0) 0) (qLu [.s [],.i (gI r0 0)]) (let r1:=q2d [.s e1];qLs r1 (let r2:=q32 [.s e0,.s (gS r1 0)];qLs r2 (qLu [.s (gS r2 0),.i (gI r2 1)]))))):=by kernel_rfl
theorem qcE:vD [.s e0,.s e1,.i c2]=(.br (ine c2 0) (qLu [.s [48],.i c2]) (let r0:=q8o [.s e0,.s e1];qLs r0 (.br (ine (gI r0 1) 0) (qLu [.s [48],.i (gI r0 1)]) (qLu [.s (gS r0 0),.i (gI r0 1)])))):=by kernel_rfl
theorem qnO:jz [.s e0,.s e1,.i c2]=(let r0:=vD [.s e0,.s e1,.i c2];qLs r0 (qLu [.s (gS r0 0),.i (gI r0 1)])):=by kernel_rfl
theorem qjD:ka [.s e0,.s e1]=(let r0:=qZ [.s e0,.s e1];qLs r0 (qLu [.b (gB r0 0)])):=by kernel_rfl
theorem qsp:q2t [.s e0,.s e1]=(.br (seq e1 [49]) (qLu [.s e0]) (qLt (ile ((qD e0)+(qD [47])) 140737488355328) (qLt (ile ((qD (qfl e0 [47]))+(qD e1)) 140737488355328) (qLu [.s (qfl (qfl e0 [47]) e1)])))):=by kernel_rfl
theorem qqy:q4E [.s e0,.s e1]=(let t0:=wX [.r [[.s e0],[.s e1]]];let t1:=uv [.s e0,.s e1];let i0:Int:=(gI t1 1);let i1:Int:=(qcL (gI t1 0) i0);let i2:Int:=(qdm .i64 (gI t1 0) i0);let t2:=vj [.i (vN .i64 i2 1)];let t3:=vj [.i (qE .i64 i1 i0)];let t4:TR:=(qLs (vj [.i i2]) (qLs (vj [.i i1]) (qLu [.s (gS (vj [.i i2]) 0),.s (gS (vj [.i i1]) 0),.i 0])));let t5:=vb [.s e0];let t6:=vb [.s e1];let t7:=ke [.b (gB t5 0),.i (gI t5 1),.r (gR t5 2),.b (gB t6 0),.i (gI t6 1),.r (gR t6 2)];let b0:Bool:=(not (beq (gB t7 0) (gB t7 3)));let t8:=vU [.b true,.i (gI t7 7),.r (gR t7 8),.b true,.i 1,.r (qhx (q4n 232 [.i 0]) 0 0 [.i 1])];let t9:=vU [.b (gB t7 0),.i (gI t7 10),.r (gR t7 11),.b (gB t7 3),.i (gI t7 4),.r (gR t7 5)];let t10:=zR [.b (gB t8 0),.i (gI t8 1),.r (gR t8 2)];let t11:=zR [.b (gB t9 0),.i (gI t9 1),.r (gR t9 2)];let t12:=zR [.b b0,.i (gI t7 7),.r (gR t7 8)];let t13:=zR [.b (gB t7 0),.i (gI t7 10),.r (gR t7 11)];let t14:TR:=(qLs t12 (qLs t13 (qLu [.s (gS t12 0),.s (gS t13 0),.i 0])));(qLs t0 (.br (ine (gI t0 0) 0) (qLu [.s [],.s [],.i (gI t0 0)]) (.br (seq e1 [48]) (qLu [.s [],.s [],.i 10]) (qLs t1 (.br (gB t1 2) (qLt (ine i0 0) (qLt (ine i0 0) (.br (ine i1 0) (.br (not (beq (ilt i1 0) (ilt i0 0))) (qLs t2 (qLs t3 (qLu [.s (gS t2 0),.s (gS t3 0),.i 0]))) t4) t4))) (qLs t5 (qLs t6 (qLs t7 (.br (ilt 0 (gI t7 10)) (.br b0 (qLs t8 (qLs t9 (qLs t10 (qLs t11 (qLu [.s (gS t10 0),.s (gS t11 0),.i 0]))))) t14) t14)))))))))):=by kernel_rfl
theorem qwQ:q89 [.s e0,.s e1]=(let r0:=q4E [.s e0,.s e1];qLs r0 (.br (ine (gI r0 2) 0) (qLu [.s [],.i (gI r0 2)]) (let r1:=zy [.s (gS r0 0)];qLs r1 (.br (ine (gI r1 0) 0) (qLu [.s [],.i (gI r1 0)]) (qLu [.s (gS r0 0),.i 0]))))):=by kernel_rfl
theorem qcF:vn [.s e0,.s e1,.i c2]=(.br (ine c2 0) (qLu [.s [48],.i c2]) (let r0:=q30 [.s e0,.s e1];qLs r0 (.br (ine (gI r0 1) 0) (qLu [.s [48],.i (gI r0 1)]) (qLu [.s (gS r0 0),.i (gI r0 1)])))):=by kernel_rfl
theorem qcP:zn [.s e0,.s e1,.i c2]=(.br (ine c2 0) (qLu [.s [48],.i c2]) (let r0:=q89 [.s e0,.s e1];qLs r0 (.br (ine (gI r0 1) 0) (qLu [.s [48],.i (gI r0 1)]) (qLu [.s (gS r0 0),.i (gI r0 1)])))):=by kernel_rfl
theorem qjy:zt [.s e0,.s e1,.i c2]=(let r0:=vn [.s e0,.s e1,.i c2];qLs r0 (let r1:=ka [.s e1,.s [45]];qLs r1 (.br (gB r1 0) (let r2:=jz [.s [48],.s (gS r0 0),.i (gI r0 1)];qLs r2 (.br (ine (gI r2 1) 0) (qLu [.s [],.i (gI r2 1)]) (let r3:=zn [.s e0,.s (gS r2 0),.i (gI r2 1)];qLs r3 (let r4:=zn [.s e1,.s (gS r2 0),.i (gI r3 1)];qLs r4 (let r5:=q2t [.s (gS r3 0),.s (gS r4 0)];qLs r5 (qLu [.s (gS r5 0),.i (gI r4 1)])))))) (.br (ine (gI r0 1) 0) (qLu [.s [],.i (gI r0 1)]) (let r2:=zn [.s e0,.s (gS r0 0),.i (gI r0 1)];qLs r2 (let r3:=zn [.s e1,.s (gS r0 0),.i (gI r2 1)];qLs r3 (let r4:=q2t [.s (gS r2 0),.s (gS r3 0)];qLs r4 (qLu [.s (gS r4 0),.i (gI r3 1)])))))))):=by kernel_rfl
theorem qdU:vV [.s e0,.s e1]=(let r0:=qX [.r [[.s e0],[.s e1]]];qLs r0 (.br (ine (gI r0 0) 0) (qLu [.s [],.i (gI r0 0)]) (let r1:=zv [.s e0];qLs r1 (let r2:=zv [.s e1];qLs r2 (let r3:=q3B [.s (gS r1 0),.s (gS r1 1),.s (gS r2 0),.s (gS r2 1),.i 0];qLs r3 (.br (ine (gI r3 2) 0) (qLu [.s [],.i (gI r3 2)]) (.br (seq (gS r3 1) [48]) (qLu [.s [],.i 10]) (let r4:=zt [.s (gS r3 0),.s (gS r3 1),.i (gI r3 2)];qLs r4 (qLu [.s (gS r4 0),.i (gI r4 1)]))))))))):=by kernel_rfl
theorem qy7:yU [.s e0,.s e1]=(let r0:=vV [.s e0,.s e1];qLs r0 (qLu [.s (gS r0 0),.i (gI r0 1)])):=by kernel_rfl
theorem qtL:q3Q [.s e0,.s e1,.s e2,.s e3,.i c4]=(let r0:=qB [.r [[.s e0],[.s e3]],.i c4];qLs r0 (let r1:=qB [.r [[.s e1],[.s e2]],.i (gI r0 1)];qLs r1 (qLu [.s (gS r0 0),.s (gS r1 0),.i (gI r1 1)]))):=by kernel_rfl
theorem qe6:j3 [.s e0,.s e1]=(let r0:=qX [.r [[.s e0],[.s e1]]];qLs r0 (.br (ine (gI r0 0) 0) (qLu [.s [],.i (gI r0 0)]) (let r1:=zv [.s e0];qLs r1 (let r2:=zv [.s e1];qLs r2 (let r3:=q3Q [.s (gS r1 0),.s (gS r1 1),.s (gS r2 0),.s (gS r2 1),.i 0];qLs r3 (.br (ine (gI r3 2) 0) (qLu [.s [],.i (gI r3 2)]) (.br (seq (gS r3 1) [48]) (qLu [.s [],.i 10]) (let r4:=zt [.s (gS r3 0),.s (gS r3 1),.i (gI r3 2)];qLs r4 (qLu [.s (gS r4 0),.i (gI r4 1)]))))))))):=by kernel_rfl
theorem qwM:q63 [.s e0,.s e1]=(let r0:=qX [.r [[.s e0],[.s e1]]];qLs r0 (.br (ine (gI r0 0) 0) (qLu [.s [],.i (gI r0 0)]) (.br (seq e1 [48]) (qLu [.s [],.i 10]) (let r1:=j3 [.s e0,.s e1];qLs r1 (qLu [.s (gS r1 0),.i (gI r1 1)]))))):=by kernel_rfl
theorem qsZ:q3E [.s e0,.s e1,.s e2,.s e3,.i c4]=(let r0:=qB [.r [[.s e0],[.s e3]],.i c4];qLs r0 (let r1:=qB [.r [[.s e2],[.s e1]],.i (gI r0 1)];qLs r1 (let r2:=jz [.s (gS r0 0),.s (gS r1 0),.i (gI r1 1)];qLs r2 (let r3:=qB [.r [[.s e1],[.s e3]],.i (gI r2 1)];qLs r3 (qLu [.s (gS r2 0),.s (gS r3 0),.i (gI r3 1)]))))):=by kernel_rfl
theorem qdy:vT [.s e0,.s e1]=(let r0:=qX [.r [[.s e0],[.s e1]]];qLs r0 (.br (ine (gI r0 0) 0) (qLu [.s [],.i (gI r0 0)]) (let r1:=zv [.s e0];qLs r1 (let r2:=zv [.s e1];qLs r2 (let r3:=q3E [.s (gS r1 0),.s (gS r1 1),.s (gS r2 0),.s (gS r2 1),.i 0];qLs r3 (.br (ine (gI r3 2) 0) (qLu [.s [],.i (gI r3 2)]) (.br (seq (gS r3 1) [48]) (qLu [.s [],.i 10]) (let r4:=zt [.s (gS r3 0),.s (gS r3 1),.i (gI r3 2)];qLs r4 (qLu [.s (gS r4 0),.i (gI r4 1)]))))))))):=by kernel_rfl
theorem qxV:v6 [.s e0,.s e1]=(let r0:=vT [.s e0,.s e1];qLs r0 (qLu [.s (gS r0 0),.i (gI r0 1)])):=by kernel_rfl
theorem qcG:vw [.s e0,.s e1,.i c2]=(.br (ine c2 0) (qLu [.s [48],.i c2]) (let r0:=q32 [.s e0,.s e1];qLs r0 (.br (ine (gI r0 1) 0) (qLu [.s [48],.i (gI r0 1)]) (qLu [.s (gS r0 0),.i (gI r0 1)])))):=by kernel_rfl
theorem qnN:q2g [.s e0,.s e1,.i c2]=(let r0:=vw [.s e0,.s e1,.i c2];qLs r0 (qLu [.s (gS r0 0),.i (gI r0 1)])):=by kernel_rfl
theorem qte:q41 [.s e0,.s e1,.s e2,.s e3,.i c4]=(let r0:=qB [.r [[.s e0],[.s e3]],.i c4];qLs r0 (let r1:=qB [.r [[.s e2],[.s e1]],.i (gI r0 1)];qLs r1 (let r2:=q2g [.s (gS r0 0),.s (gS r1 0),.i (gI r1 1)];qLs r2 (let r3:=qB [.r [[.s e1],[.s e3]],.i (gI r2 1)];qLs r3 (qLu [.s (gS r2 0),.s (gS r3 0),.i (gI r3 1)]))))):=by kernel_rfl
theorem qew:vX [.s e0,.s e1]=(let r0:=qX [.r [[.s e0],[.s e1]]];qLs r0 (.br (ine (gI r0 0) 0) (qLu [.s [],.i (gI r0 0)]) (let r1:=zv [.s e0];qLs r1 (let r2:=zv [.s e1];qLs r2 (let r3:=q41 [.s (gS r1 0),.s (gS r1 1),.s (gS r2 0),.s (gS r2 1),.i 0];qLs r3 (.br (ine (gI r3 2) 0) (qLu [.s [],.i (gI r3 2)]) (.br (seq (gS r3 1) [48]) (qLu [.s [],.i 10]) (let r4:=zt [.s (gS r3 0),.s (gS r3 1),.i (gI r3 2)];qLs r4 (qLu [.s (gS r4 0),.i (gI r4 1)]))))))))):=by kernel_rfl
theorem qy9:uW [.s e0,.s e1]=(let r0:=vX [.s e0,.s e1];qLs r0 (qLu [.s (gS r0 0),.i (gI r0 1)])):=by kernel_rfl
theorem qjw:vK [.s e0,.i c1,.i c2]=(let t0:TR:=(.br (ine c2 0) (qLu [.s [48],.i c2]) (qLu [.s e0,.i c2]));(.br (ine c1 0) (.br (ieq c2 0) (.br (ine c1 0) (qLu [.s [48],.i c1]) (qLu [.s e0,.i c1])) t0) t0)):=by kernel_rfl
theorem qlA:kU [.s e0,.s e1,.i c2]=(let r0:=uW [.s e0,.s e1];qLs r0 (let r1:=vK [.s (gS r0 0),.i (gI r0 1),.i c2];qLs r1 (qLu [.s (gS r1 0),.i (gI r1 1)]))):=by kernel_rfl
theorem qlE:q0a [.s e0,.s e1,.i c2]=(let r0:=yU [.s e0,.s e1];qLs r0 (let r1:=vK [.s (gS r0 0),.i (gI r0 1),.i c2];qLs r1 (qLu [.s (gS r1 0),.i (gI r1 1)]))):=by kernel_rfl
theorem qsy:q51 [.i c0,.i c1,.r a2,.i c3,.i c4]=(qLt (inb (qE .i64 (jw .i64 c3 c1) c4) (qh a2)) (qLu [.s (cS a2 (qE .i64 (jw .i64 c3 c1) c4) 0)])):=by kernel_rfl
theorem qd3:uL [.r a0,.i c1,.s e2,.i c3,.i c4,.r a5,.i c6,.i c7,.i c8,.i c9,.r a10,.i c11,.r a12]=(.br (ilt c7 c6) (qLt (inb c7 (qh a5)) (let r0:=q51 [.i c8,.i c9,.r a10,.i c1,.i c7];qLs r0 (let r1:=q0a [.s (gS r0 0),.s (cS a5 c7 0),.i c11];qLs r1 (let r2:=kU [.s e2,.s (gS r1 0),.i (gI r1 1)];qLs r2 (qLu [.r a0,.i c1,.s (gS r2 0),.i c3,.i c4,.r a5,.i c6,.i (qE .i64 c7 1),.i c8,.i c9,.r a10,.i (gI r2 1),.r a12]))))) (.leaf (1,[.r a0,.s e2,.i c3,.i c4,.i c8,.i c9,.r a10,.i c11,.r a12]))):=by kernel_rfl
theorem qd5:uQ [.r a0,.i c1,.i c2,.i c3,.i c4,.r a5,.i c6,.r a7]=(.br (ilt c2 c1) (let r0:=qf uL [.r a0,.i c2,.s [48],.i c1,.i c2,.r a0,.i (qh a0),.i 0,.i c3,.i c4,.r a5,.i c6,.r a7];qLs r0 (qLt (ile ((qh (gR r0 8))+(qh [[.s (gS r0 1)]])) 8796093022208) (qLu [.r (gR r0 0),.i (gI r0 2),.i (qE .i64 (gI r0 3) 1),.i (gI r0 4),.i (gI r0 5),.r (gR r0 6),.i (gI r0 7),.r (wL (gR r0 8) [[.s (gS r0 1)]])]))) (.leaf (1,[.i c6,.r a7]))):=by kernel_rfl
theorem qrz:q53 [.i c0,.i c1,.r a2,.r a3]=(let r0:=yf [.i c0,.i c1,.r a2];qLs r0 (.br (ine (gI r0 0) 0) (qLu [.r [],.i (gI r0 0)]) (.br (ine (qh a3) c1) (qLu [.r [],.i 8]) (let r1:=jA [.r a3];qLs r1 (.br (ine (gI r1 0) 0) (qLu [.r [],.i (gI r1 0)]) (let r2:=qf uQ [.r a3,.i c0,.i 0,.i c0,.i c1,.r a2,.i 0,.r []];qLs r2 (.br (ine (gI r2 0) 0) (qLu [.r [],.i (gI r2 0)]) (qLu [.r (gR r2 1),.i 0])))))))):=by kernel_rfl
theorem qhC:q2o [.s e0,.r a1,.i c2,.i c3]=(.br (ilt c3 c2) (qLt (inb c3 (qh a1)) (let r0:=uW [.s e0,.s (cS a1 c3 0)];qLs r0 (.br (ine (gI r0 1) 0) (.leaf (2,[.s [],.i (gI r0 1)])) (qLu [.s (gS r0 0),.r a1,.i c2,.i (qE .i64 c3 1)])))) (.leaf (1,[.s e0]))):=by kernel_rfl
theorem qy0:qbM [.r a0]=(.br (ilt 4096 (qh a0)) (qLu [.s [],.i 5]) (let r0:=qX [.r a0];qLs r0 (.br (ine (gI r0 0) 0) (qLu [.s [],.i (gI r0 0)]) (let r1:=qf q2o [.s [48],.r a0,.i (qh a0),.i 0];qLs r1 (.br (jIs r1 0) (qLu [.s (gS r1 0),.i 0]) (qLu [.s (gS r1 0),.i (gI r1 1)])))))):=by kernel_rfl
theorem kt:zj [.r a0,.s e1,.r a2,.i c3,.i c4]=(.br (ilt c4 c3) (qLt (inb c4 (qh a2)) (qLt (inb c4 (qh a0)) (let r0:=yU [.s (cS a2 c4 0),.s (cS a0 c4 0)];qLs r0 (.br (ine (gI r0 1) 0) (.leaf (2,[.s [],.i (gI r0 1)])) (let r1:=uW [.s e1,.s (gS r0 0)];qLs r1 (.br (ine (gI r1 1) 0) (.leaf (2,[.s [],.i (gI r1 1)])) (qLu [.r a0,.s (gS r1 0),.r a2,.i c3,.i (qE .i64 c4 1)]))))))) (.leaf (1,[.s e1]))):=by kernel_rfl
theorem q7O:qT [.r a0,.r a1]=(let r0:=qf zj [.r a1,.s [48],.r a0,.i (qh a0),.i 0];qLs r0 (.br (jIs r0 0) (qLu [.s (gS r0 0),.i 0]) (qLu [.s (gS r0 0),.i (gI r0 1)]))):=by kernel_rfl
theorem qff:kP [.i c0,.i c1,.i c2,.i c3,.s e4,.s e5,.s e6,.r a7]=(let t0:=ya [.i (qyj [c0,c1,c2] c3)];let p0:List PV:=[.s (gS t0 0)];let t1:=v6 ((.s e6)::p0);let i0:Int:=(qE .i64 c3 1);let t2:=v6 ((.s e5)::p0);let t3:=v6 ((.s e4)::p0);(.br (ilt c3 3) (qLt (inb c3 3) (.br (ieq c3 2) (qLs t0 (qLs t1 (.br (ine (gI t1 1) 0) (.leaf (2,[.s [],.i (gI t1 1)])) (qLt (ile ((qh a7)+(qh [[.s (gS t1 0)]])) 8796093022208) (qLu [.i c0,.i c1,.i c2,.i i0,.s e4,.s e5,.s e6,.r (wL a7 [[.s (gS t1 0)]])]))))) (.br (ieq c3 1) (qLs t0 (qLs t2 (.br (ine (gI t2 1) 0) (.leaf (2,[.s [],.i (gI t2 1)])) (qLt (ile ((qh a7)+(qh [[.s (gS t2 0)]])) 8796093022208) (qLu [.i c0,.i c1,.i c2,.i i0,.s e4,.s e5,.s e6,.r (wL a7 [[.s (gS t2 0)]])]))))) (qLt (ieq c3 0) (qLs t0 (qLs t3 (.br (ine (gI t3 1) 0) (.leaf (2,[.s [],.i (gI t3 1)])) (qLt (ile ((qh a7)+(qh [[.s (gS t3 0)]])) 8796093022208) (qLu [.i c0,.i c1,.i c2,.i i0,.s e4,.s e5,.s e6,.r (wL a7 [[.s (gS t3 0)]])]))))))))) (.leaf (1,[.r a7])))):=by kernel_rfl
theorem qro:j9 [.s e0,.s e1,.s e2,.i c3,.i c4,.i c5]=(let r0:=qY [.i c3,.i c4,.i c5];qLs r0 (let r1:=qf kP [.i (gI r0 0),.i (gI r0 1),.i (gI r0 2),.i 0,.s e0,.s e1,.s e2,.r []];qLs r1 (.br (jIs r1 0) (let r2:=qT [.r (gR r1 0),.r (gR r1 0)];qLs r2 (qLu [.s (gS r2 0),.i (gI r2 1)])) (qLu [.s (gS r1 0),.i (gI r1 1)])))):=by kernel_rfl
theorem qao:jX [.r a0,.i c1,.i c2,.i c3,.i c4,.i c5,.i c6,.s e7,.s e8,.s e9,.s e10,.r a11,.r a12]=(.br (ilt c6 c5) (qLt (inb 0 (qh a0)) (qLt (inb (qE .i64 c2 1) (qh a0)) (qLt (inb (qE .i64 c6 1) (qh a0)) (let r0:=q1B [.i (cI a0 0 0),.i (cI a0 0 1),.i (cI a0 0 2),.i (cI a0 (qE .i64 c2 1) 0),.i (cI a0 (qE .i64 c2 1) 1),.i (cI a0 (qE .i64 c2 1) 2),.i (cI a0 (qE .i64 c6 1) 0),.i (cI a0 (qE .i64 c6 1) 1),.i (cI a0 (qE .i64 c6 1) 2)];qLs r0 (qLt (ile ((qh a11)+(qh [[.i (jw .i64 2 (gI r0 0))]])) 17592186044416) (qLu [.r a0,.i c1,.i c2,.i c3,.i c4,.i c5,.i (qE .i64 c6 1),.s e7,.s e8,.s e9,.s e10,.r (wL a11 [[.i (jw .i64 2 (gI r0 0))]]),.r a12])))))) (.leaf (1,[.r a0,.i c1,.i c2,.i c3,.i c4,.s e7,.s e8,.s e9,.s e10,.r a11,.r a12]))):=by kernel_rfl
theorem qbG:yM [.r a0,.i c1,.i c2,.i c3,.s e4,.s e5,.s e6,.s e7,.r a8,.r a9]=(let p0:List PV:=[.s e4,.s e5,.s e6,.s e7,.r a8,.r a9];let t0:=qf jX ((.r a0)::(.i c1)::(.i c3)::(.i c2)::(.i c3)::(.i c1)::(.i 0)::p0);let l0:R:=(gR t0 0);let i0:Int:=(qE .i64 (gI t0 2) 1);let t1:=q1B [.i (cI l0 0 0),.i (cI l0 0 1),.i (cI l0 0 2),.i (cI l0 i0 0),.i (cI l0 i0 1),.i (cI l0 i0 2),.i (cI l0 i0 0),.i (cI l0 i0 1),.i (cI l0 i0 2)];let t2:=ya [.i (gI t1 0)];(.br (ilt c3 c2) (qLs t0 (qLt (inb 0 (qh l0)) (qLt (inb i0 (qh l0)) (qLt (inb i0 (qh l0)) (qLs t1 (qLs t2 (qLt (ile ((qh (gR t0 10))+(qh [[.s (gS t2 0)]])) 8796093022208) (qLu [.r l0,.i (gI t0 1),.i (gI t0 3),.i (qE .i64 (gI t0 4) 1),.s (gS t0 5),.s (gS t0 6),.s (gS t0 7),.s (gS t0 8),.r (gR t0 9),.r (wL (gR t0 10) [[.s (gS t2 0)]])])))))))) (.leaf (1,((.r a0)::(.i c1)::p0))))):=by kernel_rfl
theorem qaj:jQ [.r a0,.i c1,.i c2,.r a3,.i c4,.i c5,.s e6,.s e7,.s e8,.s e9,.r a10,.s e11,.s e12,.s e13,.s e14,.r a15]=(.br (ilt c5 c4) (qLt (inb c5 (qh a3)) (let r0:=qY [.i (cI a3 c5 0),.i (cI a3 c5 1),.i (cI a3 c5 2)];qLs r0 (qLt (inb c1 3) (let r1:=ya [.i (qyj [(gI r0 0),(gI r0 1),(gI r0 2)] c1)];qLs r1 (qLt (ile ((qh a15)+(qh [[.s (gS r1 0)]])) 8796093022208) (qLu [.r a0,.i c1,.i c2,.r a3,.i c4,.i (qE .i64 c5 1),.s e6,.s e7,.s e8,.s e9,.r a10,.s e11,.s e12,.s e13,.s e14,.r (wL a15 [[.s (gS r1 0)]])])))))) (.leaf (1,[.r a0,.i c1,.i c2,.s e6,.s e7,.s e8,.s e9,.r a10,.s e11,.s e12,.s e13,.s e14,.r a15]))):=by kernel_rfl
theorem qap:jV [.r a0,.i c1,.s e2,.s e3,.s e4,.s e5,.r a6,.s e7,.s e8,.s e9,.s e10]=(let t0:=qf jQ [.r a0,.i c1,.i c1,.r a0,.i (qh a0),.i 0,.s e2,.s e3,.s e4,.s e5,.r a6,.s e7,.s e8,.s e9,.s e10,.r []];let l0:R:=(gR t0 7);let t1:=qT [.r l0,.r (gR t0 12)];let b0:Bool:=(ine (gI t1 1) 0);let t2:TR:=(.leaf (2,[.b false,.i (gI t1 1),.s [],.s [],.s [],.s []]));let i0:Int:=(qE .i64 (gI t0 2) 1);let p0:List PV:=[.s (gS t0 10),.s (gS t0 11)];(.br (ilt c1 3) (qLs t0 (qLs t1 (.br (ieq (gI t0 1) 2) (.br b0 t2 (qLu [.r (gR t0 0),.i i0,.s (gS t0 3),.s (gS t0 4),.s (gS t0 5),.s (gS t0 6),.r l0,.s (gS t0 8),.s (gS t0 9),.s (gS t1 0),.s (gS t0 11)])) (.br (ieq (gI t0 1) 1) (.br b0 t2 (qLu ((.r (gR t0 0))::(.i i0)::(.s (gS t0 3))::(.s (gS t0 4))::(.s (gS t0 5))::(.s (gS t0 6))::(.r l0)::(.s (gS t0 8))::(.s (gS t1 0))::p0))) (qLt (ieq (gI t0 1) 0) (.br b0 t2 (qLu ((.r (gR t0 0))::(.i i0)::(.s (gS t0 3))::(.s (gS t0 4))::(.s (gS t0 5))::(.s (gS t0 6))::(.r l0)::(.s (gS t1 0))::(.s (gS t0 9))::p0)))))))) (.leaf (1,[.r a0,.s e2,.s e3,.s e4,.s e5,.r a6,.s e7,.s e8,.s e9,.s e10])))):=by kernel_rfl
theorem qeP:jB [.r a0]=(let r0:=qf yM [.r a0,.i (vN .i64 (qh a0) 1),.i (vN .i64 (qh a0) 1),.i 0,.s [],.s [],.s [],.s [],.r [],.r []];qLs r0 (let r1:=qcw [.i (gI r0 1),.i (gI r0 1),.r (gR r0 6)];qLs r1 (.br (ine (gI r1 3) 0) (qLu [.s [],.s [],.s [],.s [],.r [],.b false,.i (gI r1 3)]) (let r2:=u4 [.i (gI r1 0),.i (gI r1 1),.r (gR r1 2)];qLs r2 (.br (ieq (gI r2 3) 14) (qLu [.s [],.s [],.s [],.s [],.r [],.b false,.i 0]) (.br (ine (gI r2 3) 0) (qLu [.s [],.s [],.s [],.s [],.r [],.b false,.i (gI r2 3)]) (let r3:=q53 [.i (gI r2 0),.i (gI r2 1),.r (gR r2 2),.r (gR r0 7)];qLs r3 (.br (ine (gI r3 1) 0) (qLu [.s [],.s [],.s [],.s [],.r [],.b false,.i (gI r3 1)]) (let r4:=qbM [.r (gR r3 0)];qLs r4 (.br (ine (gI r4 1) 0) (qLu [.s [],.s [],.s [],.s [],.r [],.b false,.i (gI r4 1)]) (let r5:=v6 [.s [49],.s (gS r4 0)];qLs r5 (.br (ine (gI r5 1) 0) (qLu [.s [],.s [],.s [],.s [],.r [],.b false,.i (gI r5 1)]) (qLt (ile ((qh [[.s (gS r5 0)]])+(qh (gR r3 0))) 8796093022208) (let r6:=qf jV [.r (gR r0 0),.i 0,.s (gS r0 2),.s (gS r0 3),.s (gS r0 4),.s (gS r0 5),.r (wL [[.s (gS r5 0)]] (gR r3 0)),.s [],.s [],.s [],.s []];qLs r6 (.br (jIs r6 0) (qLt (inb 0 (qh (gR r6 0))) (let r7:=j9 [.s (gS r6 6),.s (gS r6 7),.s (gS r6 8),.i (cI (gR r6 0) 0 0),.i (cI (gR r6 0) 0 1),.i (cI (gR r6 0) 0 2)];qLs r7 (qLu [.s (gS r6 6),.s (gS r6 7),.s (gS r6 8),.s (gS r7 0),.r (gR r6 5),.b true,.i (gI r7 1)]))) (qLu [.s (gS r6 2),.s (gS r6 3),.s (gS r6 4),.s (gS r6 5),.r [],.b (gB r6 0),.i (gI r6 1)])))))))))))))))):=by kernel_rfl
theorem qcz:yH [.r a0,.r a1,.i c2,.i c3,.r a4]=(.br (ilt c3 c2) (qLt (inb c3 (qh a1)) (qLt (inb (cI a1 c3 0) (qh a0)) (qLt (ile ((qh a4)+(qh [[.i (cI a0 (cI a1 c3 0) 0),.i (cI a0 (cI a1 c3 0) 1),.i (cI a0 (cI a1 c3 0) 2)]])) 5864062014805) (qLu [.r a0,.r a1,.i c2,.i (qE .i64 c3 1),.r (wL a4 [[.i (cI a0 (cI a1 c3 0) 0),.i (cI a0 (cI a1 c3 0) 1),.i (cI a0 (cI a1 c3 0) 2)]])])))) (.leaf (1,[.r a4]))):=by kernel_rfl
theorem qot:q25 [.r a0,.r a1]=(let r0:=qf yH [.r a0,.r a1,.i (qh a1),.i 0,.r []];qLs r0 (qLu [.r (gR r0 0)])):=by kernel_rfl
theorem qtB:q6Q [.s e0]=(let r0:=zI [.s e0];qLs r0 (.br (ine (gI r0 0) 0) (qLu [.s [],.s [],.i (gI r0 0)]) (let r1:=zv [.s e0];qLs r1 (qLu [.s (gS r1 0),.s (gS r1 1),.i 0])))):=by kernel_rfl
theorem qw1:q9e [.s e0]=(let r0:=zy [.s e0];qLs r0 (.br (ine (gI r0 0) 0) (qLu [.i 0,.i (gI r0 0)]) (let r1:=uw [.s e0];qLs r1 (qLu [.i (gI r1 0),.i 0])))):=by kernel_rfl
theorem qvu:q6f [.s e0]=(let r0:=q6Q [.s e0];qLs r0 (.br (ine (gI r0 2) 0) (qLu [.i 0,.i (gI r0 2)]) (let r1:=q9e [.s (gS r0 0)];qLs r1 (qLu [.i (gI r1 0),.i (gI r1 1)])))):=by kernel_rfl
theorem qcK:zL [.s e0]=(qLs (q6f [.s e0]) (qLu [.b (ilt (gI (q6f [.s e0]) 0) 0)])):=by kernel_rfl
theorem qM:qj [.r a0,.i c1,.i c2,.r a3,.r a4]=(.br (ilt c2 c1) (qLt (inb c2 (qh a0)) (let r0:=zL [.s (cS a0 c2 0)];qLs r0 (.br (gB r0 0) (.leaf (2,[.i c2,.r a3,.r a4])) (qLu [.r a0,.i c1,.i (qE .i64 c2 1),.r a3,.r a4])))) (.leaf (1,[.r a3,.r a4]))):=by kernel_rfl
theorem jx:qu [.r a0]=(let r0:=qf qj [.r a0,.i (qh a0),.i 0,.r a0,.r a0];qLs r0 (.br (jIs r0 0) (qLu [.b false]) (qLu [.b (ile 0 (gI r0 0))]))):=by kernel_rfl
theorem qf7:jh [.s e0,.s e1,.s e2,.s e3,.r a4]=(let r0:=qu [.r a4];qLs r0 (qLu [.b (not (gB r0 0))])):=by kernel_rfl
theorem qpT:zd [.s e0,.s e1]=(let r0:=qX [.r [[.s e0],[.s e1]]];qLs r0 (.br (ine (gI r0 0) 0) (qLu [.i 0,.i (gI r0 0)]) (let r1:=zv [.s e0];qLs r1 (let r2:=zv [.s e1];qLs r2 (let r3:=qB [.r [[.s (gS r1 0)],[.s (gS r2 1)]],.i 0];qLs r3 (let r4:=qB [.r [[.s (gS r2 0)],[.s (gS r1 1)]],.i (gI r3 1)];qLs r4 (.br (ine (gI r4 1) 0) (qLu [.i 0,.i (gI r4 1)]) (let r5:=uS [.s (gS r3 0),.s (gS r4 0)];qLs r5 (qLu [.i (gI r5 0),.i (gI r5 1)]))))))))):=by kernel_rfl
theorem um:zw [.r a0,.i c1,.i c2,.s e3,.s e4,.s e5,.s e6,.r a7]=(.br (ilt c2 c1) (qLt (inb c2 (qh a0)) (let r0:=j9 [.s e3,.s e4,.s e5,.i (cI a0 c2 0),.i (cI a0 c2 1),.i (cI a0 c2 2)];qLs r0 (.br (ine (gI r0 1) 0) (.leaf (2,[.b false,.i (gI r0 1)])) (let r1:=zd [.s (gS r0 0),.s e6];qLs r1 (.br (ine (gI r1 1) 0) (.leaf (2,[.b false,.i (gI r1 1)])) (.br (ilt 0 (gI r1 0)) (.leaf (2,[.b false,.i (gI r1 1)])) (qLu [.r a0,.i c1,.i (qE .i64 c2 1),.s e3,.s e4,.s e5,.s e6,.r a7]))))))) (.leaf (1,[]))):=by kernel_rfl
theorem qcM:vC [.s e0,.s e1,.s e2,.s e3,.r a4,.r a5]=(let r0:=qf zw [.r a5,.i (qh a5),.i 0,.s e0,.s e1,.s e2,.s e3,.r a4];qLs r0 (.br (jIs r0 0) (qLu [.b true,.i 0]) (qLu [.b (gB r0 0),.i (gI r0 1)]))):=by kernel_rfl
theorem qar:zK [.r a0,.r a1]=(let t0:=q25 [.r a0,.r a1];let t1:=jB [.r (gR t0 0)];let t2:TR:=(qLu [.s [],.s [],.s [],.s [],.r [],.b false,.i (gI t1 6)]);let t3:=jh [.s (gS t1 0),.s (gS t1 1),.s (gS t1 2),.s (gS t1 3),.r (gR t1 4)];let t4:=vC [.s (gS t1 0),.s (gS t1 1),.s (gS t1 2),.s (gS t1 3),.r (gR t1 4),.r a0];(qLs t0 (qLs t1 (.br (ine (gI t1 6) 0) t2 (.br (not (gB t1 5)) t2 (qLs t3 (.br (not (gB t3 0)) t2 (qLs t4 (qLu [.s (gS t1 0),.s (gS t1 1),.s (gS t1 2),.s (gS t1 3),.r (gR t1 4),.b (gB t4 0),.i (gI t4 1)]))))))))):=by kernel_rfl
theorem q1K:zc [.r a0,.i c1,.i c2,.i c3,.i c4,.i c5,.r a6,.s e7,.s e8,.s e9,.s e10,.i c11,.i c12,.i c13,.r a14,.r a15]=(.br (ilt c1 c12) (let r0:=vg [.r a0];qLs r0 (qLt (ile ((qh (gR r0 0))+(qh [[.i c1]])) 17592186044416) (qLt (ile ((qh a15)+(qh [[.l (wL (gR r0 0) [[.i c1]])]])) 5864062014805) (let r1:=zK [.r a6,.r (wL (gR r0 0) [[.i c1]])];qLs r1 (.br (ine (gI r1 6) 0) .fail (.br (gB r1 5) (.leaf (2,[.r a6,.s (gS r1 0),.s (gS r1 1),.s (gS r1 2),.s (gS r1 3),.r (gR r1 4),.i 0,.i c12,.i c13,.r (wL (gR r0 0) [[.i c1]])])) (qLu [.r a0,.i (qE .i64 c1 1),.i c2,.i c3,.i c4,.i c5,.r a6,.s e7,.s e8,.s e9,.s e10,.i c11,.i c12,.i c13,.r a14,.r (wL a15 [[.l (wL (gR r0 0) [[.i c1]])]])]))))))) (.leaf (1,[.i c2,.i c3,.i c4,.i c5,.r a6,.s e7,.s e8,.s e9,.s e10,.i c11,.i c12,.i c13,.r a14,.r a15]))):=by kernel_rfl
theorem q2G:vY [.i c0,.i c1,.i c2,.i c3,.r a4,.s e5,.s e6,.s e7,.s e8,.i c9,.i c10,.i c11,.r a12,.r a13]=(let l0:R:=(cR a12 c3 0);let i0:Int:=(qh l0);let p0:List PV:=[.i c0,.i c1,.i c2,.i c3,.r a4,.s e5,.s e6,.s e7,.s e8,.i c9,.i c10,.i c11,.r a12,.r a13];let t0:=qf zc ((.r l0)::(.i (qE .i64 (cI l0 (vN .i64 i0 1) 0) 1))::p0);let t1:=qf zc ((.r l0)::(.i 0)::p0);(.br (ilt c3 c2) (qLt (inb c3 (qh a12)) (.br (ilt 0 i0) (qLt (inb (vN .i64 i0 1) i0) (qLs t0 (.br (jIs t0 0) (qLu [.i (gI t0 0),.i (gI t0 1),.i (gI t0 2),.i (qE .i64 (gI t0 3) 1),.r (gR t0 4),.s (gS t0 5),.s (gS t0 6),.s (gS t0 7),.s (gS t0 8),.i (gI t0 9),.i (gI t0 10),.i (gI t0 11),.r (gR t0 12),.r (gR t0 13)]) (.leaf (2,[.r (gR t0 0),.s (gS t0 1),.s (gS t0 2),.s (gS t0 3),.s (gS t0 4),.r (gR t0 5),.i (gI t0 6),.i (gI t0 7),.i (gI t0 8),.r (gR t0 9)]))))) (qLs t1 (.br (jIs t1 0) (qLu [.i (gI t1 0),.i (gI t1 1),.i (gI t1 2),.i (qE .i64 (gI t1 3) 1),.r (gR t1 4),.s (gS t1 5),.s (gS t1 6),.s (gS t1 7),.s (gS t1 8),.i (gI t1 9),.i (gI t1 10),.i (gI t1 11),.r (gR t1 12),.r (gR t1 13)]) (.leaf (2,[.r (gR t1 0),.s (gS t1 1),.s (gS t1 2),.s (gS t1 3),.s (gS t1 4),.r (gR t1 5),.i (gI t1 6),.i (gI t1 7),.i (gI t1 8),.r (gR t1 9)])))))) (.leaf (1,[.i c0,.i c1,.r a4,.s e5,.s e6,.s e7,.s e8,.i c9,.i c10,.i c11,.r a13])))):=by kernel_rfl
theorem q2x:vQ [.i c0,.i c1,.r a2,.s e3,.s e4,.s e5,.s e6,.i c7,.i c8,.i c9,.r a10]=(.br (ilt c1 c0) (let r0:=qf vY [.i c0,.i c1,.i (qh a10),.i 0,.r a2,.s e3,.s e4,.s e5,.s e6,.i c7,.i c8,.i c9,.r a10,.r []];qLs r0 (.br (jIs r0 0) (qLu [.i (gI r0 0),.i (qE .i64 (gI r0 1) 1),.r (gR r0 2),.s (gS r0 3),.s (gS r0 4),.s (gS r0 5),.s (gS r0 6),.i (gI r0 7),.i (gI r0 8),.i (gI r0 9),.r (gR r0 10)]) (.leaf (2,[.r (gR r0 0),.s (gS r0 1),.s (gS r0 2),.s (gS r0 3),.s (gS r0 4),.r (gR r0 5),.i (gI r0 6),.i (gI r0 7),.i (gI r0 8),.r (gR r0 9)])))) (.leaf (1,[.r a2,.s e3,.s e4,.s e5,.s e6,.i c7,.i c8,.i c9]))):=by kernel_rfl
theorem qpP:jd [.r a0,.i c1]=(let r0:=qf vQ [.i c1,.i 0,.r a0,.s [],.s [],.s [],.s [],.i 0,.i (qh a0),.i c1,.r [[.l []]]];qLs r0 (.br (jIs r0 0) (qLu [.s [],.s [],.s [],.s [],.r [],.r [],.i 6]) (qLu [.s (gS r0 1),.s (gS r0 2),.s (gS r0 3),.s (gS r0 4),.r (gR r0 5),.r (gR r0 9),.i (gI r0 6)]))):=by kernel_rfl
theorem qck:yE [.r a0,.i c1,.i c2,.r a3]=(.br (ilt c2 c1) (qLt (inb c2 (qh a0)) (qLt (ile ((qh a3)+(qh [[.i (cI a0 c2 0),.i (cI a0 c2 1),.i 0]])) 5864062014805) (qLu [.r a0,.i c1,.i (qE .i64 c2 1),.r (wL a3 [[.i (cI a0 c2 0),.i (cI a0 c2 1),.i 0]])]))) (.leaf (1,[.r a3]))):=by kernel_rfl
theorem qoT:vH [.r a0]=(let r0:=qf yE [.r a0,.i (qh a0),.i 0,.r []];qLs r0 (qLu [.r (gR r0 0)])):=by kernel_rfl
theorem q6P:vd [.s e0,.s e1,.s e2,.s e3,.r a4]=(qLu [.s e0,.s e1]):=by kernel_rfl
theorem qor:qV [.r a0]=(let r0:=yg [.r a0];qLs r0 (.br (ine (gI r0 0) 0) (qLu [.s [],.s [],.s [],.r [],.i (gI r0 0)]) (let r1:=vH [.r a0];qLs r1 (let r2:=jd [.r (gR r1 0),.i 3];qLs r2 (.br (ine (gI r2 6) 0) (qLu [.s [],.s [],.s [],.r [],.i (gI r2 6)]) (let r3:=vd [.s (gS r2 0),.s (gS r2 1),.s (gS r2 2),.s (gS r2 3),.r (gR r2 4)];qLs r3 (qLu [.s (gS r3 0),.s (gS r3 1),.s (gS r2 3),.r (gR r2 5),.i 0]))))))):=by kernel_rfl
theorem qo2  : kI []=(let r0:=qV [.r [[.i 0,.i 0],[.i 6,.i 0]]];qLs r0 (.br (ieq (gI r0 4) 0) (qLu [.b (seq (gS r0 2) [57])]) (qLu [.b false]))):=by kernel_rfl
theorem qtq:q04 [.i c0,.i c1,.i c2]=(qLs (zu [.i c0]) (.br (gB (zu [.i c0]) 0) (qLs (zu [.i c1]) (.br (gB (zu [.i c1]) 0) (qLs (zu [.i c2]) (qLu [.b (gB (zu [.i c2]) 0)])) (qLu [.b false]))) (qLu [.b false]))):=by kernel_rfl
theorem q69:w8 [.r a0,.i c1,.i c2]=(.br (ilt c2 c1) (qLt (inb c2 (qh a0)) (let r0:=q04 [.i (cI a0 c2 0),.i (cI a0 c2 1),.i (cI a0 c2 2)];qLs r0 (.br (not (gB r0 0)) (.leaf (2,[.i 2])) (qLu [.r a0,.i c1,.i (qE .i64 c2 1)])))) (.leaf (1,[]))):=by kernel_rfl
theorem qhq:yB [.r a0]=(let r0:=qf w8 [.r a0,.i (qh a0),.i 0];qLs r0 (.br (jIs r0 0) (qLu [.i 0]) (qLu [.i (gI r0 0)]))):=by kernel_rfl
theorem qcD:vB [.r a0]=(.br (ilt 64 (qh a0)) (qLu [.i 5]) (let r0:=yB [.r a0];qLs r0 (qLu [.i (gI r0 0)]))):=by kernel_rfl
theorem qjA:k9 [.r a0]=(let r0:=vB [.r a0];qLs r0 (qLu [.i (gI r0 0)])):=by kernel_rfl
theorem qrl:q4Y [.r a0]=(let r0:=k9 [.r a0];qLs r0 (.br (ine (gI r0 0) 0) (qLu [.i (gI r0 0)]) (let r1:=q0i [.i (qh a0)];qLs r1 (qLu [.i (gI r1 0)])))):=by kernel_rfl
theorem qnS:ze [.r a0]=(let r0:=q4Y [.r a0];qLs r0 (.br (ine (gI r0 0) 0) (qLu [.s [],.s [],.s [],.s [],.r [],.i (gI r0 0)]) (let r1:=jd [.r a0,.i 4];qLs r1 (.br (ine (gI r1 6) 0) (qLu [.s [],.s [],.s [],.s [],.r [],.i (gI r1 6)]) (qLu [.s (gS r1 0),.s (gS r1 1),.s (gS r1 2),.s (gS r1 3),.r (gR r1 5),.i 0]))))):=by kernel_rfl
theorem qry:uE [.i c0,.i c1]=(qLt (ieq c1 0) (qLu [.r [[.l []]]])):=by kernel_rfl
theorem qmn(y0:Int)(y1:R)(y2:Int)(y3:R)(y4 y5:Int)(y6:R):uO [.i y0,.r y1,.i y2,.r y3,.i y4,.i y5,.r y6]=(.br (ilt y2 y0) (qLt (ile ((qh [])+(qh y1)) 17592186044416) (qLt (ile ((qh (wL [] y1))+(qh [[.i y2]])) 17592186044416) (qLt (ile ((qh y6)+(qh [[.l (wL (wL [] y1) [[.i y2]])]])) 5864062014805) (qLu [.i y0,.r y1,.i (qE .i64 y2 1),.r y3,.i y4,.i y5,.r (wL y6 [[.l (wL (wL [] y1) [[.i y2]])]])])))) (.leaf (1,[.i y0,.r y3,.i y4,.i y5,.r y6]))):=by kernel_rfl
theorem qnX(y0:Int)(y1:R)(y2 y3:Int)(y4:R):q27 [.i y0,.r y1,.i y2,.i y3,.r y4]=(.br (ilt y3 y2) (qLt (inb y3 (qh y1)) (.br (ilt 0 (qh (cR y1 y3 0))) (qLt (inb (vN .i64 (qh (cR y1 y3 0)) 1) (qh (cR y1 y3 0))) (let r0:=qf uO [.i y0,.r (cR y1 y3 0),.i (qE .i64 (cI (cR y1 y3 0) (vN .i64 (qh (cR y1 y3 0)) 1) 0) 1),.r y1,.i y2,.i y3,.r y4];qLs r0 (qLu [.i (gI r0 0),.r (gR r0 1),.i (gI r0 2),.i (qE .i64 (gI r0 3) 1),.r (gR r0 4)]))) (let r0:=qf uO [.i y0,.r (cR y1 y3 0),.i 0,.r y1,.i y2,.i y3,.r y4];qLs r0 (qLu [.i (gI r0 0),.r (gR r0 1),.i (gI r0 2),.i (qE .i64 (gI r0 3) 1),.r (gR r0 4)])))) (.leaf (1,[.r y4]))):=by kernel_rfl
theorem qrE:q0B [.i c0,.i c1]=(.br (ieq c1 0) (qLu [.r [[.l []]]]) (let r0:=uE [.i c0,.i (vN .i64 c1 1)];qLs r0 (let r1:=qf q27 [.i c0,.r (gR r0 0),.i (qh (gR r0 0)),.i 0,.r []];qLs r1 (qLu [.r (gR r1 0)])))):=by kernel_rfl
theorem qmN(y0:Int)(y1:R)(y2:Int)(y3:R)(y4 y5:Int)(y6:R):uI [.i y0,.r y1,.i y2,.r y3,.i y4,.i y5,.r y6]=(.br (ilt y2 y0) (qLt (ile ((qh [])+(qh y1)) 17592186044416) (qLt (ile ((qh (wL [] y1))+(qh [[.i y2]])) 17592186044416) (qLt (ile ((qh y6)+(qh [[.l (wL (wL [] y1) [[.i y2]])]])) 5864062014805) (qLu [.i y0,.r y1,.i (qE .i64 y2 1),.r y3,.i y4,.i y5,.r (wL y6 [[.l (wL (wL [] y1) [[.i y2]])]])])))) (.leaf (1,[.i y0,.r y3,.i y4,.i y5,.r y6]))):=by kernel_rfl
theorem qop(y0:Int)(y1:R)(y2 y3:Int)(y4:R):q2h [.i y0,.r y1,.i y2,.i y3,.r y4]=(.br (ilt y3 y2) (qLt (inb y3 (qh y1)) (.br (ilt 0 (qh (cR y1 y3 0))) (qLt (inb (vN .i64 (qh (cR y1 y3 0)) 1) (qh (cR y1 y3 0))) (let r0:=qf uI [.i y0,.r (cR y1 y3 0),.i (qE .i64 (cI (cR y1 y3 0) (vN .i64 (qh (cR y1 y3 0)) 1) 0) 1),.r y1,.i y2,.i y3,.r y4];qLs r0 (qLu [.i (gI r0 0),.r (gR r0 1),.i (gI r0 2),.i (qE .i64 (gI r0 3) 1),.r (gR r0 4)]))) (let r0:=qf uI [.i y0,.r (cR y1 y3 0),.i 0,.r y1,.i y2,.i y3,.r y4];qLs r0 (qLu [.i (gI r0 0),.r (gR r0 1),.i (gI r0 2),.i (qE .i64 (gI r0 3) 1),.r (gR r0 4)])))) (.leaf (1,[.r y4]))):=by kernel_rfl
theorem qsj:q0w [.i c0,.i c1]=(.br (ieq c1 0) (qLu [.r [[.l []]]]) (let r0:=q0B [.i c0,.i (vN .i64 c1 1)];qLs r0 (let r1:=qf q2h [.i c0,.r (gR r0 0),.i (qh (gR r0 0)),.i 0,.r []];qLs r1 (qLu [.r (gR r1 0)])))):=by kernel_rfl
theorem qmz(y0:Int)(y1:R)(y2:Int)(y3:R)(y4 y5:Int)(y6:R):uN [.i y0,.r y1,.i y2,.r y3,.i y4,.i y5,.r y6]=(.br (ilt y2 y0) (qLt (ile ((qh [])+(qh y1)) 17592186044416) (qLt (ile ((qh (wL [] y1))+(qh [[.i y2]])) 17592186044416) (qLt (ile ((qh y6)+(qh [[.l (wL (wL [] y1) [[.i y2]])]])) 5864062014805) (qLu [.i y0,.r y1,.i (qE .i64 y2 1),.r y3,.i y4,.i y5,.r (wL y6 [[.l (wL (wL [] y1) [[.i y2]])]])])))) (.leaf (1,[.i y0,.r y3,.i y4,.i y5,.r y6]))):=by kernel_rfl
theorem qo3(y0:Int)(y1:R)(y2 y3:Int)(y4:R):q2a [.i y0,.r y1,.i y2,.i y3,.r y4]=(.br (ilt y3 y2) (qLt (inb y3 (qh y1)) (.br (ilt 0 (qh (cR y1 y3 0))) (qLt (inb (vN .i64 (qh (cR y1 y3 0)) 1) (qh (cR y1 y3 0))) (let r0:=qf uN [.i y0,.r (cR y1 y3 0),.i (qE .i64 (cI (cR y1 y3 0) (vN .i64 (qh (cR y1 y3 0)) 1) 0) 1),.r y1,.i y2,.i y3,.r y4];qLs r0 (qLu [.i (gI r0 0),.r (gR r0 1),.i (gI r0 2),.i (qE .i64 (gI r0 3) 1),.r (gR r0 4)]))) (let r0:=qf uN [.i y0,.r (cR y1 y3 0),.i 0,.r y1,.i y2,.i y3,.r y4];qLs r0 (qLu [.i (gI r0 0),.r (gR r0 1),.i (gI r0 2),.i (qE .i64 (gI r0 3) 1),.r (gR r0 4)])))) (.leaf (1,[.r y4]))):=by kernel_rfl
theorem qqM:q0v [.i c0,.i c1]=(.br (ieq c1 0) (qLu [.r [[.l []]]]) (let r0:=q0w [.i c0,.i (vN .i64 c1 1)];qLs r0 (let r1:=qf q2a [.i c0,.r (gR r0 0),.i (qh (gR r0 0)),.i 0,.r []];qLs r1 (qLu [.r (gR r1 0)])))):=by kernel_rfl
theorem qnI(y0:Int)(y1:R)(y2:Int)(y3:R)(y4 y5:Int)(y6:R):kK [.i y0,.r y1,.i y2,.r y3,.i y4,.i y5,.r y6]=(.br (ilt y2 y0) (qLt (ile ((qh [])+(qh y1)) 17592186044416) (qLt (ile ((qh (wL [] y1))+(qh [[.i y2]])) 17592186044416) (qLt (ile ((qh y6)+(qh [[.l (wL (wL [] y1) [[.i y2]])]])) 5864062014805) (qLu [.i y0,.r y1,.i (qE .i64 y2 1),.r y3,.i y4,.i y5,.r (wL y6 [[.l (wL (wL [] y1) [[.i y2]])]])])))) (.leaf (1,[.i y0,.r y3,.i y4,.i y5,.r y6]))):=by kernel_rfl
theorem qpA(y0:Int)(y1:R)(y2 y3:Int)(y4:R):q3s [.i y0,.r y1,.i y2,.i y3,.r y4]=(.br (ilt y3 y2) (qLt (inb y3 (qh y1)) (.br (ilt 0 (qh (cR y1 y3 0))) (qLt (inb (vN .i64 (qh (cR y1 y3 0)) 1) (qh (cR y1 y3 0))) (let r0:=qf kK [.i y0,.r (cR y1 y3 0),.i (qE .i64 (cI (cR y1 y3 0) (vN .i64 (qh (cR y1 y3 0)) 1) 0) 1),.r y1,.i y2,.i y3,.r y4];qLs r0 (qLu [.i (gI r0 0),.r (gR r0 1),.i (gI r0 2),.i (qE .i64 (gI r0 3) 1),.r (gR r0 4)]))) (let r0:=qf kK [.i y0,.r (cR y1 y3 0),.i 0,.r y1,.i y2,.i y3,.r y4];qLs r0 (qLu [.i (gI r0 0),.r (gR r0 1),.i (gI r0 2),.i (qE .i64 (gI r0 3) 1),.r (gR r0 4)])))) (.leaf (1,[.r y4]))):=by kernel_rfl
theorem qtc:q46 [.i c0,.i c1]=(.br (ieq c1 0) (qLu [.r [[.l []]]]) (let r0:=q0v [.i c0,.i (vN .i64 c1 1)];qLs r0 (let r1:=qf q3s [.i c0,.r (gR r0 0),.i (qh (gR r0 0)),.i 0,.r []];qLs r1 (qLu [.r (gR r1 0)])))):=by kernel_rfl
theorem qpX:q3i [.s e0,.i c1]=(.br (ilt c1 (qD e0)) (qLt (inb c1 (qD e0)) (.br (ieq (sat e0 c1) 47) (.leaf (2,[.i c1])) (qLu [.s e0,.i (qE .i64 c1 1)]))) (.leaf (1,[]))):=by kernel_rfl
theorem qtg:q1Z [.s e0]=(let r0:=qf q3i [.s e0,.i 0];qLs r0 (.br (jIs r0 0) (qLu [.i (-1)]) (qLu [.i (gI r0 0)]))):=by kernel_rfl
theorem qtj:ul [.s e0]=(let r0:=q1Z [.s e0];qLs r0 (.br (ilt (gI r0 0) 0) (qLu [.s e0,.s [49]]) (qLt (q68 (gI r0 0) (qD e0)) (qLt (q68 0 (gI r0 0)) (qLt (q68 (qD e0) (qD e0)) (qLt (q68 (qE .i64 (gI r0 0) 1) (qD e0)) (qLu [.s (qcW e0 0 (gI r0 0)),.s (qcW e0 (qE .i64 (gI r0 0) 1) (qD e0))]))))))):=by kernel_rfl
theorem qm3:qA [.s e0]=(.br (not (seq e0 [])) (qLt (inb 0 (qD e0)) (.br (ieq (sat e0 0) 45) (qLt (q68 (qD e0) (qD e0)) (qLt (q68 1 (qD e0)) (qLu [.s (qcW e0 1 (qD e0))]))) (qLu [.s e0]))) (qLu [.s e0])):=by kernel_rfl
theorem qpw:q3b [.s e0,.i c1]=(.br (ilt c1 (qD e0)) (qLt (inb c1 (qD e0)) (.br (ilt (sat e0 c1) 48) (.leaf (2,[.i 3])) (qLt (inb c1 (qD e0)) (.br (ilt 57 (sat e0 c1)) (.leaf (2,[.i 3])) (qLu [.s e0,.i (qE .i64 c1 1)]))))) (.leaf (1,[.s e0]))):=by kernel_rfl
theorem qsY:q3J [.s e0]=(let s0:List UInt8:=(gS (qA [.s e0]) 0);let t0:TR:=(qLu [.i 3]);let t1:=qf q3b [.s s0,.i 0];let t2:TR:=(qLs t1 (.br (jIs t1 0) (.br (ilt 1024 (qD (gS t1 0))) (qLu [.i 11]) (qLu [.i 0])) (qLu [.i (gI t1 0)])));(qLs (qA [.s e0]) (.br (seq s0 []) t0 (qLt (inb 0 (qD s0)) (.br (ieq (sat s0 0) 48) (.br (ilt 1 (qD s0)) t0 (.br (ilt 1 (qD e0)) t0 t2)) t2))))):=by kernel_rfl
theorem qsK:qL [.s e0]=(qLt (inb 0 (qD e0)) (qLu [.b (ieq (sat e0 0) 45)])):=by kernel_rfl
theorem qrV:zF [.s e0,.b d1]=(.br d1 (.br (not (seq e0 [48])) (qLt (ile ((qD [45])+(qD e0)) 140737488355328) (qLu [.s (qfl [45] e0)])) (qLu [.s e0])) (qLu [.s e0])):=by kernel_rfl
theorem qrF:wH [.s e0]=(let r0:=qA [.s e0];qLs r0 (let r1:=qL [.s e0];qLs r1 (let r2:=zF [.s (gS r0 0),.b (not (gB r1 0))];qLs r2 (qLu [.s (gS r2 0)])))):=by kernel_rfl
theorem qtD(y0:Int)(y1:qLv):qaX [.i y0,.s y1]=(.br (ilt 9 y0) (qLt (ile ((qD (qo1 [[.i (q2W .u8 (qE .i64 48 (qcL y0 10)))]]))+(qD y1)) 140737488355328) (qLu [.i (qdm .i64 y0 10),.s (qfl (qo1 [[.i (q2W .u8 (qE .i64 48 (qcL y0 10)))]]) y1)])) (.leaf (1,[.i y0,.s y1]))):=by kernel_rfl
theorem qxb:q5P [.i c0]=(let t0:=qf qaX [.i c0,.s []];let s0:List UInt8:=(qo1 [[.i (q2W .u8 (qE .i64 48 (gI t0 0)))]]);let t1:TR:=(.br (ilt c0 0) .fail (qLs t0 (qLt (ile ((qD s0)+(qD (gS t0 1))) 140737488355328) (qLu [.s (qfl s0 (gS t0 1))]))));(.br (ieq c0 (vN .i64 0 c0)) (.br (ine c0 0) (qLu [.s [45,57,50,50,51,51,55,50,48,51,54,56,53,52,55,55,53,56,48,56]]) t1) t1)):=by kernel_rfl
theorem qva(y0:Int)(y1:qLv):qdd [.i y0,.s y1]=(.br (ilt 9 y0) (qLt (ile ((qD (qo1 [[.i (q2W .u8 (qE .i64 48 (qcL y0 10)))]]))+(qD y1)) 140737488355328) (qLu [.i (qdm .i64 y0 10),.s (qfl (qo1 [[.i (q2W .u8 (qE .i64 48 (qcL y0 10)))]]) y1)])) (.leaf (1,[.i y0,.s y1]))):=by kernel_rfl
theorem qrr:wA [.i c0]=(let i0:Int:=(vN .i64 0 c0);let t0:=wH [.s (gS (q5P [.i i0]) 0)];let t1:=qf qdd [.i c0,.s []];let s0:List UInt8:=(qo1 [[.i (q2W .u8 (qE .i64 48 (gI t1 0)))]]);let t2:TR:=(.br (ilt c0 0) (qLs (q5P [.i i0]) (qLs t0 (qLu [.s (gS t0 0)]))) (qLs t1 (qLt (ile ((qD s0)+(qD (gS t1 1))) 140737488355328) (qLu [.s (qfl s0 (gS t1 1))]))));(.br (ieq c0 i0) (.br (ine c0 0) (qLu [.s [45,57,50,50,51,51,55,50,48,51,54,56,53,52,55,55,53,56,48,56]]) t2) t2)):=by kernel_rfl
theorem qeW:kL [.s e0,.i c1,.s e2,.i c3]=(.br (ilt c3 (qD e2)) (qLt (inb c3 (qD e2)) (qLu [.s e0,.i (qE .i64 (jw .i64 10 c1) (q2W .i64 (vN .u8 (sat e2 c3) 48))),.s e2,.i (qE .i64 c3 1)])) (.leaf (1,[.s e0,.i c1]))):=by kernel_rfl
theorem qqs:uB [.s e0]=(let r0:=qA [.s e0];qLs r0 (let r1:=qf kL [.s e0,.i 0,.s (gS r0 0),.i 0];qLs r1 (let r2:=qL [.s (gS r1 0)];qLs r2 (.br (gB r2 0) (qLu [.i (vN .i64 0 (gI r1 1))]) (qLu [.i (gI r1 1)]))))):=by kernel_rfl
theorem qtx:jm [.s e0,.s e1]=(qLs (qA [.s e0]) (.br (ilt 18 (qD (gS (qA [.s e0]) 0))) (qLu [.i 0,.i 0,.b false]) (qLs (qA [.s e1]) (.br (ilt 18 (qD (gS (qA [.s e1]) 0))) (qLu [.i 0,.i 0,.b false]) (qLs (uB [.s e0]) (qLs (uB [.s e1]) (qLu [.i (gI (uB [.s e0]) 0),.i (gI (uB [.s e1]) 0),.b true]))))))):=by kernel_rfl
theorem qqz:q5e [.s e0]=(.br (ilt 1 (qD e0)) (qLt (inb 0 (qD e0)) (.br (ieq (sat e0 0) 48) (qLt (q68 (qD e0) (qD e0)) (qLt (q68 1 (qD e0)) (qLu [.s (qcW e0 1 (qD e0))]))) (.leaf (1,[.s e0])))) (.leaf (1,[.s e0]))):=by kernel_rfl
theorem qvn:uD [.s e0]=(let r0:=qf q5e [.s e0];qLs r0 (qLu [.s (gS r0 0)])):=by kernel_rfl
theorem qiY:q2k [.s e0,.i c1,.i c2,.r a3]=(.br (ilt c2 c1) (qLt (inb c2 (qh a3)) (qLu [.s e0,.i c1,.i (qE .i64 c2 1),.r (qhx a3 c2 0 [.i 48])])) (.leaf (1,[.s e0,.i c1,.r a3]))):=by kernel_rfl
theorem quL:q66 [.s e0,.i c1]=(let t0:=qf q2k [.s e0,.i c1,.i 0,.r (q4n c1 [.i 0])];let i0:Int:=(qh (gR t0 2));let i1:Int:=(vN .i64 (gI t0 1) (qD (gS t0 0)));(qLt (ieq c1 c1) (qLt (q68 c1 140737488355328) (qLs t0 (qLt (ilt 0 i0) (qLt (q68 i1 i0) (qLt (ile (qD (gS t0 0)) (qzH i0 i1)) (qLu [.s (qo1 (qyi (gR t0 2) i1 (gS t0 0)))])))))))):=by kernel_rfl
theorem qs4:q5i [.i c0,.i c1,.i c2,.b d3]=(let i0:Int:=(q2W .i64 (vN .u8 c0 48));let i1:Int:=(q2W .i64 (vN .u8 c1 48));let i2:Int:=(qE .i64 (qE .i64 i0 i1) c2);let i3:Int:=(qE .i64 48 i2);let i4:Int:=(vN .i64 (vN .i64 i0 i1) c2);let i5:Int:=(qE .i64 48 i4);(.br d3 (.br (ilt 9 i2) (qLu [.i (q2W .u8 (vN .i64 i3 10)),.i 1]) (.br (ilt i2 0) (qLu [.i (q2W .u8 (qE .i64 i3 10)),.i 1]) (qLu [.i (q2W .u8 i3),.i 0]))) (.br (ilt 9 i4) (qLu [.i (q2W .u8 (vN .i64 i5 10)),.i 1]) (.br (ilt i4 0) (qLu [.i (q2W .u8 (qE .i64 i5 10)),.i 1]) (qLu [.i (q2W .u8 i5),.i 0]))))):=by kernel_rfl
theorem qpC:q13 [.s e0,.s e1,.b d2,.i c3,.i c4,.r a5]=(.br (ile 0 c4) (qLt (inb c4 (qD e0)) (qLt (inb c4 (qD e1)) (let r0:=q5i [.i (sat e0 c4),.i (sat e1 c4),.i c3,.b d2];qLs r0 (qLt (inb c4 (qh a5)) (qLu [.s e0,.s e1,.b d2,.i (gI r0 1),.i (vN .i64 c4 1),.r (qhx a5 c4 0 [.i (gI r0 0)])]))))) (.leaf (1,[.r a5]))):=by kernel_rfl
theorem qtw:ur [.s e0,.s e1,.b d2]=(let i0:Int:=(qE .i64 (qos (qD e0) (qD e1)) 1);let t0:=q66 [.s e0,.i i0];let t1:=q66 [.s e1,.i i0];let t2:=qf q13 [.s (gS t0 0),.s (gS t1 0),.b d2,.i 0,.i (vN .i64 i0 1),.r (q4n i0 [.i 0])];let t3:=uD [.s (qo1 (gR t2 0))];(qLs t0 (qLs t1 (qLt (ieq i0 i0) (qLt (q68 i0 140737488355328) (qLs t2 (qLs t3 (qLu [.s (gS t3 0)])))))))):=by kernel_rfl
theorem quR:q3a [.s e0,.s e1]=(.br (ilt (qD e0) (qD e1)) (qLu [.b true]) (.br (ieq (qD e0) (qD e1)) (qLu [.b (slt e0 e1)]) (qLu [.b false]))):=by kernel_rfl
theorem qv1:q3e [.s e0,.s e1]=(let r0:=jm [.s e0,.s e1];qLs r0 (.br (gB r0 2) (let r1:=wA [.i (qE .i64 (gI r0 0) (gI r0 1))];qLs r1 (qLu [.s (gS r1 0)])) (let r1:=qA [.s e0];qLs r1 (let r2:=qA [.s e1];qLs r2 (let r3:=qL [.s e0];qLs r3 (let r4:=qL [.s e1];qLs r4 (.br (beq (gB r3 0) (gB r4 0)) (let r5:=ur [.s (gS r1 0),.s (gS r2 0),.b true];qLs r5 (qLs r3 (let r6:=zF [.s (gS r5 0),.b (gB r3 0)];qLs r6 (qLu [.s (gS r6 0)])))) (let r5:=q3a [.s (gS r1 0),.s (gS r2 0)];qLs r5 (.br (gB r5 0) (let r6:=ur [.s (gS r2 0),.s (gS r1 0),.b false];qLs r6 (qLs r4 (let r7:=zF [.s (gS r6 0),.b (gB r4 0)];qLs r7 (qLu [.s (gS r7 0)])))) (let r6:=ur [.s (gS r1 0),.s (gS r2 0),.b false];qLs r6 (qLs r3 (let r7:=zF [.s (gS r6 0),.b (gB r3 0)];qLs r7 (qLu [.s (gS r7 0)]))))))))))))):=by kernel_rfl
theorem qsL:jg [.s e0,.s e1]=(let r0:=wH [.s e1];qLs r0 (let r1:=q3e [.s e0,.s (gS r0 0)];qLs r1 (qLu [.s (gS r1 0)]))):=by kernel_rfl
theorem qsX:q1I [.s e0,.s e1]=(let r0:=jg [.s e0,.s e1];qLs r0 (.br (seq (gS r0 0) [48]) (qLu [.i 0]) (let r1:=qL [.s (gS r0 0)];qLs r1 (.br (gB r1 0) (qLu [.i (-1)]) (qLu [.i 1]))))):=by kernel_rfl
theorem qmR:uJ [.s e0,.s e1,.i c2,.i c3,.r a4]=(let i0:Int:=(qE .i64 (qE .i64 c2 c3) 1);(.br (ilt c3 (qD e1)) (qLt (inb i0 (qh a4)) (qLt (inb c2 (qD e0)) (qLt (inb c3 (qD e1)) (qLt (inb i0 (qh a4)) (qLu [.s e0,.s e1,.i c2,.i (qE .i64 c3 1),.r (qhx a4 i0 0 [.i (qE .i64 (cI a4 i0 0) (jw .i64 (q2W .i64 (vN .u8 (sat e0 c2) 48)) (q2W .i64 (vN .u8 (sat e1 c3) 48))))])]))))) (.leaf (1,[.s e0,.s e1,.i c2,.r a4])))):=by kernel_rfl
theorem qlW:uP [.s e0,.s e1,.i c2,.r a3]=(.br (ilt c2 (qD e0)) (let r0:=qf uJ [.s e0,.s e1,.i c2,.i 0,.r a3];qLs r0 (qLu [.s (gS r0 0),.s (gS r0 1),.i (qE .i64 (gI r0 2) 1),.r (gR r0 3)])) (.leaf (1,[.r a3]))):=by kernel_rfl
theorem qkE:yK [.i c0,.i c1,.r a2,.r a3]=(.br (ile 0 c1) (qLt (inb c1 (qh a2)) (qLt (inb c1 (qh a3)) (qLu [.i (qdm .i64 (qE .i64 c0 (cI a2 c1 0)) 10),.i (vN .i64 c1 1),.r a2,.r (qhx a3 c1 0 [.i (q2W .u8 (qE .i64 48 (qcL (qE .i64 c0 (cI a2 c1 0)) 10)))])]))) (.leaf (1,[.r a3]))):=by kernel_rfl
theorem qq1:q3u [.s e0,.s e1]=(let i0:Int:=(qE .i64 (qD e0) (qD e1));let t0:=qf uP [.s e0,.s e1,.i 0,.r (q4n i0 [.i 0])];let i1:Int:=(qh (gR t0 0));let t1:=qf yK [.i 0,.i (vN .i64 i1 1),.r (gR t0 0),.r (q4n i1 [.i 0])];let t2:=uD [.s (qo1 (gR t1 0))];(qLt (ieq i0 i0) (qLt (q68 i0 17592186044416) (qLs t0 (qLt (ieq i1 i1) (qLt (q68 i1 140737488355328) (qLs t1 (qLs t2 (qLu [.s (gS t2 0)]))))))))):=by kernel_rfl
theorem qtF:vG [.s e0,.s e1]=(let p0:List PV:=[.s e1];let t0:=jm ((.s e0)::p0);let t1:=wA [.i (jw .i64 (gI t0 0) (gI t0 1))];let t2:=q3u [.s (gS (qA [.s e0]) 0),.s (gS (qA p0) 0)];let t3:=zF [.s (gS t2 0),.b (not (beq (gB (qL [.s e0]) 0) (gB (qL p0) 0)))];let t4:TR:=(qLs (qA [.s e0]) (qLs (qA p0) (qLs t2 (qLs (qL [.s e0]) (qLs (qL p0) (qLs t3 (qLu [.s (gS t3 0)])))))));(qLs t0 (.br (gB t0 2) (.br (ile (qE .i64 (qD e0) (qD e1)) 18) (qLs t1 (qLu [.s (gS t1 0)])) t4) t4))):=by kernel_rfl
theorem qkW:yI [.s e0,.s e1,.s e2,.s e3,.i c4,.i c5]=(let r0:=q3a [.s e3,.s e1];qLs r0 (.br (not (gB r0 0)) (let r1:=ur [.s e3,.s e1,.b false];qLs r1 (qLu [.s e0,.s e1,.s e2,.s (gS r1 0),.i c4,.i (qE .u8 c5 1)])) (.leaf (1,[.s e0,.s e1,.s e2,.s e3,.i c4,.i c5])))):=by kernel_rfl
theorem qnv:q0T [.s e0,.s e1,.s e2,.s e3,.i c4]=(.br (ilt c4 (qD e0)) (qLt (q68 (qE .i64 c4 1) (qD e0)) (qLt (q68 c4 (qE .i64 c4 1)) (qLt (ile ((qD e3)+(qD (qcW e0 c4 (qE .i64 c4 1)))) 140737488355328) (let r0:=uD [.s (qfl e3 (qcW e0 c4 (qE .i64 c4 1)))];qLs r0 (let r1:=qf yI [.s e0,.s e1,.s e2,.s (gS r0 0),.i c4,.i 48];qLs r1 (qLt (ile ((qD (gS r1 2))+(qD (qo1 [[.i (gI r1 5)]]))) 140737488355328) (qLu [.s (gS r1 0),.s (gS r1 1),.s (qfl (gS r1 2) (qo1 [[.i (gI r1 5)]])),.s (gS r1 3),.i (qE .i64 (gI r1 4) 1)]))))))) (.leaf (1,[.s e2,.s e3]))):=by kernel_rfl
theorem qpE:q3q [.s e0,.s e1]=(let r0:=qf q0T [.s e0,.s e1,.s [],.s [48],.i 0];qLs r0 (let r1:=uD [.s (gS r0 0)];qLs r1 (qLu [.s (gS r1 0),.s (gS r0 1)]))):=by kernel_rfl
theorem qr2:jb [.s e0,.s e1]=(let p0:List PV:=[.s e1];let t0:=jm ((.s e0)::p0);let i0:Int:=(gI t0 1);let i1:Int:=(qcL (gI t0 0) i0);let i2:Int:=(qE .i64 i1 i0);let t1:=wA [.i (qdm .i64 (vN .i64 (gI t0 0) i2) i0)];let t2:=wA [.i (qdm .i64 (vN .i64 (gI t0 0) i1) i0)];let t3:TR:=(qLt (ine i0 0) (qLs t2 (qLs (wA [.i i1]) (qLu [.s (gS t2 0),.s (gS (wA [.i i1]) 0)]))));let t4:=q3q [.s (gS (qA [.s e0]) 0),.s (gS (qA p0) 0)];let t5:=qL [.s e0];let b0:Bool:=(not (beq (gB t5 0) (gB (qL p0) 0)));let t6:=zF [.s (gS t4 0),.b b0];let t7:=jg [.s (gS t6 0),.s [49]];let t8:=vG ((.s (gS t7 0))::p0);let t9:=jg [.s e0,.s (gS t8 0)];let t10:=vG ((.s (gS t6 0))::p0);let t11:=jg [.s e0,.s (gS t10 0)];let t12:TR:=(qLs t10 (qLs t11 (qLu [.s (gS t6 0),.s (gS t11 0)])));(qLs t0 (.br (gB t0 2) (qLt (ine i0 0) (.br (ine i1 0) (.br (not (beq (ilt i1 0) (ilt i0 0))) (qLt (ine i0 0) (qLs t1 (qLs (wA [.i i2]) (qLu [.s (gS t1 0),.s (gS (wA [.i i2]) 0)])))) t3) t3)) (qLs (qA [.s e0]) (qLs (qA p0) (qLs t4 (qLs t5 (qLs (qL p0) (qLs t6 (.br (not (seq (gS t4 1) [48])) (qLs t5 (qLs (qL p0) (.br b0 (qLs t7 (qLs t8 (qLs t9 (qLu [.s (gS t7 0),.s (gS t9 0)])))) t12))) t12)))))))))):=by kernel_rfl
theorem qnx:uM [.i c0,.i c1]=(.br (ilt 0 c1) (qLt (ine c1 0) (qLu [.i c1,.i (qcL c0 c1)])) (.leaf (1,[.i c0]))):=by kernel_rfl
theorem qox:q26 [.s e0,.s e1]=(.br (not (seq e1 [48])) (let r0:=jm [.s e0,.s e1];qLs r0 (.br (gB r0 2) (let r1:=qf uM [.i (gI r0 0),.i (gI r0 1)];qLs r1 (let r2:=wA [.i (gI r1 0)];qLs r2 (.leaf (2,[.s (gS r2 0)])))) (let r1:=jb [.s e0,.s e1];qLs r1 (qLu [.s e1,.s (gS r1 1)])))) (.leaf (1,[.s e0]))):=by kernel_rfl
theorem qsu:q0t [.s e0,.s e1]=(let r0:=qA [.s e0];qLs r0 (let r1:=zF [.s (gS r0 0),.b false];qLs r1 (let r2:=qA [.s e1];qLs r2 (let r3:=zF [.s (gS r2 0),.b false];qLs r3 (let r4:=qf q26 [.s (gS r1 0),.s (gS r3 0)];qLs r4 (.br (jIs r4 0) (qLu [.s (gS r4 0)]) (qLu [.s (gS r4 0)]))))))):=by kernel_rfl
theorem qtE:zg [.s e0]=(let r0:=ul [.s e0];qLs r0 (let r1:=q3J [.s (gS r0 0)];qLs r1 (.br (ieq (gI r1 0) 3) (qLu [.i 3]) (let r2:=q3J [.s (gS r0 1)];qLs r2 (.br (ieq (gI r2 0) 3) (qLu [.i 3]) (qLs r1 (.br (ine (gI r1 0) 0) (qLu [.i 11]) (qLs r2 (.br (ine (gI r2 0) 0) (qLu [.i 11]) (let r3:=q1Z [.s e0];qLs r3 (.br (ile 0 (gI r3 0)) (let r4:=q1I [.s (gS r0 1),.s [49]];qLs r4 (.br (ile (gI r4 0) 0) (qLu [.i 3]) (let r5:=q0t [.s (gS r0 0),.s (gS r0 1)];qLs r5 (.br (not (seq (gS r5 0) [49])) (qLu [.i 3]) (qLu [.i 0]))))) (qLu [.i 0])))))))))))):=by kernel_rfl
theorem qpz:wG [.s e0,.s e1]=(let r0:=ul [.s e0];qLs r0 (let r1:=ul [.s e1];qLs r1 (let r2:=vG [.s (gS r0 0),.s (gS r1 1)];qLs r2 (let r3:=vG [.s (gS r1 0),.s (gS r0 1)];qLs r3 (let r4:=vG [.s (gS r0 1),.s (gS r1 1)];qLs r4 (let r5:=vG [.s (gS r0 0),.s (gS r1 0)];qLs r5 (let r6:=vG [.s (gS r0 1),.s (gS r1 0)];qLs r6 (qLu [.r [[.s (gS r2 0)],[.s (gS r3 0)],[.s (gS r4 0)],[.s (gS r5 0)],[.s (gS r6 0)]]])))))))):=by kernel_rfl
theorem qsU:q43 [.s e0,.s e1]=(let r0:=wG [.s e0,.s e1];qLs r0 (qLt (inb 0 (qh (gR r0 0))) (qLt (inb 1 (qh (gR r0 0))) (let r1:=q1I [.s (cS (gR r0 0) 0 0),.s (cS (gR r0 0) 1 0)];qLs r1 (qLu [.i (gI r1 0)]))))):=by kernel_rfl
theorem qeE:kH [.r a0,.r a1,.i c2,.r a3]=(.br (ilt c2 (qh a1)) (qLt (inb c2 (qh a1)) (qLt (inb (cI a1 c2 0) (qh a0)) (qLt (ile ((qh a3)+(qh [[.i (cI a0 (cI a1 c2 0) 0),.i (cI a0 (cI a1 c2 0) 1),.i (cI a0 (cI a1 c2 0) 2)]])) 5864062014805) (qLu [.r a0,.r a1,.i (qE .i64 c2 1),.r (wL a3 [[.i (cI a0 (cI a1 c2 0) 0),.i (cI a0 (cI a1 c2 0) 1),.i (cI a0 (cI a1 c2 0) 2)]])])))) (.leaf (1,[.r a3]))):=by kernel_rfl
theorem qqv:q5d [.r a0,.r a1]=(let r0:=qf kH [.r a0,.r a1,.i 0,.r []];qLs r0 (qLu [.r (gR r0 0)])):=by kernel_rfl
theorem q4g:wg [.r a0,.r a1,.r a2,.i c3,.i c4,.r a5]=(.br (ilt c4 c3) (qLt (inb c4 (qh a2)) (.br (ilt c4 (qh a1)) (qLt (inb c4 (qh a1)) (qLt (ile ((qh a5)+(qh [[.i (cI a2 c4 0),.i (cI a2 c4 1),.i (q2W .i64 (cI a1 c4 0))]])) 5864062014805) (qLu [.r a0,.r a1,.r a2,.i c3,.i (qE .i64 c4 1),.r (wL a5 [[.i (cI a2 c4 0),.i (cI a2 c4 1),.i (q2W .i64 (cI a1 c4 0))]])]))) (qLt (ile ((qh a5)+(qh [[.i (cI a2 c4 0),.i (cI a2 c4 1),.i 0]])) 5864062014805) (qLu [.r a0,.r a1,.r a2,.i c3,.i (qE .i64 c4 1),.r (wL a5 [[.i (cI a2 c4 0),.i (cI a2 c4 1),.i 0]])])))) (.leaf (1,[.r a0,.r a5]))):=by kernel_rfl
theorem q3w:zV [.r a0,.s e1,.i c2,.s e3,.i c4,.s e5,.s e6,.r a7,.i c8,.i c9,.r a10,.i c11,.i c12,.r a13,.r a14]=(.br (ilt c12 c11) (qLt (inb c12 (qh a10)) (qLt (inb (cI a10 c12 0) (qh a0)) (qLt (ile ((qh a14)+(qh [[.i (cI a0 (cI a10 c12 0) 0),.i (cI a0 (cI a10 c12 0) 1)]])) 8796093022208) (qLu [.r a0,.s e1,.i c2,.s e3,.i c4,.s e5,.s e6,.r a7,.i c8,.i c9,.r a10,.i c11,.i (qE .i64 c12 1),.r a13,.r (wL a14 [[.i (cI a0 (cI a10 c12 0) 0),.i (cI a0 (cI a10 c12 0) 1)]])])))) (.leaf (1,[.r a0,.s e1,.i c2,.s e3,.i c4,.s e5,.s e6,.r a7,.i c8,.i c9,.r a13,.r a14]))):=by kernel_rfl
theorem q3r:zW [.r a0,.s e1,.i c2,.s e3,.i c4,.s e5,.s e6,.r a7,.i c8,.i c9,.r a10]=(.br (ilt c9 c8) (qLt (inb c9 (qh a7)) (let r0:=qf zV [.r a0,.s e1,.i c2,.s e3,.i c4,.s e5,.s e6,.r a7,.i c8,.i c9,.r (cR a7 c9 0),.i (qh (cR a7 c9 0)),.i 0,.r a10,.r []];qLs r0 (let r1:=qV [.r (gR r0 11)];qLs r1 (.br (ine (gI r1 4) 0) (.leaf (2,[.b false])) (let r2:=zg [.s (gS r1 2)];qLs r2 (.br (ine (gI r2 0) 0) (.leaf (2,[.b false])) (let r3:=q43 [.s (gS r1 2),.s (gS r0 5)];qLs r3 (.br (ilt 0 (gI r3 0)) (qLu [.r (gR r0 0),.s (gS r0 1),.i (gI r0 2),.s (gS r0 3),.i (gI r0 4),.s (gS r1 2),.s (gS r0 6),.r (gR r0 7),.i (gI r0 8),.i (qE .i64 (gI r0 9) 1),.r (gR r0 10)]) (qLu [.r (gR r0 0),.s (gS r0 1),.i (gI r0 2),.s (gS r0 3),.i (gI r0 4),.s (gS r0 5),.s (gS r0 6),.r (gR r0 7),.i (gI r0 8),.i (qE .i64 (gI r0 9) 1),.r (gR r0 10)]))))))))) (.leaf (1,[.r a0,.s e1,.i c2,.s e3,.i c4,.s e5,.s e6,.r a10]))):=by kernel_rfl
theorem q2Z:zX [.s e0,.i c1,.s e2,.i c3,.s e4,.s e5,.r a6,.i c7,.i c8,.r a9]=(.br (ilt c8 c7) (qLt (inb c8 (qh a6)) (let r0:=q5d [.r a9,.r (cR a6 c8 0)];qLs r0 (let r1:=ze [.r (gR r0 0)];qLs r1 (.br (ine (gI r1 5) 0) (.leaf (2,[.b false])) (let r2:=zg [.s (gS r1 3)];qLs r2 (.br (ine (gI r2 0) 0) (.leaf (2,[.b false])) (let r3:=q43 [.s (gS r1 3),.s e5];qLs r3 (.br (ilt 0 (gI r3 0)) (qLu [.s e0,.i c1,.s e2,.i c3,.s e4,.s (gS r1 3),.r a6,.i c7,.i (qE .i64 c8 1),.r a9]) (qLu [.s e0,.i c1,.s e2,.i c3,.s e4,.s e5,.r a6,.i c7,.i (qE .i64 c8 1),.r a9]))))))))) (.leaf (1,[.s e0,.i c1,.s e2,.i c3,.s e4,.s e5]))):=by kernel_rfl
theorem qeI:jo [.r a0,.r a1]=(let t0:TR:=(qLs (kI []) (qLu [.b (gB (kI []) 0)]));let t1:=qf wg [.r a0,.r a1,.r a0,.i (qh a0),.i 0,.r []];let l0:R:=(gR t1 0);let t2:=qV [.r l0];let t3:=ze [.r (gR t1 1)];let t4:=q46 [.i (qh l0),.i (qhy (qh l0) 3)];let t5:=qf zW [.r l0,.s (gS t2 2),.i (gI t2 4),.s (gS t3 3),.i (gI t3 5),.s [48],.s [48],.r (gR t4 0),.i (qh (gR t4 0)),.i 0,.r (gR t1 1)];let t6:=q46 [.i (qh (gR t5 0)),.i (qhy (qh (gR t5 0)) 4)];let t7:=qf zX [.s (gS t5 1),.i (gI t5 2),.s (gS t5 3),.i (gI t5 4),.s (gS t5 5),.s (gS t5 6),.r (gR t6 0),.i (qh (gR t6 0)),.i 0,.r (gR t5 7)];let t8:TR:=(qLu [.b false]);(qLs (kM [.r a0]) (.br (not (gB (kM [.r a0]) 0)) t0 (.br (ilt 6 (qh a0)) t0 (qLs t1 (qLs t2 (qLs t3 (qLs t4 (qLs t5 (.br (jIs t5 0) (qLs t6 (qLs t7 (.br (jIs t7 0) (.br (ieq (gI t7 1) 0) (.br (ieq (gI t7 3) 0) (.br (seq (gS t7 0) (gS t7 4)) (.br (seq (gS t7 2) (gS t7 5)) t0 t8) t8) t8) t8) (qLu [.b (gB t7 0)])))) (qLu [.b (gB t5 0)]))))))))))):=by kernel_rfl
theorem qou:q2b [.r a0,.i c1]=(let t0:=jB [.r a0];let t1:TR:=(qLu [.s (gS t0 0),.s (gS t0 1),.s (gS t0 2),.s (gS t0 3),.r (gR t0 4),.i (gI t0 6)]);(.br (ilt c1 (qh a0)) (qLu [.s [],.s [],.s [],.s [],.r [],.i 5]) (qLs t0 (.br (ieq (gI t0 6) 0) (.br (not (gB t0 5)) (qLu [.s (gS t0 0),.s (gS t0 1),.s (gS t0 2),.s (gS t0 3),.r (gR t0 4),.i 10]) t1) t1)))):=by kernel_rfl
theorem qoS:yY [.r a0]=(let r0:=yg [.r a0];qLs r0 (.br (ine (gI r0 0) 0) (qLu [.s [],.s [],.s [],.i (gI r0 0)]) (let r1:=vH [.r a0];qLs r1 (let r2:=q2b [.r (gR r1 0),.i 3];qLs r2 (.br (ine (gI r2 5) 0) (qLu [.s [],.s [],.s [],.i (gI r2 5)]) (let r3:=vd [.s (gS r2 0),.s (gS r2 1),.s (gS r2 2),.s (gS r2 3),.r (gR r2 4)];qLs r3 (qLu [.s (gS r3 0),.s (gS r3 1),.s (gS r2 3),.i 0]))))))):=by kernel_rfl
theorem jl:z7 [.r a0,.r a1,.i c2,.i c3]=(.br (ilt c3 c2) (qLt (inb c3 (qh a0)) (qLt (inb c3 (qh a1)) (.br (not (seq (cS a0 c3 0) (cS a1 c3 0))) (.leaf (2,[.b false])) (qLu [.r a0,.r a1,.i c2,.i (qE .i64 c3 1)])))) (.leaf (1,[]))):=by kernel_rfl
theorem q8i:zA [.r a0,.r a1]=(.br (ine (qh a0) (qh a1)) (qLu [.b false]) (let r0:=qf z7 [.r a0,.r a1,.i (qh a0),.i 0];qLs r0 (.br (jIs r0 0) (qLu [.b true]) (qLu [.b (gB r0 0)])))):=by kernel_rfl
theorem q9b:jv [.r a0,.r a1,.r a2,.i c3,.r a4,.i c5,.i c6]=(.br (ilt c6 c5) (qLt (inb c6 (qh a4)) (let r0:=zI [.s (cS a4 c6 0)];qLs r0 (.br (ine (gI r0 0) 0) (.leaf (2,[.b false,.i (gI r0 0)])) (qLu [.r a0,.r a1,.r a2,.i c3,.r a4,.i c5,.i (qE .i64 c6 1)])))) (.leaf (1,[.r a0,.r a1,.r a2,.i c3]))):=by kernel_rfl
theorem q81:vS [.r a0,.r a1,.r a2,.i c3,.r a4,.i c5,.i c6]=(let i0:Int:=(cI a4 c6 0);let t0:TR:=(.leaf (2,[.b false,.i 2]));let t1:TR:=(qLu [.r a0,.r a1,.r a2,.i c3,.r a4,.i c5,.i (qE .i64 c6 1)]);(.br (ilt c6 c5) (qLt (inb c6 (qh a4)) (.br (ilt i0 0) t0 (.br (ile (qh a0) i0) t0 (.br (ilt 0 c6) (qLt (inb (vN .i64 c6 1) (qh a2)) (.br (ile i0 (cI a2 (vN .i64 c6 1) 0)) (.leaf (2,[.b false,.i 9])) t1)) t1)))) (.leaf (1,[.r a0,.r a1,.r a2,.i c3])))):=by kernel_rfl
theorem qlu:ji [.r a0,.r a1,.r a2,.i c3]=(let t0:=qf jv [.r a0,.r a1,.r a2,.i c3,.r a1,.i (qh a1),.i 0];let l0:R:=(gR t0 2);let t1:=qf vS [.r (gR t0 0),.r (gR t0 1),.r l0,.i (gI t0 3),.r l0,.i (qh l0),.i 0];let t2:=zK [.r (gR t1 0),.r (gR t1 2)];let t3:TR:=(qLu [.b false,.i (gI t2 6)]);let i0:Int:=(vN .i64 (gI t1 3) 1);let s0:List UInt8:=(cS [[.s (gS t2 0),.s (gS t2 1),.s (gS t2 2),.s (gS t2 3),.l (gR t2 4)]] 0 3);let l1:R:=(quz [[.s (gS t2 0)],[.s (gS t2 1)],[.s (gS t2 2)]] 0 i0);let t4:=zA [.r (wL l1 [[.s s0]]),.r (gR t1 1)];(qLs t0 (.br (jIs t0 0) (.br (ieq (qh l0) 0) (qLu [.b false,.i 13]) (.br (ilt (gI t0 3) (qh l0)) (qLu [.b false,.i 5]) (qLs t1 (.br (jIs t1 0) (qLs t2 (.br (ine (gI t2 6) 0) t3 (.br (not (gB t2 5)) t3 (qLt (q68 i0 3) (qLt (q68 0 i0) (qLt (ieq i0 i0) (qLt (ilt 0 (qh [[.s s0]])) (qLt (ile ((qh l1)+(qh [[.s s0]])) 8796093022208) (qLs t4 (qLu [.b (gB t4 0),.i 0])))))))))) (qLu [.b (gB t1 0),.i (gI t1 1)]))))) (qLu [.b (gB t0 0),.i (gI t0 1)])))):=by kernel_rfl
theorem q7a:zx [.r a0,.s e1,.s e2,.s e3,.r a4]=(let r0:=yg [.r a0];qLs r0 (.br (ine (gI r0 0) 0) (qLu [.b false,.i (gI r0 0)]) (let r1:=vH [.r a0];qLs r1 (let r2:=ji [.r (gR r1 0),.r [[.s e1],[.s e2],[.s e3]],.r a4,.i 3];qLs r2 (qLu [.b (gB r2 0),.i (gI r2 1)]))))):=by kernel_rfl
theorem qzu:q2l [.i c0,.i c1]=(qLu [.i c0,.i c1]):=by kernel_rfl
theorem q4U:ww [.r a0,.r a1,.i c2,.i c3]=(.br (ilt c3 c2) (qLt (inb c3 (qh a0)) (qLt (inb c3 (qh a1)) (.br (ine (cI a0 c3 0) (cI a1 c3 0)) (.leaf (2,[.b false])) (qLu [.r a0,.r a1,.i c2,.i (qE .i64 c3 1)])))) (.leaf (1,[]))):=by kernel_rfl
theorem qgg:ve [.r a0,.r a1]=(.br (ine (qh a0) (qh a1)) (qLu [.b false]) (let r0:=qf ww [.r a0,.r a1,.i (qh a0),.i 0];qLs r0 (.br (jIs r0 0) (qLu [.b true]) (qLu [.b (gB r0 0)])))):=by kernel_rfl
theorem qtv  : vF []=(let t0:=q2l [.i 0,.i 0];let t1:=q2l [.i 4,.i 0];let t2:=q2l [.i 0,.i 2];let t3:=yY [.r [[.i (gI t0 0),.i (gI t0 1)],[.i (gI t1 0),.i (gI t1 1)],[.i (gI t2 0),.i (gI t2 1)]]];let t4:=q2l [.i 6,.i 0];let t5:=q2l [.i 3,.i 5];let t6:=qV [.r [[.i (gI t0 0),.i (gI t0 1)],[.i (gI t4 0),.i (gI t4 1)],[.i (gI t5 0),.i (gI t5 1)]]];let t7:=ze [.r [[.i 0,.i 0,.i 0],[.i 2,.i 0,.i 0],[.i 0,.i 2,.i 0],[.i 0,.i 0,.i 2]]];let t8:=q2l [.i 3,.i 1];let t9:=zx [.r [[.i (gI t0 0),.i (gI t0 1)],[.i (gI t4 0),.i (gI t4 1)],[.i (gI t8 0),.i (gI t8 1)]],.s [51],.s [48],.s [57],.r [[.i 0],[.i 1]]];let t10:=ve [.r (gR t6 3),.r [[.i 0],[.i 1],[.i 2]]];let t11:=ve [.r (gR t7 4),.r [[.i 1],[.i 2],[.i 3]]];let t12:TR:=(qLu [.b false]);(qLs t0 (qLs t1 (qLs t2 (qLs t3 (qLs t0 (qLs t4 (qLs t5 (qLs t6 (qLs t7 (qLs t0 (qLs t4 (qLs t8 (qLs t9 (.br (ieq (qE .i64 (qE .i64 (qE .i64 (gI t3 3) (gI t6 4)) (gI t7 5)) (gI t9 1)) 0) (.br (qnF (seq (gS t3 0) [50]) (qnF (seq (gS t3 1) [49]) true)) (.br (seq (gS t3 2) [53]) (.br (qnF (seq (gS t6 0) [51]) (qnF (seq (gS t6 1) [56,47,53]) true)) (.br (seq (gS t6 2) [50,56,57,47,50,53]) (qLs t10 (.br (gB t10 0) (.br (qnF (seq (gS t7 0) [50,47,51]) (qnF (seq (gS t7 1) [50,47,51]) (qnF (seq (gS t7 2) [50,47,51]) true))) (.br (seq (gS t7 3) [56,47,51]) (qLs t11 (.br (gB t11 0) (qLu [.b (gB t9 0)]) t12)) t12) t12) t12)) t12) t12) t12) t12) t12))))))))))))))):=by kernel_rfl
theorem qf6:kQ [.r a0,.i c1,.r a2]=(.br (ilt c1 (qh a0)) (qLt (inb c1 (qh a0)) (qLt (inb c1 (qh a0)) (qLt (ile ((qh a2)+(qh [[.i (cI a0 c1 0),.i (cI a0 c1 1),.i 0]])) 5864062014805) (qLu [.r a0,.i (qE .i64 c1 1),.r (wL a2 [[.i (cI a0 c1 0),.i (cI a0 c1 1),.i 0]])])))) (.leaf (1,[.r a2]))):=by kernel_rfl
theorem qs1:uA [.r a0]=(let r0:=qf kQ [.r a0,.i 0,.r []];qLs r0 (qLu [.r (gR r0 0)])):=by kernel_rfl
theorem qzm:jT [.i c0]=(.br (ile (-100000) c0) (qLu [.b (ile c0 100000)]) (qLu [.b false])):=by kernel_rfl
theorem qt8:q08 [.i c0,.i c1]=(qLs (jT [.i c0]) (.br (gB (jT [.i c0]) 0) (qLs (jT [.i c1]) (qLu [.b (gB (jT [.i c1]) 0)])) (qLu [.b false]))):=by kernel_rfl
theorem qgX:uZ [.r a0,.i c1]=(.br (ilt c1 (qh a0)) (qLt (inb c1 (qh a0)) (let r0:=q08 [.i (cI a0 c1 0),.i (cI a0 c1 1)];qLs r0 (.br (not (gB r0 0)) (.leaf (2,[.i 2])) (qLu [.r a0,.i (qE .i64 c1 1)])))) (.leaf (1,[]))):=by kernel_rfl
theorem qsT:q3V [.r a0]=(.br (ilt 64 (qh a0)) (qLu [.i 5]) (let r0:=qf uZ [.r a0,.i 0];qLs r0 (.br (jIs r0 0) (qLu [.i 0]) (qLu [.i (gI r0 0)])))):=by kernel_rfl
theorem qsW:ye [.i c0]=(qLs (wA [.i c0]) (qLu [.s (gS (wA [.i c0]) 0)])):=by kernel_rfl
theorem qs6:yj [.s e0,.s e1]=(let r0:=q0t [.s e0,.s e1];qLs r0 (let r1:=qL [.s e1];qLs r1 (.br (gB r1 0) (let r2:=wH [.s (gS r0 0)];qLs r2 (let r3:=jb [.s e0,.s (gS r2 0)];qLs r3 (let r4:=jb [.s e1,.s (gS r2 0)];qLs r4 (.br (seq (gS r4 0) [49]) (qLu [.s (gS r3 0)]) (qLt (ile ((qD (gS r3 0))+(qD [47])) 140737488355328) (qLt (ile ((qD (qfl (gS r3 0) [47]))+(qD (gS r4 0))) 140737488355328) (qLu [.s (qfl (qfl (gS r3 0) [47]) (gS r4 0))]))))))) (let r2:=jb [.s e0,.s (gS r0 0)];qLs r2 (let r3:=jb [.s e1,.s (gS r0 0)];qLs r3 (.br (seq (gS r3 0) [49]) (qLu [.s (gS r2 0)]) (qLt (ile ((qD (gS r2 0))+(qD [47])) 140737488355328) (qLt (ile ((qD (qfl (gS r2 0) [47]))+(qD (gS r3 0))) 140737488355328) (qLu [.s (qfl (qfl (gS r2 0) [47]) (gS r3 0))]))))))))):=by kernel_rfl
theorem qsI:q1T [.s e0,.s e1]=(let r0:=wG [.s e0,.s e1];qLs r0 (qLt (inb 3 (qh (gR r0 0))) (qLt (inb 2 (qh (gR r0 0))) (let r1:=yj [.s (cS (gR r0 0) 3 0),.s (cS (gR r0 0) 2 0)];qLs r1 (qLu [.s (gS r1 0)]))))):=by kernel_rfl
theorem qtb:q1Y [.s e0,.s e1]=(let r0:=wG [.s e0,.s e1];qLs r0 (qLt (inb 0 (qh (gR r0 0))) (qLt (inb 1 (qh (gR r0 0))) (let r1:=jg [.s (cS (gR r0 0) 0 0),.s (cS (gR r0 0) 1 0)];qLs r1 (qLt (inb 2 (qh (gR r0 0))) (let r2:=yj [.s (gS r1 0),.s (cS (gR r0 0) 2 0)];qLs r2 (qLu [.s (gS r2 0)]))))))):=by kernel_rfl
theorem qve:q3t [.s e0,.s e1]=(let r0:=wG [.s e0,.s e1];qLs r0 (qLt (inb 0 (qh (gR r0 0))) (qLt (inb 1 (qh (gR r0 0))) (let r1:=q3e [.s (cS (gR r0 0) 0 0),.s (cS (gR r0 0) 1 0)];qLs r1 (qLt (inb 2 (qh (gR r0 0))) (let r2:=yj [.s (gS r1 0),.s (cS (gR r0 0) 2 0)];qLs r2 (qLu [.s (gS r2 0)]))))))):=by kernel_rfl
theorem qhF:q2r [.s e0,.i c1,.i c2,.i c3,.i c4,.s e5,.s e6,.s e7]=(let t0:=ye [.i (qyj [c1,c2,c3] c4)];let p0:List PV:=[.s (gS t0 0)];let t1:=q1Y ((.s e7)::p0);let t2:=q1T [.s (gS t1 0),.s (gS t1 0)];let t3:=q3t [.s e0,.s (gS t2 0)];let p1:List PV:=[.i c1,.i c2,.i c3,.i (qE .i64 c4 1),.s e5,.s e6,.s e7];let t4:=q1Y ((.s e6)::p0);let t5:=q1T [.s (gS t4 0),.s (gS t4 0)];let t6:=q3t [.s e0,.s (gS t5 0)];let t7:=q1Y ((.s e5)::p0);let t8:=q1T [.s (gS t7 0),.s (gS t7 0)];let t9:=q3t [.s e0,.s (gS t8 0)];(.br (ilt c4 3) (qLt (inb c4 3) (.br (ieq c4 2) (qLs t0 (qLs t1 (qLs t2 (qLs t3 (qLu ((.s (gS t3 0))::p1)))))) (.br (ieq c4 1) (qLs t0 (qLs t4 (qLs t5 (qLs t6 (qLu ((.s (gS t6 0))::p1)))))) (qLt (ieq c4 0) (qLs t0 (qLs t7 (qLs t8 (qLs t9 (qLu ((.s (gS t9 0))::p1)))))))))) (.leaf (1,[.s e0])))):=by kernel_rfl
theorem qv3:q1q [.s e0,.s e1,.s e2,.i c3,.i c4,.i c5]=(let r0:=qf q2r [.s [48],.i c3,.i c4,.i c5,.i 0,.s e0,.s e1,.s e2];qLs r0 (qLu [.s (gS r0 0)])):=by kernel_rfl
theorem qsM:uq [.r a0]=(.br (ilt 0 (qh a0)) (.br (ile (qh a0) 8) (qLs (q3V [.r a0]) (qLu [.b (ieq (gI (q3V [.r a0]) 0) 0)])) (qLu [.b false])) (qLu [.b false])):=by kernel_rfl
theorem qtt:qaA [.i c0,.i c1,.i c2,.i c3]=(qLu [.i (qE .i64 (jw .i64 c0 c2) (jw .i64 c1 c3))]):=by kernel_rfl
theorem qtp:qaP [.i c0,.i c1,.i c2,.i c3]=(qLu [.i (vN .i64 c0 c2),.i (vN .i64 c1 c3)]):=by kernel_rfl
theorem qxG:qcu [.i c0,.i c1,.i c2,.i c3]=(let r0:=qaP [.i c0,.i c1,.i c2,.i c3];qLs r0 (qLs r0 (let r1:=qaA [.i (gI r0 0),.i (gI r0 1),.i (gI r0 0),.i (gI r0 1)];qLs r1 (qLu [.i (gI r1 0)])))):=by kernel_rfl
theorem q6g:wP [.s e0,.i c1,.r a2,.i c3,.i c4,.i c5,.i c6,.s e7,.s e8]=(.br (ilt c4 c3) (qLt (inb c4 (qh a2)) (let r0:=qcu [.i c5,.i c6,.i (cI a2 c4 0),.i (cI a2 c4 1)];qLs r0 (qLu [.s e0,.i (qos c1 (gI r0 0)),.r a2,.i c3,.i (qE .i64 c4 1),.i c5,.i c6,.s e7,.s e8]))) (.leaf (1,[.s e0,.i c1,.i c5,.i c6,.s e7,.s e8]))):=by kernel_rfl
theorem qhJ:u9 [.r a0,.i c1,.i c2]=(let t0:TR:=(qLs (vF []) (qLu [.b (gB (vF []) 0)]));let t1:=q08 [.i c1,.i c2];let t2:=qV [.r a0];let t3:TR:=(qLu [.b false]);let t4:=qf wP [.s (gS t2 2),.i 0,.r a0,.i (qh a0),.i 0,.i c1,.i c2,.s (gS t2 0),.s (gS t2 1)];let t5:=ye [.i (gI t4 1)];let t6:=zd [.s (gS t5 0),.s (gS t4 0)];let t7:=ye [.i (gI t4 2)];let t8:=ye [.i (gI t4 3)];(qLs (uq [.r a0]) (.br (not (gB (uq [.r a0]) 0)) t0 (qLs t1 (.br (not (gB t1 0)) t0 (qLs t2 (.br (ine (gI t2 4) 0) t3 (qLs t4 (qLs t5 (qLs t6 (qLs t7 (qLs t8 (.br (ieq (gI t6 1) 0) (.br (ilt 0 (gI t6 0)) t0 (.br (ieq (gI t6 0) 0) (.br (qnF (seq (gS t4 4) (gS t7 0)) (qnF (seq (gS t4 5) (gS t8 0)) true)) t0 t3) t3)) t3))))))))))))):=by kernel_rfl
theorem qm8:wT [.i c0,.i c1,.i c2]=(qLs (jT [.i c0]) (.br (gB (jT [.i c0]) 0) (qLs (jT [.i c1]) (.br (gB (jT [.i c1]) 0) (qLs (jT [.i c2]) (qLu [.b (gB (jT [.i c2]) 0)])) (qLu [.b false]))) (qLu [.b false]))):=by kernel_rfl
theorem q9d:wZ [.r a0,.i c1]=(.br (ilt c1 (qh a0)) (qLt (inb c1 (qh a0)) (let r0:=wT [.i (cI a0 c1 0),.i (cI a0 c1 1),.i (cI a0 c1 2)];qLs r0 (.br (not (gB r0 0)) (.leaf (2,[.i 2])) (qLu [.r a0,.i (qE .i64 c1 1)])))) (.leaf (1,[]))):=by kernel_rfl
theorem ql8:yQ [.r a0]=(.br (ilt 64 (qh a0)) (qLu [.i 5]) (let r0:=qf wZ [.r a0,.i 0];qLs r0 (.br (jIs r0 0) (qLu [.i 0]) (qLu [.i (gI r0 0)])))):=by kernel_rfl
theorem vA:zD [.r a0,.i c1,.i c2,.i c3]=(.br (ilt c3 c2) (qLt (inb c3 (qh a0)) (.br (ieq c1 (cI a0 c3 0)) (.leaf (2,[.i c3])) (qLu [.r a0,.i c1,.i c2,.i (qE .i64 c3 1)]))) (.leaf (1,[]))):=by kernel_rfl
theorem q7m:vh [.r a0,.i c1]=(let r0:=qf zD [.r a0,.i c1,.i (qh a0),.i 0];qLs r0 (.br (jIs r0 0) (qLu [.i (-1)]) (qLu [.i (gI r0 0)]))):=by kernel_rfl
theorem q4h:zm [.r a0,.i c1]=(let r0:=vh [.r a0,.i c1];qLs r0 (qLu [.b (ile 0 (gI r0 0))])):=by kernel_rfl
theorem q6m:wN [.r a0,.s e1,.r a2,.r a3,.i c4,.i c5,.s e6,.s e7]=(let t0:=q1q [.s e6,.s e7,.s [48],.i (cI a3 c5 0),.i (cI a3 c5 1),.i (cI a3 c5 2)];let t1:=zd [.s (gS t0 0),.s e1];let t2:TR:=(.leaf (2,[.b false]));let t3:=zm [.r a2,.i c5];let t4:TR:=(qLu [.r a0,.s e1,.r a2,.r a3,.i c4,.i (qE .i64 c5 1),.s e6,.s e7]);(.br (ilt c5 c4) (qLt (inb c5 (qh a3)) (qLs t0 (qLs t1 (.br (ine (gI t1 1) 0) t2 (.br (ilt 0 (gI t1 0)) t2 (.br (ilt (gI t1 0) 0) (qLs t3 (.br (gB t3 0) t2 t4)) t4)))))) (.leaf (1,[.r a0,.s e1,.r a2,.s e6,.s e7])))):=by kernel_rfl
theorem qhM:u5 [.r a0]=(let p0:List PV:=[.r a0];let t0:TR:=(qLs (vF []) (qLu [.b (gB (vF []) 0)]));let t1:=qV p0;let t2:TR:=(qLu [.b false]);let t3:=zg [.s (gS t1 0)];let p1:List PV:=[.s (gS t1 1)];let t4:=qf wN ((.r a0)::(.s (gS t1 2))::(.r (gR t1 3))::(.r (gR (uA p0) 0))::(.i (qh (gR (uA p0) 0)))::(.i 0)::(.s (gS t1 0))::p1);let t5:=zx [.r (gR t4 0),.s (gS t4 3),.s (gS t4 4),.s (gS t4 1),.r (gR t4 2)];let t6:=uA [.r (gR t4 0)];let t7:=ze [.r (gR t6 0)];(qLs (uq p0) (.br (not (gB (uq p0) 0)) t0 (qLs t1 (.br (ine (gI t1 4) 0) t2 (.br (ieq (qh (gR t1 3)) 0) t2 (qLs t3 (.br (ine (gI t3 0) 0) t2 (qLs (zg p1) (.br (ine (gI (zg p1) 0) 0) t2 (qLs (uA p0) (qLs t4 (.br (jIs t4 0) (qLs t5 (qLs t6 (qLs t7 (.br (ieq (gI t5 1) 0) (.br (ieq (gI t7 5) 0) (.br (gB t5 0) (.br (qnF (seq (gS t7 0) (gS t4 3)) (qnF (seq (gS t7 1) (gS t4 4)) (qnF (seq (gS t7 2) [48]) true))) (.br (seq (gS t7 3) (gS t4 1)) t0 t2) t2) t2) t2) t2)))) (qLu [.b (gB t4 0)])))))))))))))):=by kernel_rfl
theorem q6u:z8 [.r a0]=(qLt (ilt 0 (qh a0)) (qLt (ile ((qh [])+(qh a0)) 5864062014805) (qLu [.r (wL [] a0)]))):=by kernel_rfl
theorem qgs:zN [.s e0]=(qLs (zg [.s e0]) (qLu [.b (ine (gI (zg [.s e0]) 0) 0)])):=by kernel_rfl
theorem zk:ql [.r a0,.i c1,.i c2,.r a3,.r a4]=(.br (ilt c2 c1) (qLt (inb c2 (qh a0)) (let r0:=zN [.s (cS a0 c2 0)];qLs r0 (.br (gB r0 0) (.leaf (2,[.i c2,.r a3,.r a4])) (qLu [.r a0,.i c1,.i (qE .i64 c2 1),.r a3,.r a4])))) (.leaf (1,[.r a3,.r a4]))):=by kernel_rfl
theorem vJ:qq [.r a0]=(let r0:=qf ql [.r a0,.i (qh a0),.i 0,.r a0,.r a0];qLs r0 (.br (jIs r0 0) (qLu [.b false]) (qLu [.b (ile 0 (gI r0 0))]))):=by kernel_rfl
theorem qhE:u7 [.r a0,.i c1,.i c2,.i c3]=(let t0:TR:=(qLs (vF []) (qLu [.b (gB (vF []) 0)]));let p0:List PV:=[.r a0];let p1:List PV:=[.i c1,.i c2,.i c3];let t1:=ze p0;let t2:=ze [.r (wL (gR (z8 p0) 0) [[.i c1,.i c2,.i c3]])];let t3:TR:=(qLu [.b false]);let p2:List PV:=[.s (gS t1 3)];let t4:=qq [.r (quz [[.s (gS t1 0)],[.s (gS t1 1)],[.s (gS t1 2)]] 0 3)];let s0:List UInt8:=(cS [[.s (gS t1 0),.s (gS t1 1),.s (gS t1 2)]] 0 2);let s1:List UInt8:=(cS [[.s (gS t1 0),.s (gS t1 1),.s (gS t1 2)]] 0 1);let s2:List UInt8:=(cS [[.s (gS t1 0),.s (gS t1 1),.s (gS t1 2)]] 0 0);let t5:=q1q ((.s s2)::(.s s1)::(.s s0)::p1);let t6:=zd ((.s (gS t5 0))::p2);let t7:=zd [.s (gS t1 3),.s (gS t2 3)];let t8:=zm [.r (gR t2 4),.i (qh a0)];(.br (ieq (qh a0) 0) t0 (.br (ilt 5 (qh a0)) t0 (qLs (yQ p0) (.br (ine (gI (yQ p0) 0) 0) t0 (qLs (wT p1) (.br (not (gB (wT p1) 0)) t0 (qLs t1 (qLs (z8 p0) (qLt (ile ((qh (gR (z8 p0) 0))+(qh [[.i c1,.i c2,.i c3]])) 5864062014805) (qLs t2 (.br (ine (gI t1 5) 0) t3 (.br (ine (gI t2 5) 0) t3 (qLs (zg p2) (.br (ine (gI (zg p2) 0) 0) t3 (qLt (q68 3 3) (qLt (q68 0 3) (qLs t4 (.br (gB t4 0) t3 (qLs t5 (qLs t6 (.br (ine (gI t6 1) 0) t3 (.br (ile (gI t6 0) 0) (.br (qnF (seq s2 (gS t2 0)) (qnF (seq s1 (gS t2 1)) (qnF (seq s0 (gS t2 2)) true))) (.br (seq (gS t1 3) (gS t2 3)) t0 t3) t3) (qLs t7 (.br (ieq (gI t7 1) 0) (.br (ilt (gI t7 0) 0) (qLs t8 (.br (gB t8 0) t0 t3)) t3) t3))))))))))))))))))))))))):=by kernel_rfl
end Go.Eng

namespace Go.Eng
variable {n:Nat}
theorem qJe {α:Type}(b:Bool)(t e:Tree α):(Tree.br b t e).run=if b=true then t.run else e.run:=by cases b<;>rfl
theorem qGg {α:Type}(a:α):(Tree.leaf a).run=some a:=rfl
theorem qGA {α:Type}:(Tree.fail:Tree α).run=none:=rfl
theorem zp {x y:Int}(h:-9223372036854775808<=x+y/\x+y<=9223372036854775807):qE .i64 x y=x+y:=by unfold qE IntKind.wrap;simp[IntKind.signed,IntKind.bits];omega
theorem wo {x y:Int}(h:-9223372036854775808<=x-y/\x-y<=9223372036854775807):vN .i64 x y=x-y:=by unfold vN IntKind.wrap;simp[IntKind.signed,IntKind.bits];omega
theorem q7n {x y:Int}(h:-9223372036854775808<=x*y/\x*y<=9223372036854775807):jw .i64 x y=x*y:=by unfold jw IntKind.wrap;simp[IntKind.signed,IntKind.bits];omega
theorem qCM (x y:Int):(ieq x y=true)=(x=y):=by simp[ieq]
theorem qHM (x y:Int):(ine x y=true)=(x≠y):=by simp[ine]
theorem qIO (x y:Int):(ilt x y=true)=(x<y):=by simp[ilt]
theorem qCw (x y:Int):(ile x y=true)=(x<=y):=by simp[ile]
theorem qHP (x y:Bool):(Go.Eng.beq x y=true)=(x=y):=by simp[Go.Eng.beq]
theorem qKE {a b A B:Int}(h1:-A<=a)(h2:a<=A)(h3:-B<=b)(h4:b<=B):-(A*B)<=a*b/\a*b<=A*B:=by have e1:=qNj (show 0<=A-a by omega) (show 0<=B-b by omega);have e2:=qNj (show 0<=A+a by omega) (show 0<=B+b by omega);have e3:=qNj (show 0<=A-a by omega) (show 0<=B+b by omega);have e4:=qNj (show 0<=A+a by omega) (show 0<=B-b by omega);simp only[Int.sub_mul,Int.mul_sub,Int.add_mul,Int.mul_add] at e1 e2 e3 e4;omega
theorem qyw {x:Int}(h:-9223372036854775807<=x/\x<=9223372036854775807):vN .i64 0 x=-x:=by rw[wo (by omega)];omega
theorem qqn {x:Int}(h:-9223372036854775808<=x/\x<=9223372036854775807):q2W .i64 x=x:=by unfold q2W IntKind.wrap;simp[IntKind.signed,IntKind.bits];omega
theorem qFP (b:Bool):((!b)=true)=¬(b=true):=by cases b<;>simp
theorem qFt (x y:Bool):(qnF x y=true)=(x=true/\y=true):=by simp[qnF]
theorem qJW (i n:Int):(inb i n=true)=(0<=i/\i<n):=by simp[inb]
theorem qHL (i n:Int):(q68 i n=true)=(0<=i/\i<=n):=by simp[q68]
theorem STD:(∀(α:Type) (b:Bool) (t e:Tree α),(Tree.br b t e).run=if b=true then t.run else e.run)/\(∀(α:Type) (a:α),(Tree.leaf a).run=some a)/\(∀(α:Type),(Tree.fail:Tree α).run=none) /\(∀R:TR,okR R=R.run.isSome)/\(∀(α:Type) (a:α),(some a).isSome=true)/\(∀(R:TR) (i:Nat),gI R i=(pR R i).toI)/\(∀(R:TR) (i:Nat),gB R i=(pR R i).toB)/\(∀(R:TR) (i:Nat),gS R i=(pR R i).toS)/\(∀(R:TR) (i:Nat),gR R i=(pR R i).toR) /\(∀(R:TR) (i:Nat),pR R i=R.run.elim (.i 0) fun r=>r.2.getD i (.i 0))/\(∀(α β:Type) (b:β) (f:α->β) (a:α),(some a).elim b f=f a) /\(∀(a:PV) (l:List PV) (d:PV),(a::l).getD 0 d=a)/\(∀(a:PV) (l:List PV) (d:PV) (n:Nat),(a::l).getD (n+1) d=l.getD n d) /\(∀n,(PV.i n).toI=n)/\(∀b,(PV.b b).toB=b)/\(∀s,(PV.s s).toS=s)/\(∀l,(PV.r l).toR=l) /\(∀(α:Type) (h:Decidable True) (a b:α),@ite α True h a b=a)/\(∀(α:Type) (h:Decidable False) (a b:α),@ite α False h a b=b)/\((false=true)=False)/\((true=false)=False)/\((true=true)=True) /\(∀x y,(ieq x y=true)=(x=y))/\(∀x y,(ine x y=true)=(x≠y))/\(∀x y,(ilt x y=true)=(x<y))/\(∀x y,(ile x y=true)=(x<=y))/\(∀x y,(Go.Eng.beq x y=true)=(x=y)) /\(∀x y,(qnF x y=true)=(x=true/\y=true))/\(∀b:Bool,((!b)=true)=¬(b=true))/\(∀i n,(inb i n=true)=(0<=i/\i<n))/\(∀i n,(q68 i n=true)=(0<=i/\i<=n)) /\(∀(p:Prop) (_:Decidable p),(decide p=true)=p)/\(∀(α:Type) (a b:α),(a≠b)=¬(a=b))/\(¬True)=False/\(¬False)=True:=
 ⟨fun _=>qJe,fun _=>qGg,fun _=>qGA,fun _=>rfl,fun _ _=>rfl,fun _ _=>rfl,fun _ _=>rfl,fun _ _=>rfl,fun _ _=>rfl,fun R i=>by unfold pR;cases R.run<;>rfl,fun _ _ _ _ _=>rfl,
  fun _ _ _=>rfl,fun _ _ _ _=>rfl,fun _=>rfl,fun _=>rfl,fun _=>rfl,fun _=>rfl,fun _ _ _ _=>by simp,fun _ _ _ _=>by simp,by simp,by simp,by simp,qCM,qHM,qIO,qCw,qHP,
  qFt,qFP,qJW,qHL,fun _ _=>by simp,fun _ _ _=>rfl,by simp,by simp⟩
theorem zU {R:TR}{j:Nat}{ps:List PV}(h:R.run=some (j,ps))(i:Nat):(jIs R i=true)=(j=i):=by simp[jIs,jR,h]
theorem run_bind {α β:Type}(t:Tree α)(f:α->Tree β):(t.bind f).run=t.run.bind fun a=>(f a).run:=by
 induction t with
 | leaf a=>rfl
 | br b t e iht ihe=>cases b<;>simp[Tree.bind,Tree.run,iht,ihe]
 | fail=>rfl
theorem qvS {S:List PV->TR}{ps qs:List PV}(h:(S ps).run=some (0,qs)):(qmc S (n+1) ps).run=(qmc S n qs).run:=by simp[qmc,run_bind,h]
theorem qns {S:List PV->TR}{n j:Nat}{ps qs:List PV}(h:(S ps).run=some (j+1,qs)):(qmc S (n+1) ps).run=some (j,qs):=by simp[qmc,run_bind,h,Tree.run]
def qfo{α:Type}(f:Nat->Option α):Nat->Nat->Option α
 | _,0=>none
 | i,k+1=>match f i with
  | some a=>some a
  | none=>qfo f (i+1) k
theorem qtV{S:List PV->TR}(st:Nat->List PV)(f:Nat->Option (Nat×List PV))(fin:Nat×List PV)(n:Nat)
  (h1:∀i,i<n->f i=none->(S (st i)).run=some (0,st (i+1))) (h2:∀i r,i<n->f i=some r->(S (st i)).run=some (r.1+1,r.2))
  (h3:(S (st n)).run=some (fin.1+1,fin.2)):∀(k i m:Nat),i+k=n->k<m->(qmc S m (st i)).run=some ((qfo f i k).getD fin)
 | 0,i,m,hi,hm=>by
  obtain⟨m,rfl⟩:∃m',m=m'+1:=⟨m-1,by omega⟩;have:i=n:=by omega
  subst this;rw[qns h3];rfl
 | k+1,i,m,hi,hm=>by
  obtain⟨m,rfl⟩:∃m',m=m'+1:=⟨m-1,by omega⟩;cases hf:f i with
  | none=>
   rw[qvS (h1 i (by omega) hf),qtV st f fin n h1 h2 h3 k (i+1) m (by omega) (by omega)];simp[qfo,hf]
  | some r=>
   rw[qns (h2 i r (by omega) hf)];simp[qfo,hf]
theorem q3o {S:List PV->TR}(st:Nat->List PV)(f:Nat->Option (Nat×List PV))(fin:Nat×List PV)(n:Nat)(hn:n<9223372036854775808)(h1:∀i,i<n->f i=none->(S (st i)).run=some (0,st (i+1))) (h2:∀i r,i<n->f i=some r->(S (st i)).run=some (r.1+1,r.2))(h3:(S (st n)).run=some (fin.1+1,fin.2)):(qf S (st 0)).run=some ((qfo f 0 n).getD fin):=qtV st f fin n h1 h2 h3 n 0 qp1 (by omega) (Nat.lt_trans hn (by unfold qp1;decide))
theorem qW {S:List PV->TR}(st:Nat->List PV)(fin:Nat×List PV)(n:Nat)(hn:n<9223372036854775808)(h1:∀i,i<n->(S (st i)).run=some (0,st (i+1))) (h3:(S (st n)).run=some (fin.1+1,fin.2)):(qf S (st 0)).run=some fin:=by
 have h:=q3o st (fun _=>none) fin n hn (fun i hi _=>h1 i hi) (fun i r _ h=>by cases h) h3;have e:∀k i,qfo (fun _=>(none:Option (Nat×List PV))) i k=none:=by
  intro k;induction k with
  | zero=>intro i;rfl
  | succ k ih=>intro i;simp[qfo,ih]
 rw[e] at h;exact h
theorem qfh{α:Type}{f:Nat->Option α}:∀{k i:Nat},qfo f i k=none->∀j,i<=j->j<i+k->f j=none
 | 0,i,_,j,h1,h2=>by omega
 | k+1,i,h,j,h1,h2=>by
  simp only[qfo] at h;cases hf:f i with
  | some a=>rw[hf] at h;cases h
  | none=>
   rw[hf] at h;rcases qNa h1 with rfl|h1
   ·exact hf
   ·exact qfh h j h1 (by omega)
theorem quf{α:Type}{f g:Nat->Option α}:∀{k i:Nat},(∀j,i<=j->j<i+k->f j=g j)->qfo f i k=qfo g i k
 | 0,i,_=>rfl
 | k+1,i,h=>by
  simp only[qfo];rw[h i (by omega) (by omega),quf (fun j h1 h2=>h j (by omega) (by omega))]
theorem qwh{α β:Type}(g:α->β){f:Nat->Option α}:∀{k i:Nat},qfo (fun j=>(f j).map g) i k=(qfo f i k).map g
 | 0,i=>rfl
 | k+1,i=>by
  simp only[qfo];cases f i with
  | some a=>rfl
  | none=>exact qwh g
theorem kq {i n:Nat}(h:i<n)(hn:n<9223372036854775808):qE .i64 (i:Int) 1=((i+1:Nat):Int):=by rw[zp (by omega)];omega
theorem qFc {α:Type}(n:Nat):∀i,qfo (fun _=>(none:Option α)) i n=none:=by
 induction n with
 | zero=>intro i;rfl
 | succ n ih=>intro i;simp[qfo,ih]
def pick(p:Nat->Bool):Nat->R
 | 0=>[]
 | n+1=>if p n then wL (pick p n) [[.i (n:Int)]] else pick p n
def qkV(f:Nat->Int)(i:Nat):Option Int:=if f i=0 then none else some (f i)
theorem qDc {f:Nat->Int}(h:qfo (qkV f) 0 n=none)(i:Nat)(hi:i<n):f i=0:=by
 have:=qfh h i (by omega) (by omega);unfold qkV at this;split at this
 ·assumption
 ·cases this
theorem qqf{f:Nat->Int}:∀{k i:Nat} {e:Int},qfo (qkV f) i k=some e->e≠0
 | 0,i,e,h=>by cases h
 | k+1,i,e,h=>by
  simp only[qfo] at h;unfold qkV at h;by_cases h0:f i=0
  ·rw[if_pos h0] at h;exact qqf h
  ·rw[if_neg h0] at h;simp at h;omega
def q1s(e:Nat->Int)(n:Nat):Int:=(qfo (qkV e) 0 n).getD 0
theorem qlN {e:Nat->Int}(h:q1s e n=0)(i:Nat)(hi:i<n):e i=0:=by
 unfold q1s at h;cases hs:qfo (qkV e) 0 n with
 | none=>exact qDc hs i hi
 | some x=>rw[hs] at h;exact absurd h (qqf hs)
theorem qhO {e:Nat->Int}(h:∀i,i<n->e i=0):q1s e n=0:=by unfold q1s;rw[quf (g:=fun _=>none) (fun j _ hj=>by unfold qkV;rw[if_pos (h j (by omega))]),qFc];rfl
theorem qqh {S:List PV->TR}(st:Nat->List PV)(e:Nat->Int)(caps fin:List PV)(n:Nat)(hn:n<9223372036854775808)(h:∀i,i<n->(S (st i)).run=if e i=0 then some (0,st (i+1)) else some (2,.i (e i)::caps)) (h3:(S (st n)).run=some (1,fin)) :(qf S (st 0)).run=some (if q1s e n=0 then (0,fin) else (1,.i (q1s e n)::caps)):=by
 have key:=q3o st (fun i=>(qkV e i).map fun x=>(1,PV.i x::caps)) (0,fin) n hn (fun i hi hf=>by
  rw[h i hi];unfold qkV at hf;split at hf
  ·rename_i h0;rw[if_pos h0]
  ·simp at hf) (fun i r hi hf=>by
  rw[h i hi];unfold qkV at hf;split at hf
  ·simp at hf
  ·rename_i h0;simp at hf;rw[if_neg h0,<-hf]) h3
 rw[key,qwh];unfold q1s;cases hs:qfo (qkV e) 0 n with
 | none=>simp
 | some x=>simp[qqf hs]
theorem qwI {l:R}{i:Nat}(h:i<l.length):(i:Int)<qh l:=by unfold qh;omega
theorem qra (l:R):¬((l.length:Int)<qh l):=by unfold qh;omega
theorem qcT (i:Nat):(0:Int)<=(i:Int):=by omega
end Go.Eng

namespace Go.Eng
variable {n:Nat}
def dch(d:Nat):UInt8:=UInt8.ofNat (48+d)
def dv(c:UInt8):Nat:=c.toNat-48
def q6p(s:qLv):Prop:=∀c,c∈s->48<=c.toNat/\c.toNat<=57
def val(s:qLv):Nat:=s.foldl (fun a c=>10*a+dv c) 0
def tNf:Nat->Nat->List UInt8
 | 0,_=>[]
 | f+1,n=>if n<10 then [dch n] else tNf f (n/10)++[dch (n%10)]
def tN(n:Nat):List UInt8:=tNf (n+1) n
def tI(n:Int):List UInt8:=if n<0 then 45::tN n.natAbs else tN n.natAbs
theorem q39 {d:Nat}(h:d<10):(dch d).toNat=48+d:=by unfold dch;rw[UInt8.toNat_ofNat'];omega
theorem qpj {d:Nat}(h:d<10):dv (dch d)=d:=by unfold dv;rw[q39 h];omega
theorem qHB {c:UInt8}(h1:48<=c.toNat)(h2:c.toNat<=57):dch (dv c)=c:=by apply qNk.1;rw[q39 (by unfold dv;omega)];unfold dv;omega
theorem qn2 (s:qLv)(c:UInt8):val (s++[c])=10*val s+dv c:=by simp[val,List.foldl_append]
theorem qs2:∀(t:qLv) (a:Nat),t.foldl (fun a c=>10*a+dv c) a=a*10^t.length+val t
 | [],a=>by simp[val]
 | c::t,a=>by
  have h1:=qs2 t (10*a+dv c);have h2:=qs2 t (10*0+dv c);have h3:val (c::t)=t.foldl (fun a c=>10*a+dv c) (10*0+dv c):=rfl;rw[h3,h2,qNq,h1,qM0,qMU];grind
theorem qwf (s t:qLv):val (s++t)=val s*10^t.length+val t:=by
 have h:val (s++t)=t.foldl (fun a c=>10*a+dv c) (val s):=by simp[val,List.foldl_append]
 rw[h,qs2]
theorem q78 (c:UInt8)(t:qLv):val (c::t)=dv c*10^t.length+val t:=by have:=qwf [c] t;simpa[val] using this
theorem qgA:val []=0:=rfl
theorem qyW (c:UInt8):val [c]=dv c:=by simp[val]
theorem qmj:q6p []:=fun c h=>by cases h
theorem q1d {c:UInt8}{s:qLv}:q6p (c::s)↔(48<=c.toNat/\c.toNat<=57)/\q6p s:=by unfold q6p;simp
theorem q8J {s t:qLv}:q6p (s++t)↔q6p s/\q6p t:=by unfold q6p;simp only[qLU];exact⟨fun h=>⟨fun c hc=>h c (.inl hc),fun c hc=>h c (.inr hc)⟩,fun h c hc=>hc.elim (h.1 c) (h.2 c)⟩
theorem qBX {c:UInt8}(h:48<=c.toNat/\c.toNat<=57):dv c<10:=by unfold dv;omega
theorem q7R:∀{s:qLv},q6p s->val s<10^s.length
 | [],_=>by simp[val]
 | c::s,h=>by
  obtain⟨h1,h2⟩:=q1d.1 h;have ih:=q7R h2;have hd:=qBX h1;rw[q78,qM0,qMU];have:dv c*10^s.length<=9*10^s.length:=qLX _ (by omega);omega
theorem quO {d:Nat}(h:d<10):q6p [dch d]:=by intro c hc;simp at hc;subst hc;rw[q39 h];omega
theorem qH3:∀(f g n:Nat),n<f->n<g->tNf f n=tNf g n
 | 0,_,n,h,_=>by omega
 | _,0,n,_,h=>by omega
 | f+1,g+1,n,h1,h2=>by
  unfold tNf;by_cases h:n<10
  ·rw[if_pos h,if_pos h]
  ·rw[if_neg h,if_neg h,qH3 f g (n/10) (by omega) (by omega)]
theorem qwU (h:n<10):tN n=[dch n]:=by unfold tN tNf;rw[if_pos h]
theorem qz3 (h:10<=n):tN n=tN (n/10)++[dch (n%10)]:=by
 have:tN n=tNf n (n/10)++[dch (n%10)]:=by show tNf (n+1) n=_;rw[tNf,if_neg (by omega)]
 rw[this,qH3 n (n/10+1) (n/10) (by omega) (by omega)];rfl
theorem qwe (n:Nat):q6p (tN n)/\tN n≠[]/\val (tN n)=n:=by
 induction n using Nat.strongRecOn with
 | _ n ih=>
  by_cases h:n<10
  ·rw[qwU h];exact⟨quO h,by simp,by rw[qyW,qpj h]⟩
  ·rw[qz3 (by omega)];obtain⟨h1,h2,h3⟩:=ih (n/10) (by omega);refine⟨q8J.2 ⟨h1,quO (by omega)⟩,by simp,?_⟩;rw[qn2,h3,qpj (by omega)];omega
theorem wF (n:Nat):q6p (tN n):=(qwe n).1
theorem qsd (n:Nat):tN n≠[]:=(qwe n).2.1
theorem q1k (n:Nat):val (tN n)=n:=(qwe n).2.2
theorem qkm (n:Nat):0<(tN n).length:=qN5.2 (qsd n)
theorem q36:∀(k n:Nat),n<10^(k+1)->(tN n).length<=k+1
 | 0,n,h=>by rw[qwU (by simpa using h)];simp
 | k+1,n,h=>by
  by_cases h10:n<10
  ·rw[qwU h10];simp
  ·rw[qz3 (by omega),qLR];have:=q36 k (n/10) (by rw[qMU] at h;omega);simp;omega
theorem qwF:∀(k n:Nat),10^k<=n->k<(tN n).length
 | 0,n,_=>qkm n
 | k+1,n,h=>by
  have hp:0<10^k:=Nat.pow_pos (by omega);rw[qMU] at h;rw[qz3 (by omega),qLR];have:=qwF k (n/10) (by omega);simp;omega
theorem q7f {k n:Nat}(h:(tN n).length<=k):n<10^k:=by have:=q7R (wF n);rw[q1k] at this;exact qMf this (qN1 (by omega) h)
def lead(s:qLv):Prop:=s.length=1\/s.getD 0 0≠48
theorem qAO {s:qLv}(hd:q6p s)(hn:s≠[])(h:s.getD 0 0≠48):10^(s.length-1)<=val s:=by
 cases s with
 | nil=>exact absurd rfl hn
 | cons c s=>
  obtain⟨h1,h2⟩:=q1d.1 hd;simp at h;have hc:1<=dv c:=by unfold dv;have:c.toNat≠48:=fun e=>h (qNk.1 (by simpa using e));omega
  rw[q78,qM0,qNR];have:1*10^s.length<=dv c*10^s.length:=qLX _ hc;omega
theorem qH4:∀(n:Nat) {s:qLv},s.length=n+1->q6p s->lead s->tN (val s)=s
 | 0,s,hl,hd,_=>by
  match s,hl with
  | [c],_=>
   have h1:=(q1d.1 hd).1;rw[qyW,qwU (qBX h1),qHB h1.1 h1.2]
 | n+1,s,hl,hd,hz=>by
  obtain⟨i,c,rfl⟩:∃i c,s=i++[c]:=⟨s.dropLast,s.getLast (by intro h;simp[h] at hl),(List.dropLast_concat_getLast _).symm⟩;have hil:i.length=n+1:=by simpa using hl
  obtain⟨h1,h2⟩:=q8J.1 hd;have hc:=(q1d.1 h2).1;have hi:i≠[]:=by intro h;simp[h] at hil
  have hz0:i.getD 0 0≠48:=by
   rcases hz with hz|hz
   ·exact absurd (by simpa using hz) hi
   ·cases i with
    | nil=>exact absurd rfl hi
    | cons a i=>simpa using hz
  have hv:1<=val i:=qLA (Nat.one_le_pow _ _ (by omega)) (qAO h1 hi hz0);have hd10:=qBX hc;rw[qn2,qz3 (n:=10*val i+dv c) (by omega),show (10*val i+dv c)/10=val i by omega,show (10*val i+dv c)%10=dv c by omega,qHB hc.1 hc.2,qH4 n hil h1 (.inr hz0)]
theorem qrh {s:qLv}(hd:q6p s)(hn:s≠[])(hz:lead s):s=tN (val s):=(qH4 (s.length-1) (by have:=qN5.2 hn;omega) hd hz).symm
theorem qun {m n:Nat}(h:tN m=tN n):m=n:=by rw[<-q1k m,h,q1k]
theorem qDB (n:Nat):lead (tN n):=by
 induction n using Nat.strongRecOn with
 | _ n ih=>
  by_cases h:n<10
  ·rw[qwU h];exact .inl rfl
  ·rw[qz3 (by omega)];right;by_cases h2:n/10<10
   ·rw[qwU h2];intro e;have:(dch (n/10)).toNat=48:=by
     have e':dch (n/10)=48:=by simpa using e
     rw[e'];rfl
    rw[q39 h2] at this;omega
   ·have h3:(tN (n/10)).length≠1:=by have:=qwF 1 (n/10) (by omega);omega
    rcases ih (n/10) (by omega) with h4|h4
    ·exact absurd h4 h3
    ·cases hq:tN (n/10) with
     | nil=>exact absurd hq (qsd _)
     | cons a i=>rw[hq] at h4;simpa using h4
theorem qII (t:qLv):slt [] t=!t.isEmpty:=by cases t<;>rfl
theorem qFM (a b:UInt8)(s t:qLv):slt (a::s) (b::t)=(decide (a<b)||(a==b&&slt s t)):=by unfold slt;simp only[Op.bytesLess]
theorem qyE:∀{s t:qLv},q6p s->q6p t->s.length=t.length->((slt s t=true)=(val s<val t))
 | [],[],_,_,_=>by simp[qII,qgA]
 | a::s,b::t,h1,h2,hl=>by
  obtain⟨ha,hs⟩:=q1d.1 h1;obtain⟨hb,ht⟩:=q1d.1 h2;have hl':s.length=t.length:=by simpa using hl
  have ih:=qyE hs ht hl';have v1:=q7R hs;have v2:=q7R ht;rw[qFM,q78,q78,hl'];rw[hl'] at v1;have hab:(a<b)=(dv a<dv b):=by unfold dv;rw[UInt8.lt_iff_toNat_lt];simp only[eq_iff_iff];omega
  have hab2:(a=b)=(dv a=dv b):=by unfold dv;rw[<-qNk];simp only[eq_iff_iff];omega
  simp only[qMY,decide_eq_true_eq,qLN,beq_iff_eq,eq_iff_iff,ih,hab,hab2];generalize 10^t.length=p at *;generalize dv a=x at *;generalize dv b=y at *;constructor
  ·rintro (h|⟨rfl,h⟩)
   ·have:=qLX p (show x+1<=y by omega);rw[qLO] at this;omega
   ·omega
  ·intro h;rcases Nat.lt_trichotomy x y with h3|h3|h3
   ·exact .inl h3
   ·subst h3;exact .inr ⟨rfl,by omega⟩
   ·have:=qLX p (show y+1<=x by omega);rw[qLO] at this;omega
theorem q05 {m n:Nat}(h:m<=n):(tN m).length<=(tN n).length:=by
 rcases qLF (tN n).length (tN m).length with h1|h1
 ·have h2:=q7f (qLy (tN n).length);have h3:0<(tN n).length:=qkm n;have:=q36 ((tN n).length-1) m (by rw[Nat.sub_add_cancel h3];omega);omega
 ·exact h1
theorem qzy (m n:Nat):((tN m).length<(tN n).length\/(tN m).length=(tN n).length/\slt (tN m) (tN n)=true)↔m<n:=by
 constructor
 ·rintro (h|⟨h1,h2⟩)
  ·rcases qLF m n with h3|h3
   ·exact h3
   ·have:=q05 h3;omega
  ·rw[qyE (wF m) (wF n) h1,q1k,q1k] at h2;exact h2
 ·intro h;have h1:=q05 (Nat.le_of_lt h);rcases qLF (tN m).length (tN n).length with h3|h3
  ·exact .inl h3
  ·have h4:(tN m).length=(tN n).length:=by omega
   exact .inr ⟨h4,by rw[qyE (wF m) (wF n) h4,q1k,q1k];exact h⟩
theorem qAV (s:qLv):val (48::s)=val s:=by rw[q78];simp[dv]
theorem qrq (n:Nat)(s:qLv):val (List.replicate n 48++s)=val s:=by
 induction n with
 | zero=>rfl
 | succ n ih=>rw[qMV,qMX,qAV,ih]
theorem qom (n:Nat):q6p (List.replicate n 48):=by intro c hc;rw[(qNM.1 hc).2];decide
def rI(l:List Int):R:=l.map fun v=>[.i v]
theorem qcc (l:List Int):qh (rI l)=l.length:=by simp[qh,rI]
theorem qix (l:List Int):(rI l).length=l.length:=by simp[rI]
theorem qzF (l:List Int)(i:Int):cI (rI l) i 0=l.getD i.toNat 0:=by unfold cI we rI;simp only[qLw,qLH];cases l[i.toNat]?<;>rfl
theorem qBo (x v:U):qwz [x] 0 [v]=[v]:=rfl
theorem qxL (l:List Int)(i v:Int):qhx (rI l) i 0 [.i v]=rI (l.set i.toNat v):=by
 unfold qhx rI;apply qMw;intro j;by_cases hj:j=i.toNat
 ·subst hj;by_cases hl:i.toNat<l.length
  ·simp[hl,qBo]
  ·rw[qLV (by simp;omega),qLV (by simp;omega)]
 ·rw[qLz (qLZ hj),qLH,qLH,qLz (qLZ hj)]
theorem qlv (n v:Int):q4n n [.i v]=rI (List.replicate n.toNat v):=by simp[q4n,rI]
theorem qJt (l:List Int):qo1 (rI l)=l.map fun v=>UInt8.ofNat v.toNat:=by unfold qo1 rI;rw[List.map_map];rfl
theorem qKc (l:List Int)(i:Int)(s:qLv):qyi (rI l) i s=rI (l.take i.toNat++s.map (fun c=>(c.toNat:Int))++l.drop (i.toNat+s.length)):=by unfold qyi rI;simp[List.map_take,List.map_drop]
theorem qoo (s:qLv):qo1 (rI (s.map fun c=>(c.toNat:Int)))=s:=by
 rw[qJt,List.map_map];have:((fun v:Int=>UInt8.ofNat v.toNat)∘fun c:UInt8=>(c.toNat:Int))=id:=by funext c;simp
 rw[this,List.map_id]
theorem qlp {s:qLv}{i:Nat}(h:i<s.length):sat s (i:Int)=(s[i].toNat:Int):=by unfold sat;simp[h]
theorem zr (s t:qLv):(seq s t=true)=(s=t):=by simp[seq]
theorem qIj {x:Int}(h:48<=x/\x<=255):vN .u8 x 48=x-48:=by unfold vN IntKind.wrap;simp[IntKind.signed,IntKind.bits];omega
theorem qui {x:Int}(h:0<=x/\x<=255):q2W .u8 x=x:=by unfold q2W IntKind.wrap;simp[IntKind.signed,IntKind.bits];omega
theorem qqa (a b:Nat):qcL (a:Int) (b:Int)=((a%b:Nat):Int):=by unfold qcL;rw[Int.tmod_eq_emod_of_nonneg (by omega)];rfl
theorem qAx {a b:Nat}(h:a<9223372036854775808):qdm .i64 (a:Int) (b:Int)=((a/b:Nat):Int):=by unfold qdm;rw[Int.tdiv_eq_ediv_of_nonneg (by omega)];have:(a:Int)/(b:Int)=((a/b:Nat):Int):=rfl;have h2:a/b<=a:=qNv a b;rw[this];generalize a/b=q at *;unfold IntKind.wrap;simp[IntKind.signed,IntKind.bits];omega
theorem yd {S:List PV->TR}(I Q:Nat->List PV->Prop)(hn:n<9223372036854775808)(h:∀k ps,k<=n->I k ps->(∃k' qs,k'<k/\(S ps).run=some (0,qs)/\I k' qs)\/∃j qs,(S ps).run=some (j+1,qs)/\Q j qs) {ps:List PV} (h0:I n ps):∃j qs,(qf S ps).run=some (j,qs)/\Q j qs:=by
 have key:∀m k ps,k<=n->k<m->I k ps->∃j qs,(qmc S m ps).run=some (j,qs)/\Q j qs:=by
  intro m;induction m with
  | zero=>intro k ps _ h;omega
  | succ m ih=>
   intro k ps hk hm hI;rcases h k ps hk hI with⟨k',qs,h1,h2,h3⟩|⟨j,qs,h1,h2⟩
   ·obtain⟨j,rs,g1,g2⟩:=ih k' qs (by omega) (by omega) h3;exact⟨j,rs,by rw[qvS h2];exact g1,g2⟩
   ·exact⟨j,qs,qns h1,h2⟩
 exact key qp1 n ps (qLy _) (Nat.lt_trans hn (by unfold qp1;decide)) h0
end Go.Eng

