/- Texts of the proof, merged: what the code computes, and plain laws. No statement stands here. -/
import Derived.WalkSpells
import Derived.KernelRfl
import Derived.Test.YtiohngnhjabaiaaGreatDoorProg
import Derived.Test.YtiohngnhjabaiaaGreatDoorU4
namespace Go.Eng
open Go.RowKit Go.Proofs
open Tryz
theorem qnp{n:Int}(h:-9223372036854775808<=n/\n<=9223372036854775807):wrap64 n=n:=by unfold wrap64;omega
set_option maxHeartbeats 2000000 in
set_option maxRecDepth 100000 in
theorem qLK(i k:Nat)(_:i<=1000)(hk:k<=1000)(w:World) :Calls prog 251 #[.int .i64 i,.int .i64 k] w fun e w'=>e=.returned (q01 (if i=k then [49] else [48]))/\w'=w:=by
 have hs:q01 (if i=k then [49] else [48])=if i=k then .string ⟨#[49]⟩ else .string ⟨#[48]⟩:=by split<;>rfl
 rw[hs]
 go_enter func251,ntmps251
 by_cases h:i=k
 ·subst h
  go_wp2
  go_ret
  exact⟨rfl,rfl⟩
 ·have hb:((i:Int)==(k:Int))=false:=by simp;omega
  go_wp2
  go_ret
  exact⟨rfl,rfl⟩
set_option maxHeartbeats 2000000 in
set_option maxRecDepth 100000 in
theorem qLS(b5 b1 g L cap i n:Nat)(w:World)(h5:w.cell? ⟨b5,2,none⟩=some (.slice (some ⟨g,0,none⟩) L cap))(h1:w.cell? ⟨b1,0,none⟩=some (qos n))(hi:i<=1000)(hn:0<n)(hn2:n<=1000)(hL:(i+1)*n<=L)(hc:L<=cap) :Calls prog 211 #[.int .i64 i,.pointer (some ⟨b5,0,none⟩),.pointer (some ⟨b1,0,none⟩)] w fun e w'=>e=.returned (.slice (some ⟨g,i*n,none⟩) n (cap-i*n))/\w'=w:=by
 unfold qos at h1;obtain⟨lo,hlo⟩:∃lo,lo=i*n:=⟨_,rfl⟩;have hm:i*n<=1000*1000:=qN7 hi hn2;have hhi:(i+1)*n=lo+n:=by rw[hlo,qMw,qNQ]
 have e1:wrap64 ((i:Int)*(n:Int))=(lo:Int):=by rw[hlo,qnp (by rw[<-qN1];omega)];simp
 have e2:wrap64 (((i:Int)+1)*(n:Int))=((lo+n:Nat):Int):=by
  have:((i:Int)+1)*(n:Int)=((lo+n:Nat):Int):=by rw[<-hhi];simp
  rw[this,qnp (by omega)]
 rw[hhi] at hL;rw[<-hlo];have g1:¬cap=lo:=by omega
 clear hm hhi hlo
 go_enter func211,ntmps211
 go_wp2
 go_ret
 rw[Nat.add_sub_cancel_left];exact⟨rfl,rfl⟩
set_option maxHeartbeats 4000000 in
set_option maxRecDepth 1000000 in
theorem qG3(g:Nat)(hen:qdr prog g)(caps:Array Value)(r c:Nat)(hr:r<=16)(hc:c<=16)(F:Nat->Nat->Bs)(w:World)(hF:∀i k w',i<r->k<c->Below w.heap.size w w'->Calls prog g (#[.int .i64 i,.int .i64 k]++caps) w' fun e w''=>e=.returned (q01 (F i k))/\Below w'.heap.size w' w'') :Calls prog 206 #[.int .i64 r,.int .i64 c,.func (.func g) #[] caps] w fun e w'=>∃v,e=.returned (.agg #[.int .i64 r,.int .i64 c,v])/\Below w.heap.size w w'/\w'.ownsRow w.heap.size 32 1 v (r*c) ((mkL F c r).map q01):=by
 obtain⟨i0,hi,hz0,hz1,hz2⟩:=info_parts (show (prog.info? 32).map (fun i=>(i.zero,i.size,i.bytes))=some (some (.string ⟨#[]⟩),1,16) by kernel_rfl);obtain⟨B,hB⟩:∃B,B=w.heap.size:=⟨_,rfl⟩;have HF:=Lib.hid hF;clear hF
 go_enter func206,ntmps206
 go_wp2
 go_loopg [14] r (fun g i wr=>∃(ii:Nat) (v:Value),ii<=r/\g=r-ii/\i=.int .i64 ii/\MSt w.heap.size (w.heap.size+1) w.heap.size 208 32 w wr r c v (mkL F c ii))
 case atStart=>exact⟨0,.slice none 0 0,by omega,by omega,rfl,MSt.start w 208 32 (by decide) r c _ rfl _ rfl⟩
 case round=>
  obtain⟨ii,v,hii,rfl,rfl,hM⟩:=hrel;by_cases hlt:ii<r
  ·have HM:=Lib.hid hM;clear hM
   go_wp2
   go_loopg [18] c (fun g k wx=>∃(kk:Nat) (v:Value),kk<=c/\g=c-kk/\k=.int .i64 kk/\MSt w.heap.size (w.heap.size+1) w.heap.size 208 32 w wx r c v (mkL F c ii++(List.range kk).map (F ii)))
   case atStart=>exact⟨0,v,by omega,rfl,rfl,by simpa using HM.out⟩
   case round=>
    clear HM;obtain⟨kk,v,hkk,rfl,rfl,hM⟩:=hrel;have HM:=Lib.hid hM;by_cases hk:kk<c
    ·have c2:=hM.cell.2.2;have hW:Below w.heap.size w wr.drew:=hM.below.drew;have key:=Lib.hid (HF.out ii kk wr.drew hlt hk hW);have own:=Lib.hid hM.own;have hsz:w.heap.size<=wr.heap.size:=hM.below.size;have hl:(mkL F c ii++(List.range kk).map (F ii)).length<=1000:=by rw[qMz,qiJ,qMm,qMP];have:=qN7 (show ii<=16 by omega) hc;omega
     have key2:=key.out;unfold q01 at key2;clear hM HF
     go_wp2_with fail
     go_region_law (first
      | (refine qGh rfl g caps hen (.tmp 23) #[.tmp 24,.tmp 25] #[3,3] rfl (by simp[Act.eval,Act.put]) (#[.int .i64 ii,.int .i64 kk]++caps) (by simp[Act.eval,Act.put]) (by exact key2) ?_;rintro e w2 ⟨rfl,hb2⟩;have B2:Below wr.heap.size wr w2:=(Below.refl _ wr).drew.trans hb2;have BA:Below wr.heap.size wr (w2.alloc (.cells #[.string ⟨(F ii kk).toArray⟩] 32)):=B2.alloc B2.size _;have k1:=(HM.out.grow B2 hsz).cell.2.2;have k2:=(HM.out.grow BA hsz).cell.2.2;refine⟨_,rfl,?_⟩)
      | (refine qtc rfl (.tmp 22) (.tmp 27) 87 rfl w.heap.size 32 i0 (.string ⟨#[]⟩) 1 16 underlying87 hi hz0 hz1 hz2 rfl (by decide) v _ _ (by simp[Act.eval]) (q0B own.out BA) ⟨w2.heap.size,0,none⟩ 1 1 [.string ⟨(F ii kk).toArray⟩] (by simp[Act.eval]) rfl (qFM (qvT w2 _ _)) (fun u hu=>by rw[qMJ.1 hu];rfl) (by unfold maxLen;omega) (by omega) (qMi hsz BA.size) ?_;intro v' w3 hown' hgrow _;obtain⟨ao,n',cap',rfl⟩:=q6f hown';obtain⟨k3,k4⟩:=(HM.out.grow BA hsz).keepCell hgrow))
     all_goals
      have MA:=Lib.hid ((HM.out.grow BA hsz).app (ys:=mkL F c ii++(List.range (kk+1)).map (F ii)) hgrow (qMi hsz BA.size) (by rw[qNq,qMC,<-qMK,qMz,qMC];exact hown'));clear k1 k2 k3 k4 c2 hown' hgrow key2
      go_wp2
      go_roundg (c-(kk+1))
      case measure=>go_light;omega
      case rel=>
       go_light
       exact⟨kk+1,_,by omega,rfl,by go_num,MA.out⟩
    ·have hkE:kk=c:=by omega
     subst kk;clear hM
     go_wp2
     go_roundg (r-(ii+1))
     case measure=>go_light;omega
     case rel=>
      go_light
      exact⟨ii+1,v,by omega,rfl,by go_num,HM.out⟩
  ·have hiE:ii=r:=by omega
   subst ii;obtain⟨ao,n',cap',rfl⟩:=q6f hM.own;have c1:=hM.cell;have c2:=hM.cellq;have f20:=hM.freeq 0;have f21:=hM.freeq 1;have f22:=hM.freeq 2;have HM:=Lib.hid hM;clear hM;unfold qos at c1 c2;obtain⟨c11,c12,c13⟩:=c1;obtain⟨c21,c22,c23⟩:=c2
   go_wp2
   refine bodyPost_ret (by simp[results,results206,go_sem, *];try rfl) rfl ?_;obtain⟨q1,q2⟩:=HM.out.fin (qMg _) (.int .i64 r) (.int .i64 c) (.slice ao n' cap');rw[qiJ] at q2;exact⟨_,rfl,q1,q2⟩
end Go.Eng

namespace Go.Eng
open Go.RowKit Go.Proofs
open Tryz
set_option maxHeartbeats 2000000 in
set_option maxRecDepth 100000 in
theorem qGM(ab ao n c:Nat)(hn:0<n)(hn2:n<=1000)(row:List Bs)(hl:row.length=n)(w:World)(hc:∀(j:Nat) x,row[j]?=some x->w.cell? ⟨ab,ao+j,none⟩=some (q01 x)) :Calls prog 94 #[.slice (some ⟨ab,ao,none⟩) n c] w fun e w'=>∃v,e=.returned v/\w'.ownsRow w.heap.size 32 1 v n (row.map q01)/\Below w.heap.size w w':=by
 obtain⟨i0,hi,hz0,hz1,hz2⟩:=info_parts (show (prog.info? 32).map (fun i=>(i.zero,i.size,i.bytes))=some (some (.string ⟨#[]⟩),1,16) by kernel_rfl);have hnil:=Lib.run_eql_slice_nil (P:=prog)
 go_enter func94,ntmps94
 have hnews:∀(j:Nat) (u:Value),(row.map q01)[j]?=some u->(w.alloc (.cells #[] 32)).cell? ((⟨ab,ao,none⟩:Addr).add j)=some u:=fun j u hu=>by
  rw[qMo] at hu;obtain⟨x,hx,rfl⟩:=qNW.1 hu;have h1:=hc j x hx;have h2:(⟨ab,ao,none⟩:Addr).add j=⟨ab,ao+j,none⟩:=by
   unfold Addr.add;split
   ·rename_i h;subst h;rfl
   ·rfl
  rw[h2,World.cell?_alloc_lt _ _ _ (qNm w _ h1)];exact h1
 clear hc
 go_wp2_with (at_builtin;refine wpList_append_own _ rfl _ _ 87 rfl w.heap.size 32 i0 (.string ⟨#[]⟩) 1 16 underlying87 hi hz0 hz1 hz2 rfl (by decide) _ 0 [] rfl (World.ownsRow_made w #[] 0 (qMg _) (by decide) rfl) ⟨ab,ao,none⟩ n c (row.map q01) rfl (by rw[qMm,hl,qNT]) hnews qBA (by unfold maxLen;omega) (by omega) (by rw[jl];omega) ?_)
 intro v' w2 hown' hgrow _;obtain⟨ao',n',cap',rfl⟩:=q6f hown'
 go_wp2
 go_ret
 refine⟨_,rfl,hown',((Below.refl w.heap.size w).alloc (qMg _) (.cells #[] 32)).grown hgrow (by rw[jl];omega) (fun k hk=>?_)⟩;cases hk;exact qMg _
theorem qIZ(i n:Nat)(hi:i<=1000)(hn:n<=1000):wrap64 ((i:Int)*(n:Int))=((i*n:Nat):Int):=by have:=qN7 hi hn;rw[<-qN1];exact qnp ⟨by omega,by omega⟩
theorem qIU(i n:Nat)(hi:i<=1000)(hn:n<=1000):wrap64 (((i:Int)+1)*(n:Int))=((i*n+n:Nat):Int):=by
 have:=qN7 hi hn;have h:((i:Int)+1)*(n:Int)=((i*n+n:Nat):Int):=by rw[Int.add_mul,qNy,<-qN1,<-qO7]
 rw[h];exact qnp ⟨by omega,by omega⟩
noncomputable def row0(F G:Nat->Nat->Bs)(n i:Nat):List Bs:=(List.range n).map (F i)++(List.range n).map (G i)
noncomputable def qLG(B S b2 n:Nat)(vs:Value)(F G:Nat->Nat->Bs)(w0 w:World)(ii:Nat):Prop:=∃vR H,Sch B S 263 87 32 3 ii (2*n) (.int .i64 0) (.int .i64 n) w vR (.slice none 0 0) H ((List.range ii).map (row0 F G n)) [49] []/\Below B w0 w /\
 w.heap[b2]?=some (.cells #[.int .i64 n,.int .i64 n,vs] 208 (0,0))
set_option maxHeartbeats 4000000 in
set_option maxRecDepth 1000000 in
theorem qGE(n:Nat)(hn:n<=16)(F G:Nat->Nat->Bs)(vs:Value)(b5 b1:Nat)(w:World)(hv:0<n->∃ab ao cap,vs=.slice (some ⟨ab,ao,none⟩) (n*n) cap/\n*n<=cap/\∀i k,i<n->k<n->w.cell? ⟨ab,ao+(i*n+k),none⟩=some (q01 (F i k)))(ho:0<n->∃g cap,w.cell? ⟨b5,2,none⟩=some (.slice (some ⟨g,0,none⟩) (n*n) cap)/\n*n<=cap/\∀i k,i<n->k<n->w.cell? ⟨g,i*n+k,none⟩=some (q01 (G i k)))(h1:w.cell? ⟨b1,0,none⟩=some (qos n)) :Calls prog 252 #[.agg #[.int .i64 n,.int .i64 n,vs],.func (.func 211) #[] #[.pointer (some ⟨b5,0,none⟩),.pointer (some ⟨b1,0,none⟩)]] w fun e w' => e=.returned (.pointer (some ⟨w.heap.size+1,0,none⟩))/\qLG w.heap.size (w.heap.size+1) w.heap.size n vs F G w w' n:=by
  obtain⟨i0,hi,hz0,hz1,hz2⟩:=info_parts (show (prog.info? 32).map (fun i=>(i.zero,i.size,i.bytes))=some (some (.string ⟨#[]⟩),1,16) by kernel_rfl);obtain⟨i1,hi',hy0,hy1,hy2⟩:=info_parts (show (prog.info? 87).map (fun i=>(i.zero,i.size,i.bytes))=some (some (.slice none 0 0),1,24) by kernel_rfl);have HV:=Lib.hid hv;have HO:=Lib.hid ho;clear hv ho
  go_enter func252,ntmps252
  go_wp2
  go_loopg [14] n (fun g i wr=>∃ii:Nat,ii<=n/\g=n-ii/\i=.int .i64 ii/\qLG w.heap.size (w.heap.size+1) w.heap.size n vs F G w wr ii)
  case atStart =>
    refine⟨0,by omega,by omega,rfl,.slice none 0 0,[],?_,?_,?_⟩
    · refine Sch.start (by omega) ?_ (by decide)
      rw[<-jl w (.cells #[.int .i64 n,.int .i64 n,vs] 208)];exact heap_alloc_new _ _
    · exact((Below.refl w.heap.size w).alloc (qMg _) _).alloc (by rw[jl];omega) _
    · exact qkZ w _ _
  case round =>
    obtain⟨ii,hii,rfl,rfl,hI⟩:=hrel;by_cases hlt:ii<n
    · obtain⟨vR,H,hS,hB,h2⟩:=hI
      obtain⟨ab,ao,cap,rfl,hcap,hcell⟩:=HV.out (by omega);obtain⟨lo,hlo⟩:∃lo,lo=ii*n:=⟨_,rfl⟩;have hm:ii*n<=16*16:=qN7 (by omega) hn;have hhi:(ii+1)*n=lo+n:=by rw[hlo,qMw,qNQ]
      have hle:lo+n<=n*n:=by rw[<-hhi];exact qME n hlt
      have g1:¬cap=lo:=by omega
      have g2:lo+n<=cap:=by omega
      have q1:ii<=1000:=by omega
      have q2:n<=1000:=by omega
      clear hm hhi hle;have e1:True->wrap64 ((ii:Int)*(n:Int))=(lo:Int):=fun _=>by rw[hlo];exact qIZ ii n q1 q2
      have e2:True->wrap64 (((ii:Int)+1)*(n:Int))=((lo+n:Nat):Int):=fun _=>by rw[hlo];exact qIU ii n q1 q2
      have HLO:=Lib.hid hlo;clear hlo;have c2:=q63 h2;obtain⟨c20,c21,c22⟩:=c2;have keyC:=qGM ab (ao+lo) n (cap-lo) (by omega) q2 ((List.range n).map (F ii)) (by simp) wr (fun j x hx=>by
        rw[qMo] at hx;obtain⟨y,hy,rfl⟩:=qNW.1 hx;have hjn:j<n:=by have:=(qNS.1 hy).1;simpa using this
        rw[qMY hjn] at hy;cases hy;rw[qNM,HLO.out,hB.cell (p:=⟨ab,ao+(ii*n+j),none⟩) (qNm w _ (hcell ii j hlt hjn))];exact hcell ii j hlt hjn)
      obtain⟨g,capo,ho5,hcapo,hoc⟩:=HO.out (by omega);have keyI:=Lib.hid fun (W:World) (hW:Below w.heap.size w W)=>qLS b5 b1 g (n*n) capo ii n W (by rw[hW.cell (qNm w _ ho5)];exact ho5) (by rw[hW.cell (qNm w _ h1)];exact h1) q1 (by omega) q2 (qME n hlt) hcapo;have HC:=Lib.hid hoc;have HH:=Lib.hid (And.intro hS (And.intro hB h2));clear hcell hoc ho5 hcapo hcap hS hB h2
      go_wp2_with (go_at_call 94;refine keyC.mono ?_;rintro e w1 ⟨v1,rfl,hv1,hb1⟩;obtain⟨a1,n1,cap1,rfl⟩:=q6f hv1)
      clear keyC e1 e2 g1 g2 c20 c21 c22;have hsz:=HH.out.2.1.size;have B1:Below wr.heap.size wr w1.drew:=hb1.drew;have k1:=(HH.out.1.grow B1).cell.2.1;have BW:Below w.heap.size w w1.drew:=HH.out.2.1.trans (B1.mono hsz);have key2:=keyI.out w1.drew BW;have own1:=Lib.hid (q0B hv1 (Below.refl _ w1).drew);have LT1:=Lib.hid hv1;have NEW:∀(j:Nat) (u:Value),(((List.range n).map (G ii)).map q01)[j]?=some u->w1.drew.cell? ((⟨g,ii*n,none⟩:Addr).add j)=some u:=fun j u hu=>by
        rw[qMo] at hu;obtain⟨x,hx,rfl⟩:=qNW.1 hu;rw[qMo] at hx;obtain⟨y,hy,rfl⟩:=qNW.1 hx;have hjn:j<n:=by have:=(qNS.1 hy).1;simpa using this
        rw[qMY hjn] at hy;cases hy;have h2:(⟨g,ii*n,none⟩:Addr).add j=⟨g,ii*n+j,none⟩:=by
          unfold Addr.add;split
          · rename_i h;subst h;rfl
          · rfl
        have h3:=HC.out ii j hlt hjn;rw[h2,BW.cell (qNm w _ h3)];exact h3
      clear hv1;have henI:qdr prog 211:=uq func211 (by kernel_rfl) (by kernel_rfl);have stepI:∀(o:Oper) (a:Act) (K:Act->World->Prop) (Q:Exit->Act->World->Prop),o.op=.call { callee:=.value (.tmp 36),args:=#[.tmp 37],argTypes:=#[3] } ->
          a.eval (.tmp 36)=.func (.func 211) #[] #[.pointer (some ⟨b5,0,none⟩),.pointer (some ⟨b1,0,none⟩)]->a.eval (.tmp 37)=.int .i64 ii->K (a.put o.dst (.slice (some ⟨g,ii*n,none⟩) n (capo-ii*n))) w1.drew->Oper.wp prog o a w1.drew K Q :=
        fun o a K Q q1 q2 q3 q4=>qBY 211 _ henI (.tmp 36) _ _ q1 q2 (#[.int .i64 ii,.pointer (some ⟨b5,0,none⟩),.pointer (some ⟨b1,0,none⟩)]) (by simp[q3]) key2 (fun e w' h=>⟨_,h.1,by rw[h.2];exact q4⟩)
      have stepA:∀(o:Oper) (a:Act) (K:Act->World->Prop) (Q:Exit->Act->World->Prop),o.op=.call { callee:=.builtin .append,args:=#[.tmp 35,.tmp 38],argTypes:=#[87,87] } ->
          a.eval (.tmp 35)=.slice a1 n1 cap1->a.eval (.tmp 38)=.slice (some ⟨g,ii*n,none⟩) n (capo-ii*n) ->
          (∀a2 n2 cap2 w2,w2.ownsRow wr.heap.size 32 1 (.slice a2 n2 cap2) (2*n) ((row0 F G n ii).map q01)->Below wr.heap.size wr w2->K (a.put o.dst (.slice a2 n2 cap2)) w2)->Oper.wp prog o a w1.drew K Q :=
        fun o a K Q q1 q2 q3 q4=>wp_append_own w1.drew _ _ 87 q1 wr.heap.size 32 i0 (.string ⟨#[]⟩) 1 16 underlying87 hi hz0 hz1 hz2 rfl (by decide) _ n _ q2 own1.out ⟨g,ii*n,none⟩ n _ (((List.range n).map (G ii)).map q01) q3 (by simp) NEW qBA (by unfold maxLen;omega) (by omega) B1.size
          (fun v2 w2 h1 h2 _=>by obtain⟨a2,n2,cap2,rfl⟩:=q6f h1;refine q4 _ _ _ _ ?_ (B1.grown h2 B1.size (fun k hk=>(LT1.out.lt k hk).1));rw[Nat.two_mul];unfold row0;rw[qMC];exact h1)
      have stepB:∀(w2:World) (a2:Option Addr) (n2 cap2:Nat) (o:Oper) (a:Act) (K:Act->World->Prop) (Q:Exit->Act->World->Prop),Below wr.heap.size wr w2->o.op=.call { callee:=.builtin .append,args:=#[.tmp 34,.tmp 40],argTypes:=#[220,220] } ->
          a.eval (.tmp 34)=vR->a.eval (.tmp 40)=.slice (some ⟨w2.heap.size,0,none⟩) 1 1 ->
          (∀a3 n3 cap3 w3,w3.ownsRow w.heap.size 87 1 (.slice a3 n3 cap3) (ii+1) (H++[.slice a2 n2 cap2])->(w2.alloc (.cells #[.slice a2 n2 cap2] 87)).grownBy w3 vR.ownBlock->K (a.put o.dst (.slice a3 n3 cap3)) w3)->Oper.wp prog o a (w2.alloc (.cells #[.slice a2 n2 cap2] 87)) K Q :=
        fun w2 a2 n2 cap2 o a K Q hb q1 q2 q3 q4=>by
          have B3:Below wr.heap.size wr (w2.alloc (.cells #[.slice a2 n2 cap2] 87)):=hb.alloc hb.size _;exact wp_append_own _ _ _ 220 q1 w.heap.size 87 i1 (.slice none 0 0) 1 24 underlying220 hi' hy0 hy1 hy2 rfl (by decide) _ ii _ q2 (HH.out.1.grow B3).outer ⟨w2.heap.size,0,none⟩ 1 1 [.slice a2 n2 cap2] q3 rfl (qFM (qvT w2 _ _)) (fun u hu=>by rw[qMJ.1 hu];rfl) (by unfold maxLen;omega) (by omega) (qMi hsz B3.size)
            (fun v3 w3 h1 h2 _=>by obtain⟨a3,n3,cap3,rfl⟩:=q6f h1;exact q4 _ _ _ _ h1 h2)
      clear key2 NEW
      go_region_law ((try simp only[Act.put,List.setIfInBounds_toArray,qMu,qMx]);(with_reducible refine qFK rfl ?_);first
        | (with_reducible refine stepI _ _ _ _ ?_ ?_ ?_ ?_
           · with_reducible rfl
           · (first|with_reducible rfl|(simp[Act.eval];done))
           · (first|with_reducible rfl|(simp[Act.eval];done)))
        | (with_reducible refine stepA _ _ _ _ ?_ ?_ ?_ ?_
           · with_reducible rfl
           · (first|with_reducible rfl|(simp[Act.eval];done))
           · (first|with_reducible rfl|(simp[Act.eval];done))
           intro a2 n2 cap2 w2 hown2 B2;have B3:Below wr.heap.size wr (w2.alloc (.cells #[.slice a2 n2 cap2] 87)):=B2.alloc B2.size _;have k2:=(HH.out.1.grow B2).cell.2.1;have k3:=(HH.out.1.grow B3).cell.2.1)
        | (with_reducible refine stepB w2 a2 n2 cap2 _ _ _ _ B2 ?_ ?_ ?_ ?_
           · with_reducible rfl
           · (first|with_reducible rfl|(simp[Act.eval];done))
           · (first|with_reducible rfl|(simp[Act.eval];done))
           intro a3 n3 cap3 w3 hown3 hgrow3;obtain⟨k4,k5⟩:=(HH.out.1.grow B3).rowCell hgrow3)
        | fail "NONE")
      all_goals
        have SR:=(HH.out.1.grow B3).addRow (row:=row0 F G n ii) (q5Q (q0B hown2 ((Below.refl _ w2).alloc (qMg _) (.cells #[.slice a2 n2 cap2] 87))) hsz) (HH.out.1.heads hown2) hgrow3 hown3;have BL:=((HH.out.2.1.trans (B3.mono hsz)).grown hgrow3 (qMi hsz B3.size) (fun k hk=>((HH.out.1.grow B3).outer.lt k hk).1)).setCell (p:=⟨w.heap.size+1,1,none⟩) (by show w.heap.size<=w.heap.size+1;omega) (.slice a3 n3 cap3);have MK:=qBF (HH.out.1.grow B3).outer (show (w2.alloc (.cells #[.slice a2 n2 cap2] 87)).heap[w.heap.size]?=_ by rw[B3.block _ (qMk.1 HH.out.2.2).1];exact HH.out.2.2) (by decide) hgrow3;have FIN:qLG w.heap.size (w.heap.size+1) w.heap.size n (.slice (some ⟨ab,ao,none⟩) (n*n) cap) F G w (w3.setCell ⟨w.heap.size+1,1,none⟩ (.slice a3 n3 cap3)) (ii+1) :=
          ⟨_,_,by rw[qNq,qMC];exact SR,BL,by rw[heap_setCell_other w3 ⟨w.heap.size+1,1,none⟩ w.heap.size _ (by show w.heap.size≠w.heap.size+1;omega)];exact MK⟩
        have FIN:=Lib.hid FIN;clear SR BL MK k1 k2 k3 k4 k5 hown2 hown3 hgrow3 B2 B3 stepI stepA stepB
        go_wp2
        go_roundg (n-(ii+1))
        case measure=>go_light;omega
        case rel =>
          go_light
          exact⟨ii+1,by omega,rfl,by go_num,FIN.out⟩
    · have hiE:ii=n:=by omega
      subst ii;have HI:=Lib.hid hI;clear hI
      go_wp2
      go_ret
      exact⟨rfl,HI.out⟩
end Go.Eng

namespace Go.Eng
open Go.RowKit Go.Proofs
open Tryz
theorem Sch.base{B B' S:Nat}{tS tR tE tI:TypeId}{N C:Nat}{ek K:Value}{w:World}{vR vL:Value}{H:List Value}{Z:Mx}{det:Bs}{lead:List Nat}(h:Sch B S tS tR tE tI N C ek K w vR vL H Z det lead)(hB:B'<=B) :Sch B' S tS tR tE tI N C ek K w vR vL H Z det lead:=⟨qMi hB h.bs,h.st,h.dim,q5Q h.outer hB,fun j a r e1 e2=>q5Q (h.inner j a r e1 e2) hB,q5Q h.own hB,h.ap,h.ne⟩
set_option maxHeartbeats 4000000 in
set_option maxRecDepth 1000000 in
theorem qLi(ml dv sb:Op2)(gl:World->Prop)(n:Nat)(hn:n<=16)(F G:Nat->Nat->Bs)(vs:Value)(b5 b1:Nat)(w:World)(hgl:∀w',Below w.heap.size w w'->gl w')(hml:qC8 prog gl 221 ml) (hdv:qC8 prog gl 233 dv) (hsb:qC8 prog gl 165 sb)(hv:0<n->∃ab ao cap,vs=.slice (some ⟨ab,ao,none⟩) (n*n) cap/\n*n<=cap/\∀i k,i<n->k<n->w.cell? ⟨ab,ao+(i*n+k),none⟩=some (q01 (F i k)))(ho:0<n->∃g cap,w.cell? ⟨b5,2,none⟩=some (.slice (some ⟨g,0,none⟩) (n*n) cap)/\n*n<=cap/\∀i k,i<n->k<n->w.cell? ⟨g,i*n+k,none⟩=some (q01 (G i k)))(h1:w.cell? ⟨b1,0,none⟩=some (qos n)) (fin:RS) (hf:qxo ml dv sb n n (2*n) n ⟨(List.range n).map (row0 F G n),[49],[],0⟩=some fin) :Calls prog 210 #[.agg #[.int .i64 n,.int .i64 n,vs],.func (.func 211) #[] #[.pointer (some ⟨b5,0,none⟩),.pointer (some ⟨b1,0,none⟩)]] w fun e w'=> ∃S,e=.returned (.tuple #[.pointer (some ⟨S,0,none⟩),.int .i64 0])/\(∃vR vL H,Sch w.heap.size S 263 87 32 3 n (2*n) (.int .i64 0) (.int .i64 n) w' vR vL H fin.Z fin.det fin.lead)/\Below w.heap.size w w':=by
 have hB1:Below w.heap.size w (w.alloc (.cells #[.int .i64 n,.int .i64 n,vs] 208)):=(Below.refl w.heap.size w).alloc (qMg _) _;have keyB:=qGE n hn F G vs b5 b1 (w.alloc (.cells #[.int .i64 n,.int .i64 n,vs] 208))
  (fun h=>by obtain⟨ab,ao,cap,q1,q2,q3⟩:=hv h;exact⟨ab,ao,cap,q1,q2,fun i k hi hk=>by rw[hB1.cell (qNm w _ (q3 i k hi hk))];exact q3 i k hi hk⟩)
  (fun h=>by obtain⟨g,cap,q1,q2,q3⟩:=ho h;exact⟨g,cap,by rw[hB1.cell (qNm w _ q1)];exact q1,q2,fun i k hi hk=>by rw[hB1.cell (qNm w _ (q3 i k hi hk))];exact q3 i k hi hk⟩)
  (by rw[hB1.cell (qNm w _ h1)];exact h1)
 have HG:=Lib.hid hgl;have HF:=Lib.hid hf;clear hv ho hf hgl
 go_enter func210,ntmps210
 go_wp2_with (go_at_call 252;refine keyB.mono ?_;rintro e w1 ⟨rfl,hI⟩)
 have hs1:w.heap.size<=w.heap.size+1:=by omega
 rw[jl] at hI;obtain⟨vR,H,hS,hB,_⟩:=hI;have hB2:Below w.heap.size w w1:=hB1.trans (hB.mono hs1);have keyR:=qK8 w.heap.size _ n n (2*n) w1 ml dv sb gl (fun w' hw'=>HG.out w' (hB2.trans hw')) hml hdv hsb hB2.size (qMg _) (by omega) (by omega) (by omega) _ fin ⟨_,_,_,hS.base hs1,Below.refl _ _⟩ rfl rfl HF.out;refine keyR.mono ?_;rintro e w2 ⟨rfl,hR⟩;obtain⟨vR2,vL2,H2,hS2,hB3⟩:=hR;have k0:=hS2.cell.1;clear keyR keyB
 go_wp2_with fail
 go_region_with (fail)
 all_goals
  go_wp2
  refine bodyPost_ret (results_tmp2 rfl _ _ _) rfl ?_;exact⟨_,rfl,⟨_,_,_,hS2.grow (Below.refl _ _).drew⟩,hB2.trans hB3.drew⟩
noncomputable def qmd(i k:Nat):Bs:=if i=k then [49] else [48]
set_option maxHeartbeats 4000000 in
set_option maxRecDepth 1000000 in
theorem qII(n:Nat)(hn:n<=16)(w:World) :Calls prog 209 #[.int .i64 n] w fun e w'=>∃v,e=.returned (.agg #[.int .i64 n,.int .i64 n,v])/\Below w.heap.size w w'/\w'.ownsRow w.heap.size 32 1 v (n*n) ((mkL qmd n n).map q01):=by
 have hB1:Below w.heap.size w (w.alloc (.cells #[.int .i64 0,.int .i64 0,.slice none 0 0] 208)):=(Below.refl w.heap.size w).alloc (qMg _) _;have key:=qG3 251 (uq func251 (by kernel_rfl) (by kernel_rfl)) #[] n n hn hn qmd (w.alloc (.cells #[.int .i64 0,.int .i64 0,.slice none 0 0] 208)) (fun i k w' hi hk _=>(qLK i k (by omega) (by omega) w').mono fun e w'' h=>⟨h.1,by rw[h.2];exact Below.refl _ _⟩);have hq:=heap_alloc_new w (.cells #[.int .i64 0,.int .i64 0,.slice none 0 0] 208);rw[jl] at key
 go_enter func209,ntmps209
 go_wp2_with (go_at_call 206;refine key.mono ?_;rintro e w1 ⟨v,rfl,hb,ho⟩;obtain⟨ao,n1,cap,rfl⟩:=q6f ho;have hq2:w1.heap[w.heap.size]?=some (.cells #[.int .i64 0,.int .i64 0,.slice none 0 0] 208 (0,0)):=(hb.block _ (by omega)).trans hq;obtain⟨c0,c1,c2⟩:=q63 hq2;have f0:=frozen_of_row w1 w.heap.size 0 _ 208 hq2;have f1:=frozen_of_row w1 w.heap.size 1 _ 208 hq2;have f2:=frozen_of_row w1 w.heap.size 2 _ 208 hq2)
 refine bodyPost_ret (by simp[results,results209,go_sem, *];try rfl) rfl ?_;have hn0:(Value.slice ao n1 cap).ownBlock≠some w.heap.size:=fun hv=>by obtain⟨c',hc'⟩:=zo ho hv;exact qcS hq2 hc' (by decide) rfl
 have hle:w.heap.size<=w.heap.size:=qMg _;exact⟨_,rfl,(((hB1.trans (hb.mono (by omega))).setCell (p:=⟨w.heap.size,0,none⟩) hle _).setCell (p:=⟨w.heap.size,1,none⟩) hle _).setCell (p:=⟨w.heap.size,2,none⟩) hle _,
  qF (qF (qF (q5Q ho (by omega)) hn0 _) hn0 _) hn0 _⟩
end Go.Eng

namespace Go.Eng
open Go.RowKit Go.Proofs
open Tryz
theorem qCb{w:World}{B:Nat}{e:TypeId}{z n:Nat}{v:Value}{xs:List Value}(h:w.ownsRow B e z v n xs):∃ao cap,v=.slice ao n cap:=by
 rcases h.2 with⟨hv,h0⟩|⟨g,cap,cur,hv,_⟩
 ·exact⟨none,0,by rw[hv,h0]⟩
 ·exact⟨_,_,hv⟩
set_option maxHeartbeats 4000000 in
set_option maxRecDepth 1000000 in
theorem qLt(b6 b1 S n:Nat)(w:World){B:Nat}{vR vL:Value}{H:List Value}{Z:Mx}{det:Bs}{lead:List Nat}{ek K:Value}(h6:w.cell? ⟨b6,0,none⟩=some (.pointer (some ⟨S,0,none⟩)))(h1:w.cell? ⟨b1,1,none⟩=some (qos n))(hS:Sch B S 263 87 32 3 n (2*n) ek K w vR vL H Z det lead) (hn:n<=16) (i k:Nat) (hi:i<n) (hk:k<n) :Calls prog 212 #[.int .i64 i,.int .i64 k,.pointer (some ⟨b6,0,none⟩),.pointer (some ⟨b1,0,none⟩)] w fun e w'=>e=.returned (q01 (q8K Z i (n+k)))/\w'=w.drew:=by
 obtain⟨O,cO,rfl,bO,ltO,rO,fO,tO⟩:=hS.rows (by omega);obtain⟨G,cG,eH,bG,ltG,zG,fG,tG⟩:=hS.head hi (by omega);have c1:=hS.cell.2.1;have c2:=rO i _ eH;have c3:=zG (n+k) (by omega);have hlt:n+k<2*n:=by omega
 generalize 2*n=C at *;have hlt2:(n:Int)+(k:Int)<(C:Int):=by omega
 have hlt3:((n:Int)+(k:Int)).toNat=n+k:=by omega
 unfold qos at h1;unfold q01 at c3 ⊢;clear rO zG fO fG tO tG eH
 go_enter func212,ntmps212
 go_wp2_with fail
 go_big_region
 go_wp2
 go_ret
 exact⟨rfl,rfl⟩
set_option maxHeartbeats 4000000 in
set_option maxRecDepth 1000000 in
theorem qK9(ml dv sb:Op2)(gl:World->Prop)(n:Nat)(hn:n<=16)(F:Nat->Nat->Bs)(vs:Value)(w:World)(hgl:∀w',Below w.heap.size w w'->gl w')(hml:qC8 prog gl 221 ml) (hdv:qC8 prog gl 233 dv) (hsb:qC8 prog gl 165 sb)(hck:∀w',Below w.heap.size w w'->Calls prog 208 #[.agg #[.int .i64 n,.int .i64 n,vs]] w' fun e w''=>e=.returned (.int .i64 0)/\Below w'.heap.size w' w'')(hv:0<n->∃ab ao cap,vs=.slice (some ⟨ab,ao,none⟩) (n*n) cap/\n*n<=cap/\∀i k,i<n->k<n->w.cell? ⟨ab,ao+(i*n+k),none⟩=some (q01 (F i k)))(fin:RS) (hf:qxo ml dv sb n n (2*n) n ⟨(List.range n).map (row0 F qmd n),[49],[],0⟩=some fin) (hvs:∃a l c,vs=.slice a l c) :Calls prog 162 #[.agg #[.int .i64 n,.int .i64 n,vs]] w fun e w'=>Below w.heap.size w w' /\((fin.lead.length < n /\ e = .returned (.tuple #[.agg #[.int .i64 0, .int .i64 0, .slice none 0 0], .int .i64 14])) \/(n<=fin.lead.length/\∃v,e=.returned (.tuple #[.agg #[.int .i64 n,.int .i64 n,v],.int .i64 0])/\w'.ownsRow w.heap.size 32 1 v (n*n) ((mkL (fun i k=>q8K fin.Z i (n+k)) n n).map q01))):=by
  obtain⟨a0,l0,c0,rfl⟩:=hvs;obtain⟨W0,hW0⟩:∃W0,W0=(w.alloc (.cells #[.int .i64 n,.int .i64 n,.slice a0 l0 c0] 208)).alloc (.cells #[.int .i64 0,.int .i64 0,.slice none 0 0] 208):=⟨_,rfl⟩;have hb0:Below w.heap.size w W0:=by rw[hW0];exact((Below.refl w.heap.size w).alloc (qMg _) _).alloc (by rw[jl];omega) _
  have h1:W0.heap[w.heap.size]?=some (.cells #[.int .i64 n,.int .i64 n,.slice a0 l0 c0] 208 (0,0)):=by rw[hW0];exact qkZ w _ _
  have h2:W0.heap[w.heap.size+1]?=some (.cells #[.int .i64 0,.int .i64 0,.slice none 0 0] 208 (0,0)):=by rw[hW0,<-jl w (.cells #[.int .i64 n,.int .i64 n,.slice a0 l0 c0] 208)];exact heap_alloc_new _ _
  have hs0:W0.heap.size=w.heap.size+1+1:=by rw[hW0,jl,jl]
  have keyC:=hck W0 hb0;obtain⟨c10,c11,c12⟩:=q63 h1;have HV:=Lib.hid hv;have HF:=Lib.hid hf;have HG:=Lib.hid hgl;clear hv hf hgl hck
  go_enter func162,ntmps162
  go_wp2_with fail
  rw[<-hW0];refine keyC.mono ?_;rintro e w1 ⟨rfl,hb1⟩;have B1:Below w.heap.size w w1:=hb0.trans (hb1.mono hb0.size);have g1:=(hb1.block _ (qMk.1 h1).1).trans h1;have g2:=(hb1.block _ (qMk.1 h2).1).trans h2;have hs1:w.heap.size+1+1<=w1.heap.size:=by have:=hb1.size;omega
  clear keyC h1 h2 c10 c11 c12 hW0 hb0 hb1 hs0;clear W0;obtain⟨c10,c11,c12⟩:=q63 g1
  go_wp2_with fail
  refine(qII n hn w1).mono ?_;rintro e w2 ⟨vo,rfl,hb2,hou⟩;obtain⟨ao,no,co,rfl⟩:=q6f hou;have B2:Below w.heap.size w w2:=B1.trans (hb2.mono B1.size);have k1:=(hb2.block _ (qMk.1 g1).1).trans g1;have k2:=(hb2.block _ (qMk.1 g2).1).trans g2;have hs2:w.heap.size+1+1<=w2.heap.size:=by have:=hb2.size;omega
  clear g1 g2 c10 c11 c12;obtain⟨c10,c11,c12⟩:=q63 k1;have HU:=Lib.hid hou;clear hou hb2;have B3:Below w2.heap.size w2 (w2.alloc (.cells #[.int .i64 n,.int .i64 n,.slice ao no co] 208)):=(Below.refl _ w2).alloc (qMg _) _;have l1:=(B3.block _ (qMk.1 k1).1).trans k1;have l2:=(B3.block _ (qMk.1 k2).1).trans k2;obtain⟨d10,d11,d12⟩:=q63 l1
  go_wp2_with fail
  obtain⟨W3,hW3⟩:∃W3,W3=w2.alloc (.cells #[.int .i64 n,.int .i64 n,.slice ao no co] 208):=⟨_,rfl⟩;have m5:W3.heap[w2.heap.size]?=some (.cells #[.int .i64 n,.int .i64 n,.slice ao no co] 208 (0,0)):=by rw[hW3];exact heap_alloc_new _ _
  have hs3:W3.heap.size=w2.heap.size+1:=by rw[hW3,jl]
  rw[<-hW3] at B3 l1 l2 d10 d11 d12 ⊢;clear hW3 c10 c11 c12;have B13:Below w.heap.size w W3:=B2.trans (B3.mono B2.size);have keyE:=qLi ml dv sb gl n hn F qmd (.slice a0 l0 c0) w2.heap.size w.heap.size W3 (fun w' hw'=>HG.out w' (B13.trans (hw'.mono B13.size))) hml hdv hsb
    (fun h=>by obtain⟨ab,ao,cap,q1,q2,q3⟩:=HV.out h;exact⟨ab,ao,cap,q1,q2,fun i k hi hk=>by rw[B13.cell (qNm w _ (q3 i k hi hk))];exact q3 i k hi hk⟩)
    (fun h=>by
      have ho3:=q0B HU.out B3;obtain⟨g,c,q1,_,_,_⟩:=qgO ho3 (Nat.mul_pos h h);have hcap:n*n<=c:=by
        rcases ho3.2 with⟨z,_⟩|⟨g',cap',cur,z,_,_,z2,_⟩
        · rw[q1] at z;cases z
        · rw[q1] at z;cases z;exact z2
      refine⟨g,c,by rw[<-q1];exact(q63 m5).2.2,hcap,fun i k hi hk=>?_⟩;rw[q1] at ho3;have hik:i*n+k<n*n:=by have:=qME n (show i+1<=n by omega);rw[qMw] at this;omega
      rw[ho3.cellAt (i*n+k) (by omega),qMo,qAM qmd n n i k hi hk];rfl)
    d10 fin HF.out
  refine keyE.mono ?_;rintro e w4 ⟨S,rfl,⟨vR,vL,H,hS⟩,hb4⟩;have B4:Below w.heap.size w w4:=B13.trans (hb4.mono B13.size);have k1:=(hb4.block _ (qMk.1 l1).1).trans l1;have k2:=(hb4.block _ (qMk.1 l2).1).trans l2;have hs4:w2.heap.size+1<=w4.heap.size:=by have:=hb4.size;omega
  have B5:Below w4.heap.size w4 (w4.alloc (.cells #[.pointer (some ⟨S,0,none⟩)] 256)):=(Below.refl _ w4).alloc (qMg _) _;have HS:=Lib.hid (hS.grow B5);have l1:=(B5.block _ (qMk.1 k1).1).trans k1;have l2:=(B5.block _ (qMk.1 k2).1).trans k2;clear keyE HU HV HF HG hS k1 k2 d10 d11 d12 m5;obtain⟨vl0,vlc,rfl⟩:=qCb HS.out.own;obtain⟨d10,d11,d12⟩:=q63 l1;have s3:=HS.out.cell.2.2.2.1
  go_wp2_with fail
  go_big_region
  have B6:Below w4.heap.size w4 (w4.alloc (.cells #[.pointer (some ⟨S,0,none⟩)] 256)).drew:=B5.drew;have n6:=qvT w4 (.pointer (some ⟨S,0,none⟩)) 256;have SZ:(w4.alloc (.cells #[.pointer (some ⟨S,0,none⟩)] 256)).heap.size=w4.heap.size+1:=jl _ _;obtain⟨W6,hW6⟩:∃W6,W6=(w4.alloc (.cells #[.pointer (some ⟨S,0,none⟩)] 256)).drew:=⟨_,rfl⟩;have l1:W6.heap[w.heap.size]?=some (.cells #[.int .i64 n,.int .i64 n,.slice a0 l0 c0] 208 (0,0)):=by rw[hW6];exact l1
  have l2:W6.heap[w.heap.size+1]?=some (.cells #[.int .i64 0,.int .i64 0,.slice none 0 0] 208 (0,0)):=by rw[hW6];exact l2
  have n6:W6.cell? ⟨w4.heap.size,0,none⟩=some (.pointer (some ⟨S,0,none⟩)):=by rw[hW6];exact n6
  have SZ:W6.heap.size=w4.heap.size+1:=by rw[hW6];exact SZ
  have HS:=Lib.hid (HS.out.grow (Below.refl _ _).drew);rw[<-hW6] at B6 HS ⊢;clear hW6 B5 d10 d11 d12 s3;have B7:Below w.heap.size w W6:=B4.trans (B6.mono B4.size);obtain⟨d10,d11,d12⟩:=q63 l1;obtain⟨d20,d21,d22⟩:=q63 l2;have f20:=frozen_of_row W6 (w.heap.size+1) 0 _ 208 l2;have f21:=frozen_of_row W6 (w.heap.size+1) 1 _ 208 l2;have f22:=frozen_of_row W6 (w.heap.size+1) 2 _ 208 l2;have hle:w.heap.size<=w.heap.size+1:=by omega
  by_cases hl:fin.lead.length<n
  · have hl2:((fin.lead.length:Int)<(n:Int)):=by omega
    go_wp2_with fail
    refine bodyPost_ret (by simp[results,results162,go_sem, *];try rfl) rfl ?_;exact⟨((B7.setCell (p:=⟨w.heap.size+1,0,none⟩) hle _).setCell (p:=⟨w.heap.size+1,1,none⟩) hle _).setCell (p:=⟨w.heap.size+1,2,none⟩) hle _,.inl ⟨hl,rfl⟩⟩
  · have hl2:¬((fin.lead.length:Int)<(n:Int)):=by omega
    have keyM:=qG3 212 (uq func212 (by kernel_rfl) (by kernel_rfl)) #[.pointer (some ⟨w4.heap.size,0,none⟩),.pointer (some ⟨w.heap.size,0,none⟩)] n n hn hn (fun i k=>q8K fin.Z i (n+k)) W6 (fun i k w' hi hk hb =>
      (qLt w4.heap.size w.heap.size S n w' (by rw[hb.cell (qNm W6 _ n6)];exact n6) (by rw[hb.cell (qNm W6 _ d11)];exact d11) (HS.out.grow hb) hn i k hi hk).mono
        fun e w'' h=>⟨h.1,by rw[h.2];exact(Below.refl _ _).drew⟩)
    go_wp2_with fail
    refine keyM.mono ?_;rintro e w7 ⟨v,rfl,hb7,ho7⟩;obtain⟨a7,n7,c7,rfl⟩:=q6f ho7;have q2:=(hb7.block _ (qMk.1 l2).1).trans l2;obtain⟨e20,e21,e22⟩:=q63 q2;have f20:=frozen_of_row w7 (w.heap.size+1) 0 _ 208 q2;have f21:=frozen_of_row w7 (w.heap.size+1) 1 _ 208 q2;have f22:=frozen_of_row w7 (w.heap.size+1) 2 _ 208 q2;clear keyM d10 d11 d12 d20 d21 d22
    go_wp2_with fail
    refine bodyPost_ret (by simp[results,results162,go_sem, *];try rfl) rfl ?_;have hn0:(Value.slice a7 n7 c7).ownBlock≠some (w.heap.size+1):=fun hv=>by obtain⟨c',hc'⟩:=zo ho7 hv;exact qcS q2 hc' (by decide) rfl
    exact⟨(((B7.trans (hb7.mono B7.size)).setCell (p:=⟨w.heap.size+1,0,none⟩) hle _).setCell (p:=⟨w.heap.size+1,1,none⟩) hle _).setCell (p:=⟨w.heap.size+1,2,none⟩) hle _,
      .inr ⟨by omega,_,rfl,qF (qF (qF (q5Q ho7 B7.size) hn0 _) hn0 _) hn0 _⟩⟩
end Go.Eng

namespace Go.Eng
open Go.RowKit Go.Proofs
open Tryz
noncomputable def qJR(t:TR):Bool:=match t.run with
 | some (0,[.i e])=>decide (e=0)
 | _=>false
theorem qGq{t:TR}(h:qJR t=true):t.run=some (0,[.i 0]):=by
 unfold qJR at h;split at h
 ·rename_i e he;have:e=0:=by simpa using h
  subst this;exact he
 ·cases h
noncomputable def qJS(ck ml dv sb:List PV->TR):List PV->TR
 | [.i r,.i c,.r l]=>if r=c/\0<=r/\r<=16/\l.length=r.toNat*r.toNat/\qJR (ck [.i r,.i c,.r l])=true then
   (match qxo (opF ml) (opF dv) (opF sb) r.toNat r.toNat (2*r.toNat) r.toNat ⟨(List.range r.toNat).map (row0 (fun i k=>cS l ((i*r.toNat+k:Nat):Int) 0) qmd r.toNat),[49],[],0⟩ with
   | some fin=>if fin.lead.length<r.toNat then .leaf (0,[.i 0,.i 0,.r [],.i 14]) else .leaf (0,[.i r,.i r,.r ((mkL (fun i k=>q8K fin.Z i (r.toNat+k)) r.toNat r.toNat).map fun x=>[.s x]),.i 0])
   | none=>.fail) else .fail
 | _=>.fail
theorem qGd{ps:List PV}(h:ps.map PV.kind=[.i,.i,.r]):∃a b c,ps=[.i a,.i b,.r c]:=by
 match ps,h with
 | [.i a,.i b,.r c],_=>exact⟨a,b,c,rfl⟩
theorem qGU{T:List PV->TR}{a b:Int}{l:R}(h:(T [.i a,.i b,.r l]).run=some (0,[.i 0])) :(q9 ⟨[.agg [.int .i64,.int .i64,.imm [.str]]],[]⟩ [⟨.int .i64,[],none⟩] T [.agg [.int .i64 a,.int .i64 b,.imm [.str] l]] []).run=some (.int .i64 0,[]):=by unfold q9;have ht:(FIn.mk [.agg [.int .i64,.int .i64,.imm [.str]]] []).take [.agg [.int .i64 a,.int .i64 b,.imm [.str] l]] []=some [.i a,.i b,.r l]:=rfl;rw[ht];simp only[Tree.run,okR,h,qOu];simp[qF8,FOut.kinds,AP.kinds,BP.kindsL,qnM,gI,pR,h,PV.toI,FOut.make,AP.make,BP.makeL,Tree.run]
theorem qCi{w:World}{B:Nat}{e:TypeId}{M:Nat->Prop}{v:Value}{n:Nat}{xs:List Bs}(h:w.ownsRow B e 1 v n (xs.map q01))(hM:∀b,v.ownBlock=some b->M b):qgb w M [.str] (xs.map fun x=>[U.s x]) v:=by
 have hl:xs.length=n:=by have:=h.1;rw[qMm] at this;omega
 rcases h.2 with⟨rfl,h0⟩|⟨g,cap,cur,rfl,_,_,hc,_⟩
 ·exact .inl ⟨rfl,qNL (by rw[qMm];omega)⟩
 ·refine .inr ⟨⟨g,0,none⟩,cap,by rw[qMm,hl],fun _=>rfl,by rw[qMm,hl];exact hc,fun r j hj hr=>?_⟩;have hj0:j=0:=by simp at hj;exact hj
  subst hj0;rw[qMm] at hr;refine⟨hM g rfl,q01 xs[r],?_,?_⟩
  ·have:=h.cellAt r (by omega);rw[qMo,qMl hr] at this;simpa using this
  ·have:RepU w M .str (U.s xs[r]) (q01 xs[r]):=.str (U.s xs[r]);have e:zH (xs.map fun x=>[U.s x]) (r:Int) 0=U.s xs[r]:=by simp[zH,hr]
   rw[e];exact this
theorem qGB{X:Ctx}{a b:Int}{l:R}{vargs:List Value}(h:RepL X [.agg [.int .i64 a,.int .i64 b,.imm [.str] l]] vargs):∃v,vargs=[.agg #[.int .i64 a,.int .i64 b,v]]/\qgb X.w X.M [.str] l v:=by
 cases h with
 | cons h1 t=>
  cases t;cases h1 with
  | agg _ vs h2=>
   cases h2 with
   | cons q1 t1=>
    cases q1;cases t1 with
    | cons q2 t2=>
     cases q2;cases t2 with
     | cons q3 t3=>
      cases t3;cases q3 with
      | imm _ _ _ hv=>exact⟨_,rfl,hv⟩
theorem qF1{gl:List (Nat×AV)}{ck ml dv sb:List PV->TR}(hck:qI prog gl 208 (q9 ⟨[.agg [.int .i64,.int .i64,.imm [.str]]],[]⟩ [⟨.int .i64,[],none⟩] ck))(hml:qI prog gl 221 (q9 ⟨[.str,.str],[]⟩ [⟨.tuple [.str,.int .i64],[],none⟩] ml)) (hdv:qI prog gl 233 (q9 ⟨[.str,.str],[]⟩ [⟨.tuple [.str,.int .i64],[],none⟩] dv))(hsb:qI prog gl 165 (q9 ⟨[.str,.str],[]⟩ [⟨.tuple [.str,.int .i64],[],none⟩] sb)) :qI prog gl 162 (q9 ⟨[.agg [.int .i64,.int .i64,.imm [.str]]],[]⟩ [⟨.tuple [.agg [.int .i64,.int .i64,.imm [.str]],.int .i64],[],none⟩] (qJS ck ml dv sb)):=by
 refine qDs (uq func162 (by kernel_rfl) (by kernel_rfl)) rfl fun B X ps j qs vargs hs hgl hX ha hk hT=>?_;obtain⟨r,c,l,rfl⟩:=qGd hk;have ha:RepL X [.agg [.int .i64 r,.int .i64 c,.imm [.str] l]] vargs:=ha;simp only[qJS] at hT;split at hT
 ·rename_i hc;obtain⟨rfl,hr0,hr16,hl,hok⟩:=hc;obtain⟨n,rfl⟩:∃n:Nat,r=(n:Int):=⟨r.toNat,by omega⟩;rw[qMp] at hT hl;split at hT
  ·rename_i fin hf;obtain⟨v,rfl,hv⟩:=qGB ha;have hgY:∀w',Below X.w.heap.size X.w w'->q4q gl (qHf w' X.y):=fun w' hb=>qLU hs hX hgl hb;have op:∀{f:FuncId} {T:List PV->TR},qI prog gl f (q9 ⟨[.str,.str],[]⟩ [⟨.tuple [.str,.int .i64],[],none⟩] T)->qC8 prog (fun w'=>Below X.w.heap.size X.w w') f (opF T):=
    fun hT w' hb a b r h=>qFB hT (hgY w' hb) h
   have key:=qK9 (opF ml) (opF dv) (opF sb) (fun w'=>Below X.w.heap.size X.w w') n (by omega) (fun i k=>cS l ((i*n+k:Nat):Int) 0) v X.w (fun _ h=>h) (op hml) (op hdv) (op hsb)
    (fun w' hb=>by
     have m:=qJZ hs hX hb;refine(qy5 hck (hgY w' hb) (args:=[.agg [.int .i64 n,.int .i64 n,.imm [.str] l]]) (vargs:=[.agg #[.int .i64 n,.int .i64 n,v]]) ?_ (qGU (qGq hok))).mono ?_
     ·exact ha.ext0 m
     ·rintro e w'' ⟨u,X',rfl,rfl,hu,_,_,hb'⟩;cases hu;exact⟨rfl,hb'⟩)
    (fun hn=>by
     rcases hv with⟨_,h0⟩|⟨a,cap,rfl,hsp,hcap,hrows⟩
     ·rw[h0] at hl;have:=Nat.mul_pos hn hn;simp at hl;omega
     ·have hpos:0<l.length:=by rw[hl];exact Nat.mul_pos hn hn
      obtain⟨ab,ao,sp⟩:=a;have:sp=none:=hsp hpos;subst this;refine⟨ab,ao,cap,by rw[hl],by omega,fun i k hi hk=>?_⟩;have hik:i*n+k<l.length:=by have:=qME n (show i+1<=n by omega);rw[qMw] at this;omega
      obtain⟨_,u,q1,q2⟩:=hrows (i*n+k) 0 (by simp) hik;cases q2;simp only[List.length_singleton,qNT,qN4] at q1;rw[q1];rfl)
    fin hf (by
     rcases hv with⟨rfl,_⟩|⟨a,cap,rfl,_⟩
     ·exact⟨_,_,_,rfl⟩
     ·exact⟨_,_,_,rfl⟩)
   split at hT
   ·rename_i hlt;cases hT;refine⟨rfl,rfl,key.mono ?_⟩;rintro e w' ⟨hb,⟨_,rfl⟩|⟨h,_⟩⟩
    ·refine⟨_,X.M,rfl,hb,fun _ h=>h,fun _ h=>.inl h,?_⟩;exact .tuple _ [_,_] (.cons (.agg _ [_,_,_] (.cons (.int _ _) (.cons (.int _ _) (.cons (.imm _ _ _ (.inl ⟨rfl,rfl⟩)) .nil)))) (.cons (.int _ _) .nil))
    ·omega
   ·rename_i hge;cases hT;refine⟨rfl,rfl,key.mono ?_⟩;rintro e w' ⟨hb,⟨h,_⟩|⟨_,u,rfl,ho⟩⟩
    ·exact absurd h hge
    ·refine⟨_,fun m=>X.M m\/u.ownBlock=some m,rfl,hb,fun _ h=>.inl h,fun m h=>?_,?_⟩
     ·rcases h with h|h
      ·exact .inl h
      ·exact .inr (ho.lt m h)
     ·exact .tuple _ [_,_] (.cons (.agg _ [_,_,_] (.cons (.int _ _) (.cons (.int _ _) (.cons (.imm _ _ _ (qCi ho fun b hb=>.inr hb)) .nil)))) (.cons (.int _ _) .nil))
  ·cases hT
 ·cases hT
end Go.Eng

namespace Go.Eng
open Go.Proofs
open Tryz
noncomputable def qge:List (TypeId×TI):=[(1,(.mk .func 1 [.nilFunc] 8 false false)),(2,(.mk (.int .i64) 1 [(.int .i64 0)] 8 false false)),(3,(.mk (.int .i64) 1 [(.int .i64 0)] 8 false false)),(4,(.mk .bool 1 [(.bool false)] 1 false false)),(5,(.mk (.int .u8) 1 [(.int .u8 0)] 1 false false)),(6,(.mk (.int .u8) 1 [(.int .u8 0)] 1 false false)),(8,(.mk (.struct [(0,(2,1)),(1,(3,1)),(2,(4,1)),(3,(6,1))]) 4 [(.int .i64 0),(.int .i64 0),(.bool false),(.int .u8 0)] 24 true true)),(9,(.mk .str 1 [(.string (.mk (.mk [])))] 16 false false)),(10,(.mk .str 1 [(.string (.mk (.mk [])))] 16 false false)),(11,(.mk .str 1 [(.string (.mk (.mk [])))] 16 false false)),(12,(.mk (.int .u64) 1 [(.int .u64 0)] 8 false false)),(13,(.mk (.struct [(0,(9,1)),(1,(12,1))]) 2 [(.string (.mk (.mk []))),(.int .u64 0)] 24 false true)),(14,(.mk (.struct [(0,(9,1)),(1,(12,1))]) 2 [(.string (.mk (.mk []))),(.int .u64 0)] 24 false true)),(16,(.mk (.ptr 362) 1 [(.pointer .none)] 8 false false)),(17,(.mk (.ptr 370) 1 [(.pointer .none)] 8 false false)),(18,(.mk (.struct [(0,(17,1))]) 1 [(.pointer .none)] 8 false true)),(22,(.mk (.slice 28 2) 1 [(.slice .none 0 0)] 24 false false)),(23,(.mk (.slice 29 1) 1 [(.slice .none 0 0)] 24 false false)),(26,(.mk (.slice 31 3) 1 [(.slice .none 0 0)] 24 false false)),(28,(.mk (.struct [(0,(3,1)),(1,(3,1))]) 2 [(.int .i64 0),(.int .i64 0)] 16 true true)),(29,(.mk (.int .i8) 1 [(.int .i8 0)] 1 false false)),(30,(.mk (.struct [(0,(3,1)),(1,(3,1)),(2,(3,1))]) 3 [(.int .i64 0),(.int .i64 0),(.int .i64 0)] 24 true true)),(31,(.mk (.struct [(0,(3,1)),(1,(3,1)),(2,(3,1))]) 3 [(.int .i64 0),(.int .i64 0),(.int .i64 0)] 24 true true)),(32,(.mk .str 1 [(.string (.mk (.mk [])))] 16 false false)),(34,(.mk (.struct [(0,(32,1)),(1,(32,1))]) 2 [(.string (.mk (.mk []))),(.string (.mk (.mk [])))] 32 true true)),(35,(.mk (.slice 3 1) 1 [(.slice .none 0 0)] 24 false false)),(36,(.mk (.int .i64) 1 [(.int .i64 0)] 8 false false)),(39,(.mk (.array 3 32 1) 3 [(.string (.mk (.mk []))),(.string (.mk (.mk []))),(.string (.mk (.mk [])))] 48 false false)),(42,(.mk (.slice 35 1) 1 [(.slice .none 0 0)] 24 false false)),(45,(.mk .func 1 [.nilFunc] 8 false false)),(46,(.mk .func 1 [.nilFunc] 8 false false)),(47,(.mk .func 1 [.nilFunc] 8 false false)),(48,(.mk .func 1 [.nilFunc] 8 false false)),(50,(.mk .func 1 [.nilFunc] 8 false false)),(52,(.mk .func 1 [.nilFunc] 8 false false)),(54,(.mk .func 1 [.nilFunc] 8 false false)),(55,(.mk .func 1 [.nilFunc] 8 false false)),(56,(.mk (.struct [(0,(39,3)),(3,(32,1)),(4,(35,1))]) 5 [(.string (.mk (.mk []))),(.string (.mk (.mk []))),(.string (.mk (.mk []))),(.string (.mk (.mk []))),(.slice .none 0 0)] 88 true true)),(57,(.mk (.struct [(0,(39,3)),(3,(32,1)),(4,(35,1))]) 5 [(.string (.mk (.mk []))),(.string (.mk (.mk []))),(.string (.mk (.mk []))),(.string (.mk (.mk []))),(.slice .none 0 0)] 88 true true)),(58,(.mk .func 1 [.nilFunc] 8 false false)),(64,(.mk .func 1 [.nilFunc] 8 false false)),(77,(.mk .func 1 [.nilFunc] 8 false false)),(84,(.mk .func 1 [.nilFunc] 8 false false)),(87,(.mk (.slice 32 1) 1 [(.slice .none 0 0)] 24 false false)),(88,(.mk .func 1 [.nilFunc] 8 false false)),(93,(.mk .func 1 [.nilFunc] 8 false false)),(94,(.mk (.slice 96 3) 1 [(.slice .none 0 0)] 24 false false)),(96,(.mk (.struct [(0,(34,2)),(2,(32,1))]) 3 [(.string (.mk (.mk []))),(.string (.mk (.mk []))),(.string (.mk (.mk [])))] 48 true true)),(97,(.mk .func 1 [.nilFunc] 8 false false)),(99,(.mk (.struct [(0,(3,1)),(1,(3,1)),(2,(3,1))]) 3 [(.int .i64 0),(.int .i64 0),(.int .i64 0)] 24 true true)),(101,(.mk .func 1 [.nilFunc] 8 false false)),(105,(.mk (.int .u16) 1 [(.int .u16 0)] 2 false false)),(108,(.mk .func 1 [.nilFunc] 8 false false)),(109,(.mk .func 1 [.nilFunc] 8 false false)),(110,(.mk .func 1 [.nilFunc] 8 false false)),(112,(.mk (.struct [(0,(39,3)),(3,(32,1)),(4,(87,1))]) 5 [(.string (.mk (.mk []))),(.string (.mk (.mk []))),(.string (.mk (.mk []))),(.string (.mk (.mk []))),(.slice .none 0 0)] 88 true true)),(115,(.mk .func 1 [.nilFunc] 8 false false)),(116,(.mk .func 1 [.nilFunc] 8 false false)),(117,(.mk .str 1 [(.string (.mk (.mk [])))] 16 false false)),(120,(.mk .func 1 [.nilFunc] 8 false false)),(121,(.mk .func 1 [.nilFunc] 8 false false)),(123,(.mk (.slice 117 1) 1 [(.slice .none 0 0)] 24 false false)),(139,(.mk (.ptr 141) 1 [(.pointer .none)] 8 false false)),(141,(.mk (.struct [(0,(36,1))]) 1 [(.int .i64 0)] 8 true true)),(146,(.mk (.array 3 3 1) 3 [(.int .i64 0),(.int .i64 0),(.int .i64 0)] 24 false false)),(153,(.mk (.ptr 155) 1 [(.pointer .none)] 8 false false)),(155,(.mk (.struct [(0,(36,1))]) 1 [(.int .i64 0)] 8 true true)),(161,(.mk .func 1 [.nilFunc] 8 false false)),(163,(.mk .func 1 [.nilFunc] 8 false false)),(164,(.mk .func 1 [.nilFunc] 8 false false)),(182,(.mk .func 1 [.nilFunc] 8 false false)),(183,(.mk .func 1 [.nilFunc] 8 false false)),(188,(.mk (.slice 5 1) 1 [(.slice .none 0 0)] 24 false false)),(191,(.mk .func 1 [.nilFunc] 8 false false)),(192,(.mk .func 1 [.nilFunc] 8 false false)),(200,(.mk .func 1 [.nilFunc] 8 false false)),(208,(.mk (.struct [(0,(3,1)),(1,(3,1)),(2,(87,1))]) 3 [(.int .i64 0),(.int .i64 0),(.slice .none 0 0)] 40 true true)),(216,(.mk .func 1 [.nilFunc] 8 false false)),(220,(.mk (.slice 87 1) 1 [(.slice .none 0 0)] 24 false false)),(227,(.mk (.ptr 244) 1 [(.pointer .none)] 8 false false)),(233,(.mk .func 1 [.nilFunc] 8 false false)),(235,(.mk (.struct [(0,(34,2)),(2,(34,2)),(4,(32,1))]) 5 [(.string (.mk (.mk []))),(.string (.mk (.mk []))),(.string (.mk (.mk []))),(.string (.mk (.mk []))),(.string (.mk (.mk [])))] 80 true true)),(239,(.mk .func 1 [.nilFunc] 8 false false)),(242,(.mk (.array 232 3 1) 232 (List.replicate 232 (.int .i64 0)) 1856 false false)),(244,(.mk (.struct [(0,(4,1)),(1,(3,1)),(2,(242,232))]) 234 (List.append [(.bool false)] (List.replicate 233 (.int .i64 0))) 1872 true true)),(261,(.mk (.struct [(0,(36,1))]) 1 [(.int .i64 0)] 8 true true)),(265,(.mk (.ptr 261) 1 [(.pointer .none)] 8 false false)),(302,(.mk .func 1 [.nilFunc] 8 false false)),(311,(.mk .func 1 [.nilFunc] 8 false false)),(312,(.mk (.ptr 5) 1 [(.pointer .none)] 8 false false)),(314,(.mk (.int .u32) 1 [(.int .u32 0)] 4 false false)),(329,(.mk (.int .u64) 1 [(.int .u64 0)] 8 false false)),(352,(.mk (.array 20 329 1) 20 [(.int .u64 0),(.int .u64 0),(.int .u64 0),(.int .u64 0),(.int .u64 0),(.int .u64 0),(.int .u64 0),(.int .u64 0),(.int .u64 0),(.int .u64 0),(.int .u64 0),(.int .u64 0),(.int .u64 0),(.int .u64 0),(.int .u64 0),(.int .u64 0),(.int .u64 0),(.int .u64 0),(.int .u64 0),(.int .u64 0)] 160 false false)),(360,(.mk (.array 0 16 1) 0 [] 0 false false)),(362,(.mk (.struct [(0,(360,0))]) 0 [] 0 false true)),(364,(.mk (.int .u8) 1 [(.int .u8 0)] 1 false false)),(365,(.mk (.int .u8) 1 [(.int .u8 0)] 1 false false)),(366,(.mk .func 1 [.nilFunc] 8 false false)),(367,(.mk (.int .i32) 1 [(.int .i32 0)] 4 false false)),(368,(.mk (.int .i32) 1 [(.int .i32 0)] 4 false false)),(370,(.mk (.struct [(0,(12,1)),(1,(12,1)),(2,(314,1)),(3,(364,1)),(4,(5,1)),(5,(5,1)),(6,(365,1)),(7,(366,1)),(8,(312,1)),(9,(367,1)),(10,(368,1))]) 11 [(.int .u64 0),(.int .u64 0),(.int .u32 0),(.int .u8 0),(.int .u8 0),(.int .u8 0),(.int .u8 0),.nilFunc,(.pointer .none),(.int .i32 0),(.int .i32 0)] 48 false true))]
noncomputable def qa:List (Nat×AV):=[(5,(.eptr [.int .u64,.int .u64,.int .u64,.int .u64,.int .u64,.int .u64,.int .u64,.int .u64,.int .u64,.int .u64,.int .u64,.int .u64,.int .u64,.int .u64,.int .u64,.int .u64,.int .u64,.int .u64,.int .u64,.int .u64] [[.i 1,.i 10,.i 100,.i 1000,.i 10000,.i 100000,.i 1000000,.i 10000000,.i 100000000,.i 1000000000,.i 10000000000,.i 100000000000,.i 1000000000000,.i 10000000000000,.i 100000000000000,.i 1000000000000000,.i 10000000000000000,.i 100000000000000000,.i 1000000000000000000,.i 10000000000000000000]] 0 0))]
theorem q8:qge.map (fun x=>qxu prog x.1)=qge.map (·.2):=by kernel_rfl
theorem qc:prog.follows .mixedOrders=true:=by kernel_rfl
noncomputable def qe(s:List (FuncId×(List AV->List Blk->Tree (AV×List Blk))))(b:List (FuncId×Func))(l:List ((FuncId×Nat)×(St->Tree (Ex×St))))(n:Nat):Env:=⟨qge,qa,s,b,l,n,[],[],[]⟩
def q64:FIn:=⟨[(.int .i64)],[]⟩
def q6a:List FOut:=[⟨.bool,[],none⟩]
noncomputable def qjI:=qe [] [(200,f200)] [] 0
noncomputable def qY:=qm qjI 200 f200 true q64 q6a
theorem qdy:qI prog qa 200 (q9 q64 q6a qY):=sk qjI qc q8 aln aln (b1 func200) func200
def q3y:FIn:=⟨[(.agg [(.int .i64),(.int .i64)])],[]⟩
def q2V:List FOut:=[⟨.bool,[],none⟩]
noncomputable def qnz:=qe [(200,q9 q64 q6a qY)] [(148,f148)] [] 0
noncomputable def kx:=qm qnz 148 f148 true q3y q2V
theorem q4W:qI prog qa 148 (q9 q3y q2V kx):=sk qnz qc q8 (alc qdy aln) aln (b1 func148) func148
def q1X:FIn:=⟨[(.fn 148 [] []),(.imm [(.int .i64),(.int .i64)])],[]⟩
def q1R:List FOut:=[⟨(.int .i64),[],none⟩]
noncomputable def q0e:Tmpl:={ t:=((.fn 148 [] [])::qp 6 ((.imm [(.int .i64),(.int .i64)])::(.int .i64)::(.int .i64)::qp 8 [])),h:=[] }
noncomputable def q0x:List Out:=[⟨(.exit 0),{ t:=(qp 18 []),h:=[] }⟩,⟨.ret,{ t:=(qp 4 ((.int .i64)::qp 13 [])),h:=[] }⟩]
noncomputable def jW:=qe [(148,q9 q3y q2V kx)] [(199,f199)] [] 0
noncomputable def zm:=zr jW 199 f199 3 q0e q0x
theorem qby:qk prog qa jW.nimp (qt prog jW.iter 199) (qS f199 3) (qh q0e q0x (qf zm)):=gk jW qc q8 (alc q4W aln) aln (b1 func199) func199
noncomputable def q7A:=qe [(148,q9 q3y q2V kx)] [(199,f199)] [((199,3),qh q0e q0x (qf zm))] 0
noncomputable def jc:=qm q7A 199 f199 true q1X q1R
theorem qeb:qI prog qa 199 (q9 q1X q1R jc):=sk q7A qc q8 (alc q4W aln) (alc (lk func199 qby) aln) (b1 func199) func199
def uL:FIn:=⟨[(.imm [(.int .i64),(.int .i64)]),(.fn 148 [] [])],[]⟩
def uK:List FOut:=[⟨(.int .i64),[],none⟩]
noncomputable def q3A:=qe [(148,q9 q3y q2V kx),(199,q9 q1X q1R jc)] [(147,f147)] [] 0
noncomputable def wk:=qm q3A 147 f147 true uL uK
theorem qad:qI prog qa 147 (q9 uL uK wk):=sk q3A qc q8 (alc q4W (alc qeb aln)) aln (b1 func147) func147
def qeN:FIn:=⟨[(.imm [(.int .i64),(.int .i64)])],[]⟩
def qeX:List FOut:=[⟨(.int .i64),[],none⟩]
noncomputable def qkX:=qe [(147,q9 uL uK wk),(148,q9 q3y q2V kx)] [(111,f111)] [] 0
noncomputable def q3X:=qm qkX 111 f111 true qeN qeX
theorem qow:qI prog qa 111 (q9 qeN qeX q3X):=sk qkX qc q8 (alc qad (alc q4W aln)) aln (b1 func111) func111
def q8R:FIn:=⟨[(.int .i64)],[]⟩
def q8B:List FOut:=[⟨(.int .i64),[],none⟩]
noncomputable def ql0:=qe [] [(112,f112)] [] 0
noncomputable def kF:=qm ql0 112 f112 true q8R q8B
theorem qfn:qI prog qa 112 (q9 q8R q8B kF):=sk ql0 qc q8 aln aln (b1 func112) func112
def q45:FIn:=⟨[(.imm [(.int .i64),(.int .i64)])],[]⟩
def q4l:List FOut:=[⟨(.int .i64),[],none⟩]
noncomputable def qlr:=qe [(111,q9 qeN qeX q3X),(112,q9 q8R q8B kF)] [(65,f65)] [] 0
noncomputable def jw:=qm qlr 65 f65 true q45 q4l
theorem q8k:qI prog qa 65 (q9 q45 q4l jw):=sk qlr qc q8 (alc qow (alc qfn aln)) aln (b1 func65) func65
def q1J:FIn:=⟨[(.imm [(.int .i64)])],[]⟩
def q1V:List FOut:=[⟨(.vec 0),[.vec 3 [(.int .i64)]],none⟩]
noncomputable def qi8:=qe [] [(150,f150)] [] 0
noncomputable abbrev q5K:=q1J
noncomputable abbrev q5C:=q1V
noncomputable abbrev q5v:=qi8
noncomputable def q5J:=qm q5v 150 f150 false q5K q5C
theorem qbB:qI prog qa 150 (q9 q5K q5C q5J):=qpC (E:=q5v) qc ⟨qdL q8,⟨aln,aln⟩,aln,(b1 func150)⟩ func150 (by kernel_rfl) (by kernel_rfl) (fun _=>rfl)
theorem qf2(x0:R):q5J [.r x0]=(.br (ilt 0 (qg x0)) (.br (ile ((qg [])+(qg x0)) 17592186044416) (.leaf (0,[(.r (zR [] x0))])) .fail) .fail):=by kernel_rfl
noncomputable def qg2:Go.Shelf.Ren:=⟨fun|41=>150|n=>n,fun|4=>4|22=>35|23=>3|n=>n,fun n=>n⟩
noncomputable def wD:=qDT
theorem qeO:qI prog qa 150 (q9 q1J q1V wD):=qCG (ρ:=qg2) ⟨by kernel_rfl,⟨ "slices.Clone[[]int,int]",by decide,func150.trans (congrArg some (by kernel_rfl))⟩,underlying4,isAgg4,sizeOf4,zeroValue4,underlying35,isAgg35,sizeOf35,zeroValue35,underlying3,isAgg3,sizeOf3,zeroValue3,by kernel_rfl⟩ qbB (qHt qf2)
def ve:FIn:=⟨[(.agg [(.int .i64),(.int .i64),(.int .i64)])],[]⟩
def vg:List FOut:=[⟨(.agg [(.int .i64),(.int .i64),(.int .i64)]),[],none⟩]
noncomputable def q9i:=qe [] [(166,f166)] [] 0
noncomputable def qJ:=qm q9i 166 f166 true ve vg
theorem jK:qI prog qa 166 (q9 ve vg qJ):=sk q9i qc q8 aln aln (b1 func166) func166
def qgD:FIn:=⟨[(.agg [(.int .i64),(.int .i64),(.int .i64)]),(.agg [(.int .i64),(.int .i64),(.int .i64)]),(.agg [(.int .i64),(.int .i64),(.int .i64)])],[]⟩
def qhb:List FOut:=[⟨(.int .i64),[],none⟩]
noncomputable def qbJ:Tmpl:={ t:=(qp 7 ((.ptr 3 0)::(.ptr 4 0)::(.ptr 5 0)::(.int .i64)::qp 7 ((.int .i64)::qp 21 []))),h:=[.dead,.dead,.dead,.cells [(.int .i64),(.int .i64),(.int .i64)],.cells [(.int .i64),(.int .i64),(.int .i64)],.cells [(.int .i64),(.int .i64),(.int .i64)]] }
noncomputable def qct:List Out:=[⟨(.exit 0),{ t:=(qp 10 ((.int .i64)::qp 29 [])),h:=[] }⟩]
noncomputable def q7n:=qe [(166,q9 ve vg qJ)] [(159,f159)] [] 0
noncomputable def q0q:=zr q7n 159 f159 5 qbJ qct
theorem qnr:qk prog qa q7n.nimp (qt prog q7n.iter 159) (qS f159 5) (qh qbJ qct (qf q0q)):=gk q7n qc q8 (alc jK aln) aln (b1 func159) func159
noncomputable def qmP:=qe [(166,q9 ve vg qJ)] [(159,f159)] [((159,5),qh qbJ qct (qf q0q))] 0
noncomputable def q15:=qm qmP 159 f159 true qgD qhb
theorem qqA:qI prog qa 159 (q9 qgD qhb q15):=sk qmP qc q8 (alc jK aln) (alc (lk func159 qnr) aln) (b1 func159) func159
def ql1:FIn:=⟨[(.int .i64)],[]⟩
def qli:List FOut:=[⟨.str,[],none⟩]
noncomputable def q4h:List PV->TR:=qEG
set_option maxRecDepth 100000 in
theorem qpl:qI prog qa 242 (q9 ql1 qli q4h):=qC7 laysM171 (uq func242 (by kernel_rfl) (by kernel_rfl)) (by kernel_rfl) (by unfold qa;exact qMB)
def qbp:FIn:=⟨[(.int .i64)],[]⟩
def qbk:List FOut:=[⟨.str,[],none⟩]
noncomputable def qvp:=qe [(242,q9 ql1 qli q4h)] [(194,f194)] [] 0
noncomputable def wE:=qm qvp 194 f194 true qbp qbk
theorem qb3:qI prog qa 194 (q9 qbp qbk wE):=sk qvp qc q8 (alc qpl aln) aln (b1 func194) func194
def q6m:FIn:=⟨[(.int .i64)],[]⟩
def q6C:List FOut:=[⟨.str,[],none⟩]
noncomputable def qn0:=qe [(194,q9 qbp qbk wE)] [(160,f160)] [] 0
noncomputable def jB:=qm qn0 160 f160 true q6m q6C
theorem qa0:qI prog qa 160 (q9 q6m q6C jB):=sk qn0 qc q8 (alc qb3 aln) aln (b1 func160) func160
def qaU:FIn:=⟨[(.int .i64)],[]⟩
def qb5:List FOut:=[⟨.bool,[],none⟩]
noncomputable def qmU:=qe [] [(205,f205)] [] 0
noncomputable def vw:=qm qmU 205 f205 true qaU qb5
theorem qhq:qI prog qa 205 (q9 qaU qb5 vw):=sk qmU qc q8 aln aln (b1 func205) func205
def q3l:FIn:=⟨[(.int .i64),(.int .i64),(.ptr 0 0),(.ptr 1 0)],[.cells [(.imm [(.int .i64)])],.cells [(.int .i64)]]⟩
def q37:List FOut:=[⟨.str,[.cells [(.imm [(.int .i64)])],.cells [(.int .i64)]],none⟩]
noncomputable def qnf:=qe [(160,q9 q6m q6C jB)] [(207,f207)] [] 2
noncomputable def ka:=qm qnf 207 f207 true q3l q37
theorem q4G:qI prog qa 207 (q9 q3l q37 ka):=sk qnf qc q8 (alc qa0 aln) aln (b1 func207) func207
def qgk:FIn:=⟨[(.int .i64),(.int .i64),(.fn 207 [] [(.ptr 0 0),(.ptr 1 0)])],[.cells [(.imm [(.int .i64)])],.cells [(.int .i64)]]⟩
def qh3:List FOut:=[⟨(.agg [(.int .i64),(.int .i64),(.imm [.str])]),[.cells [(.imm [(.int .i64)])],.cells [(.int .i64)]],none⟩]
noncomputable def q9K:Tmpl:={ t:=(.any::(.int .i64)::(.fn 207 [] [(.ptr 0 0),(.ptr 1 0)])::.any::.any::.any::(.ptr 2 0)::(.ptr 3 0)::(.int .i64)::qp 4 ((.int .i64)::(.int .i64)::.any::.any::(.int .i64)::(.int .i64)::qp 14 [])),h:=[.cells [(.imm [(.int .i64)])],.cells [(.int .i64)],.cells [(.int .i64),(.int .i64),.nils],.cells [(.int .i64),(.int .i64),(.vec 4)],.vec 32 [.str]] }
noncomputable def q9H:List Out:=[⟨(.exit 2),{ t:=(.any::(.int .i64)::(.fn 207 [] [(.ptr 0 0),(.ptr 1 0)])::.any::.any::.any::(.ptr 2 0)::(.ptr 3 0)::qp 5 ((.int .i64)::(.int .i64)::qp 18 [])),h:=[.cells [(.imm [(.int .i64)])],.cells [(.int .i64)],.cells [(.int .i64),(.int .i64),.nils],.cells [(.int .i64),(.int .i64),(.vec 4)],.vec 32 [.str]] }⟩]
noncomputable def q4Y:=qe [(207,q9 q3l q37 ka)] [(206,f206)] [] 2
noncomputable def uQ:=zr q4Y 206 f206 10 q9K q9H
theorem qm3:qk prog qa q4Y.nimp (qt prog q4Y.iter 206) (qS f206 10) (qh q9K q9H (qf uQ)):=gk q4Y qc q8 (alc q4G aln) aln (b1 func206) func206
noncomputable def qcn:Tmpl:={ t:=(.any::(.int .i64)::(.fn 207 [] [(.ptr 0 0),(.ptr 1 0)])::.any::.any::.any::(.ptr 2 0)::(.ptr 3 0)::qp 5 ((.int .i64)::(.int .i64)::qp 18 [])),h:=[.cells [(.imm [(.int .i64)])],.cells [(.int .i64)],.cells [(.int .i64),(.int .i64),.nils],.cells [(.int .i64),(.int .i64),(.vec 4)],.vec 32 [.str]],prc:=[(7,2,32,[.str])] }
noncomputable def qcd:List Out:=[⟨(.exit 0),{ t:=(qp 6 ((.ptr 2 0)::(.ptr 3 0)::qp 25 [])),h:=[.cells [(.imm [(.int .i64)])],.cells [(.int .i64)],.cells [(.int .i64),(.int .i64),.nils],.cells [(.int .i64),(.int .i64),(.vec 4)],.vec 32 [.str]] }⟩]
noncomputable def q7h:=qe [(207,q9 q3l q37 ka)] [(206,f206)] [((206,10),qh q9K q9H (qf uQ))] 2
noncomputable def q0k:=zr q7h 206 f206 4 qcn qcd
theorem qnw:qk prog qa q7h.nimp (qt prog q7h.iter 206) (qS f206 4) (qh qcn qcd (qf q0k)):=gk q7h qc q8 (alc q4G aln) (alc (lk func206 qm3) aln) (b1 func206) func206
noncomputable def qo1:=qe [(207,q9 q3l q37 ka)] [(206,f206)] [((206,4),qh qcn qcd (qf q0k))] 2
noncomputable def q6o:=qm qo1 206 f206 true qgk qh3
theorem qqq:qI prog qa 206 (q9 qgk qh3 q6o):=sk qo1 qc q8 (alc q4G aln) (alc (lk func206 qnw) aln) (b1 func206) func206
def qmu:FIn:=⟨[(.int .i64),(.int .i64),(.imm [(.int .i64)])],[]⟩
def qlP:List FOut:=[⟨(.tuple [(.agg [(.int .i64),(.int .i64),(.imm [.str])]),(.int .i64)]),[],none⟩]
noncomputable def qsk:=qe [(205,q9 qaU qb5 vw),(206,q9 qgk qh3 q6o),(207,q9 q3l q37 ka)] [(161,f161)] [] 0
noncomputable def qcs:=qm qsk 161 f161 true qmu qlP
theorem qua:qI prog qa 161 (q9 qmu qlP qcs):=sk qsk qc q8 (alc qhq (alc qqq (alc q4G aln))) aln (b1 func161) func161
def q22:FIn:=⟨[.str,.str],[]⟩
def q27:List FOut:=[⟨(.int .i64),[],none⟩]
noncomputable def vk:List PV->TR:=qxv
set_option maxRecDepth 100000 in
theorem q89:qI prog qa 225 (q9 q22 q27 vk):=qzJ lays219 (uq func225 (by kernel_rfl) (by kernel_rfl))
def uI:FIn:=⟨[.str,.str],[]⟩
def uJ:List FOut:=[⟨(.tuple [.str,.str,.bool]),[],none⟩]
noncomputable def q3z:=qe [(225,q9 q22 q27 vk)] [(175,f175)] [] 0
noncomputable def wn:=qm q3z 175 f175 true uI uJ
theorem q9X:qI prog qa 175 (q9 uI uJ wn):=sk q3z qc q8 (alc q89 aln) aln (b1 func175) func175
def qgw:FIn:=⟨[.str,.str],[]⟩
def qhc:List FOut:=[⟨(.tuple [.str,.str,.bool]),[],none⟩]
noncomputable def qnS:=qe [(175,q9 uI uJ wn)] [(128,f128)] [] 0
noncomputable def q74:=qm qnS 128 f128 true qgw qhc
theorem qqw:qI prog qa 128 (q9 qgw qhc q74):=sk qnS qc q8 (alc q9X aln) aln (b1 func128) func128
def q0N:FIn:=⟨[.str],[]⟩
def q10:List FOut:=[⟨(.tuple [.str,.str,.bool]),[],none⟩]
noncomputable def qs0:=qe [(128,q9 qgw qhc q74)] [(90,f90)] [] 0
noncomputable def qZ:=qm qs0 90 f90 true q0N q10
theorem kQ:qI prog qa 90 (q9 q0N q10 qZ):=sk qs0 qc q8 (alc qqw aln) aln (b1 func90) func90
def zM:FIn:=⟨[.str,.str],[]⟩
def zN:List FOut:=[⟨.bool,[],none⟩]
noncomputable def kX:=qe [] [(230,f230)] [] 0
noncomputable def qL:=qm kX 230 f230 true zM zN
theorem u7:qI prog qa 230 (q9 zM zN qL):=sk kX qc q8 aln aln (b1 func230) func230
def vH:FIn:=⟨[.str,.str],[]⟩
def vP:List FOut:=[⟨.str,[],none⟩]
noncomputable def kw:=qe [(230,q9 zM zN qL)] [(182,f182)] [] 0
noncomputable def zc:=qm kw 182 f182 true vH vP
theorem q3V:qI prog qa 182 (q9 vH vP zc):=sk kw qc q8 (alc u7 aln) aln (b1 func182) func182
def yj:FIn:=⟨[.str,.str],[]⟩
def ym:List FOut:=[⟨.str,[],none⟩]
noncomputable def qaj:=qe [(182,q9 vH vP zc)] [(134,f134)] [] 0
noncomputable def zb:=qm qaj 134 f134 true yj ym
theorem q0G:qI prog qa 134 (q9 yj ym zb):=sk qaj qc q8 (alc q3V aln) aln (b1 func134) func134
def qkW:FIn:=⟨[.str,.str],[]⟩
def qkO:List FOut:=[⟨.str,[],none⟩]
noncomputable def q8Q:List PV->TR:=qDR
set_option maxRecDepth 100000 in
theorem qoO:qI prog qa 193 (q9 qkW qkO q8Q):=qC6 lays160 (uq func193 (by kernel_rfl) (by kernel_rfl)) (by kernel_rfl)
def ko:FIn:=⟨[.str],[]⟩
def kd:List FOut:=[⟨(.int .i64),[],none⟩]
noncomputable def qmQ:=qe [(134,q9 yj ym zb),(193,q9 qkW qkO q8Q)] [(141,f141)] [] 0
noncomputable def z7:=qm qmQ 141 f141 true ko kd
theorem uU:qI prog qa 141 (q9 ko kd z7):=sk qmQ qc q8 (alc q0G (alc qoO aln)) aln (b1 func141) func141
def q2s:FIn:=⟨[(.imm [.str])],[]⟩
def q2J:List FOut:=[⟨(.int .i64),[],none⟩]
noncomputable def qgV:Tmpl:={ t:=(qp 6 ((.imm [.str])::(.int .i64)::(.int .i64)::qp 9 [])),h:=[] }
noncomputable def qgB:List Out:=[⟨(.exit 0),{ t:=(qp 18 []),h:=[] }⟩,⟨.ret,{ t:=(.any::.any::(.int .i64)::qp 15 []),h:=[] }⟩]
noncomputable def qba:=qe [(141,q9 ko kd z7)] [(131,f131)] [] 0
noncomputable def q6R:=zr qba 131 f131 3 qgV qgB
theorem qqI:qk prog qa qba.nimp (qt prog qba.iter 131) (qS f131 3) (qh qgV qgB (qf q6R)):=gk qba qc q8 (alc uU aln) aln (b1 func131) func131
noncomputable def qtu:=qe [(141,q9 ko kd z7)] [(131,f131)] [((131,3),qh qgV qgB (qf q6R))] 0
noncomputable def wt:=qm qtu 131 f131 true q2s q2J
theorem q1w:qI prog qa 131 (q9 q2s q2J wt):=sk qtu qc q8 (alc uU aln) (alc (lk func131 qqI) aln) (b1 func131) func131
def q94:FIn:=⟨[.str],[]⟩
def q98:List FOut:=[⟨(.int .i64),[],none⟩]
noncomputable def qq8:=qe [] [(132,f132)] [] 0
noncomputable def yD:=qm qq8 132 f132 true q94 q98
theorem qbv:qI prog qa 132 (q9 q94 q98 yD):=sk qq8 qc q8 aln aln (b1 func132) func132
def qfS:FIn:=⟨[.str,.str],[]⟩
def qfy:List FOut:=[⟨(.int .i64),[],none⟩]
noncomputable def q3g:List PV->TR:=qr6
set_option maxRecDepth 100000 in
theorem qkw:qI prog qa 181 (q9 qfS qfy q3g):=qvM lays106 (uq func181 (by kernel_rfl) (by kernel_rfl))
def qh9:FIn:=⟨[.str,.str],[]⟩
def qgX:List FOut:=[⟨(.int .i64),[],none⟩]
noncomputable def qoe:=qe [(181,q9 qfS qfy q3g)] [(133,f133)] [] 0
noncomputable def q6X:=qm qoe 133 f133 true qh9 qgX
theorem qqS:qI prog qa 133 (q9 qh9 qgX q6X):=sk qoe qc q8 (alc qkw aln) aln (b1 func133) func133
def q77:FIn:=⟨[.str,.str],[]⟩
def q6q:List FOut:=[⟨(.tuple [(.int .i64),(.int .i64)]),[],none⟩]
noncomputable def qij:=qe [(131,q9 q2s q2J wt),(132,q9 q94 q98 yD),(133,q9 qh9 qgX q6X),(134,q9 yj ym zb)] [(92,f92)] [] 0
noncomputable def u9:=qm qij 92 f92 true q77 q6q
theorem qdI:qI prog qa 92 (q9 q77 q6q u9):=sk qij qc q8 (alc q1w (alc qbv (alc qqS (alc q0G aln)))) aln (b1 func92) func92
def qeB:FIn:=⟨[.str],[]⟩
def qeA:List FOut:=[⟨(.tuple [(.int .i64),.any]),[],none⟩]
noncomputable def jx:List PV->TR:=qG8
set_option maxRecDepth 100000 in
theorem qg0:qI prog qa 226 (q9 qeB qeA jx):=qCQ lays172 (uq func226 (by kernel_rfl) (by kernel_rfl))
def vU:FIn:=⟨[(.ptr 0 0)],[.big [.bool,(.int .i64)] .i64 232]⟩
def vT:List FOut:=[⟨(.ptr 0 0),[.big [.bool,(.int .i64)] .i64 232],none⟩]
noncomputable def q1U:Tmpl:={ t:=((.ptr 0 0)::qp 28 []),h:=[.big [.bool,(.int .i64)] .i64 232] }
noncomputable def q1W:List Out:=[⟨(.exit 0),{ t:=((.ptr 0 0)::qp 28 []),h:=[.big [.bool,(.int .i64)] .i64 232] }⟩]
noncomputable def uB:=qe [] [(227,f227)] [] 1
noncomputable def j6:=zr uB 227 f227 2 q1U q1W
theorem qes:qk prog qa uB.nimp (qt prog uB.iter 227) (qS f227 2) (qh q1U q1W (qf j6)):=gk uB qc q8 aln aln (b1 func227) func227
noncomputable def qak:=qe [] [(227,f227)] [((227,2),qh q1U q1W (qf j6))] 1
noncomputable def qT:=qm qak 227 f227 false vU vT
theorem yv:qI prog qa 227 (q9 vU vT qT):=qpC (E:=qak) qc ⟨qdL q8,⟨aln,aln⟩,(alc (lk func227 qes) aln),(b1 func227)⟩ func227 (by kernel_rfl) (by kernel_rfl) (fun _=>rfl)
def q5w:FIn:=⟨[.str],[]⟩
def q5P:List FOut:=[⟨(.ptr 0 0),[.big [.bool,(.int .i64)] .i64 232],none⟩]
noncomputable def qf5:Tmpl:={ t:=(.any::.any::.any::.str::(.ptr 0 0)::qp 43 []),h:=[.big [.bool,(.int .i64)] .i64 232] }
noncomputable def qf0:List Out:=[⟨(.exit 0),{ t:=(qp 4 ((.ptr 0 0)::qp 43 [])),h:=[.big [.bool,(.int .i64)] .i64 232] }⟩]
noncomputable def qgl:List (FuncId×zj):=[(134,q9 yj ym zb),(226,q9 qeB qeA jx),(227,q9 vU vT qT)]
theorem qld:∀x,x∈qgl->qI prog qa x.1 x.2:=(alc q0G (alc qg0 (alc yv aln)))
noncomputable def q8L:=qe qgl [(178,f178)] [] 0
noncomputable def q43:=zr q8L 178 f178 5 qf5 qf0
theorem qoN:qk prog qa q8L.nimp (qt prog q8L.iter 178) (qS f178 5) (qh qf5 qf0 (qf q43)):=gk q8L qc q8 qld aln (b1 func178) func178
noncomputable def qq5:=qe qgl [(178,f178)] [((178,5),qh qf5 qf0 (qf q43))] 0
noncomputable def wy:=qm qq5 178 f178 false q5w q5P
theorem q7a:qI prog qa 178 (q9 q5w q5P wy):=qpC (E:=qq5) qc ⟨qdL q8,⟨qld,aln⟩,(alc (lk func178 qoN) aln),(b1 func178)⟩ func178 (by kernel_rfl) (by kernel_rfl) (fun _=>rfl)
def jU:FIn:=⟨[(.ptr 0 0),(.ptr 1 0),(.int .i64),(.int .i64)],[.big [.bool,(.int .i64)] .i64 232,.big [.bool,(.int .i64)] .i64 232]⟩
def jS:List FOut:=[⟨(.tuple []),[.big [.bool,(.int .i64)] .i64 232,.big [.bool,(.int .i64)] .i64 232],none⟩]
noncomputable def q3H:Tmpl:={ t:=((.ptr 0 0)::(.ptr 1 0)::(.int .i64)::(.int .i64)::qp 4 ((.int .i64)::(.int .i64)::qp 73 [])),h:=[.big [.bool,(.int .i64)] .i64 232,.big [.bool,(.int .i64)] .i64 232] }
noncomputable def q3C:List Out:=[⟨(.exit 0),{ t:=((.ptr 0 0)::qp 82 []),h:=[.big [.bool,(.int .i64)] .i64 232,.big [.bool,(.int .i64)] .i64 232] }⟩]
noncomputable def q00:=qe [(227,q9 vU vT qT)] [(228,f228)] [] 2
noncomputable def vS:=zr q00 228 f228 3 q3H q3C
theorem qgp:qk prog qa q00.nimp (qt prog q00.iter 228) (qS f228 3) (qh q3H q3C (qf vS)):=gk q00 qc q8 (alc yv aln) aln (b1 func228) func228
noncomputable def qdh:=qe [(227,q9 vU vT qT)] [(228,f228)] [((228,3),qh q3H q3C (qf vS))] 2
noncomputable def qW:=qm qdh 228 f228 true jU jS
theorem k9:qI prog qa 228 (q9 jU jS qW):=sk qdh qc q8 (alc yv aln) (alc (lk func228 qgp) aln) (b1 func228) func228
def q11:FIn:=⟨[(.ptr 0 0),(.ptr 1 0)],[.big [.bool,(.int .i64)] .i64 232,.big [.bool,(.int .i64)] .i64 232]⟩
def q0Z:List FOut:=[⟨(.int .i64),[.big [.bool,(.int .i64)] .i64 232,.big [.bool,(.int .i64)] .i64 232],none⟩]
noncomputable def q2F:Tmpl:={ t:=((.ptr 0 0)::(.ptr 1 0)::.any::.any::.any::(.int .i64)::qp 53 []),h:=[.big [.bool,(.int .i64)] .i64 232,.big [.bool,(.int .i64)] .i64 232] }
noncomputable def q2I:List Out:=[⟨(.exit 0),{ t:=(qp 59 []),h:=[.big [.bool,(.int .i64)] .i64 232,.big [.bool,(.int .i64)] .i64 232] }⟩,⟨.ret,{ t:=(qp 4 ((.int .i64)::qp 54 [])),h:=[.big [.bool,(.int .i64)] .i64 232,.big [.bool,(.int .i64)] .i64 232] }⟩]
noncomputable def kr:=qe [] [(243,f243)] [] 2
noncomputable def jD:=zr kr 243 f243 6 q2F q2I
theorem qfs:qk prog qa kr.nimp (qt prog kr.iter 243) (qS f243 6) (qh q2F q2I (qf jD)):=gk kr qc q8 aln aln (b1 func243) func243
noncomputable def qbP:=qe [] [(243,f243)] [((243,6),qh q2F q2I (qf jD))] 2
noncomputable def wU:=qm qbP 243 f243 true q11 q0Z
theorem q7H:qI prog qa 243 (q9 q11 q0Z wU):=sk qbP qc q8 aln (alc (lk func243 qfs) aln) (b1 func243) func243
def q9Z:FIn:=⟨[(.ptr 0 0),(.ptr 1 0)],[.big [.bool,(.int .i64)] .i64 232,.big [.bool,(.int .i64)] .i64 232]⟩
def q9V:List FOut:=[⟨(.int .i64),[.big [.bool,(.int .i64)] .i64 232,.big [.bool,(.int .i64)] .i64 232],none⟩]
noncomputable def qhf:=qe [] [(244,f244),(273,f273)] [] 2
noncomputable def q19:=qm qhf 244 f244 true q9Z q9V
theorem qmE:qI prog qa 244 (q9 q9Z q9V q19):=sk qhf qc q8 aln aln (alc (bk func244) (alc (bk func273) aln)) func244
def q6D:FIn:=⟨[(.ptr 0 0),(.ptr 1 0)],[.big [.bool,(.int .i64)] .i64 232,.big [.bool,(.int .i64)] .i64 232]⟩
def q7e:List FOut:=[⟨(.tuple [(.ptr 2 0),(.ptr 3 0)]),[.big [.bool,(.int .i64)] .i64 232,.big [.bool,(.int .i64)] .i64 232,.big [.bool,(.int .i64)] .i64 232,.big [.bool,(.int .i64)] .i64 232],none⟩]
noncomputable def q66:Tmpl:={ t:=((.ptr 0 0)::(.ptr 1 0)::qp 4 ((.ptr 2 0)::(.ptr 3 0)::(.int .i64)::(.int .i64)::qp 80 [])),h:=[.big [.bool,(.int .i64)] .i64 232,.big [.bool,(.int .i64)] .i64 232,.big [.bool,(.int .i64)] .i64 232,.big [.bool,(.int .i64)] .i64 232] }
noncomputable def q75:List Out:=[⟨(.exit 2),{ t:=((.ptr 0 0)::(.ptr 1 0)::qp 4 ((.ptr 2 0)::(.ptr 3 0)::(.int .i64)::(.int .i64)::qp 80 [])),h:=[.big [.bool,(.int .i64)] .i64 232,.big [.bool,(.int .i64)] .i64 232,.big [.bool,(.int .i64)] .i64 232,.big [.bool,(.int .i64)] .i64 232] }⟩]
noncomputable def q50:List (FuncId×zj):=[(227,q9 vU vT qT),(228,q9 jU jS qW),(243,q9 q11 q0Z wU),(244,q9 q9Z q9V q19)]
theorem q8n:∀x,x∈q50->qI prog qa x.1 x.2:=(alc yv (alc k9 (alc q7H (alc qmE aln))))
noncomputable def q2c:=qe q50 [(195,f195)] [] 2
noncomputable def jT:=zr q2c 195 f195 14 q66 q75
theorem qjF:qk prog qa q2c.nimp (qt prog q2c.iter 195) (qS f195 14) (qh q66 q75 (qf jT)):=gk q2c qc q8 q8n aln (b1 func195) func195
noncomputable def q7N:Tmpl:={ t:=((.ptr 0 0)::(.ptr 1 0)::qp 4 ((.ptr 2 0)::(.ptr 3 0)::(.int .i64)::qp 81 [])),h:=[.big [.bool,(.int .i64)] .i64 232,.big [.bool,(.int .i64)] .i64 232,.big [.bool,(.int .i64)] .i64 232,.big [.bool,(.int .i64)] .i64 232] }
noncomputable def q8a:List Out:=[⟨(.exit 0),{ t:=(qp 6 ((.ptr 2 0)::(.ptr 3 0)::qp 82 [])),h:=[.big [.bool,(.int .i64)] .i64 232,.big [.bool,(.int .i64)] .i64 232,.big [.bool,(.int .i64)] .i64 232,.big [.bool,(.int .i64)] .i64 232] }⟩]
noncomputable def q39:=qe q50 [(195,f195)] [((195,14),qh q66 q75 (qf jT))] 2
noncomputable def q0i:=zr q39 195 f195 4 q7N q8a
theorem qkz:qk prog qa q39.nimp (qt prog q39.iter 195) (qS f195 4) (qh q7N q8a (qf q0i)):=gk q39 qc q8 q8n (alc (lk func195 qjF) aln) (b1 func195) func195
noncomputable def qim:=qe q50 [(195,f195)] [((195,4),qh q7N q8a (qf q0i))] 2
noncomputable def ui:=qm qim 195 f195 false q6D q7e
theorem qdn:qI prog qa 195 (q9 q6D q7e ui):=qpC (E:=qim) qc ⟨qdL q8,⟨q8n,aln⟩,(alc (lk func195 qkz) aln),(b1 func195)⟩ func195 (by kernel_rfl) (by kernel_rfl) (fun _=>rfl)
def q32:FIn:=⟨[(.ptr 0 0)],[.big [.bool,(.int .i64)] .i64 232]⟩
def q38:List FOut:=[⟨.str,[.big [.bool,(.int .i64)] .i64 232],none⟩]
noncomputable def zl:List PV->TR:=qEp
theorem q3F:qI prog qa 196 (q9 q32 q38 zl):=qCX (by unfold qa;exact qMB)
def qbT:FIn:=⟨[.str,.str],[]⟩
def qc2:List FOut:=[⟨(.tuple [.str,(.int .i64)]),[],none⟩]
noncomputable def qe9:Tmpl:={ t:=(qp 9 ((.int .i64)::(.int .i64)::qp 61 [])),h:=[] }
noncomputable def qeJ:List Out:=[⟨(.exit 2),{ t:=(qp 9 ((.int .i64)::qp 62 [])),h:=[] }⟩]
noncomputable def qdz:List (FuncId×zj):=[(131,q9 q2s q2J wt),(178,q9 q5w q5P wy),(194,q9 qbp qbk wE),(195,q9 q6D q7e ui),(196,q9 q32 q38 zl)]
theorem qh0:∀x,x∈qdz->qI prog qa x.1 x.2:=(alc q1w (alc q7a (alc qb3 (alc qdn (alc q3F aln)))))
noncomputable def q8A:=qe qdz [(142,f142)] [] 0
noncomputable def q1x:=zr q8A 142 f142 14 qe9 qeJ
theorem qp6:qk prog qa q8A.nimp (qt prog q8A.iter 142) (qS f142 14) (qh qe9 qeJ (qf q1x)):=gk q8A qc q8 qh0 aln (b1 func142) func142
noncomputable def qgr:Tmpl:={ t:=(qp 7 ((.ptr 1 0)::(.ptr 2 0)::qp 63 [])),h:=[.dead,.big [.bool,(.int .i64)] .i64 232,.big [.bool,(.int .i64)] .i64 232],sw:=[(7,1),(8,2)],swn:=0 }
noncomputable def qgT:List Out:=[⟨(.exit 0),{ t:=(qp 7 ((.ptr 1 0)::qp 64 [])),h:=[.dead,.big [.bool,(.int .i64)] .i64 232] }⟩,⟨.ret,{ t:=(qp 4 (.str::(.int .i64)::qp 66 [])),h:=[] }⟩]
noncomputable def qar:=qe qdz [(142,f142)] [((142,14),qh qe9 qeJ (qf q1x))] 0
noncomputable def q7c:=zr qar 142 f142 7 qgr qgT
theorem qqv:qk prog qa qar.nimp (qt prog qar.iter 142) (qS f142 7) (qh qgr qgT (qf q7c)):=gk qar qc q8 qh0 (alc (lk func142 qp6) aln) (b1 func142) func142
noncomputable def qsR:=qe qdz [(142,f142)] [((142,7),qh qgr qgT (qf q7c))] 0
noncomputable def q2l:=qm qsR 142 f142 true qbT qc2
theorem qdT:qI prog qa 142 (q9 qbT qc2 q2l):=sk qsR qc q8 qh0 (alc (lk func142 qqv) aln) (b1 func142) func142
def kf:FIn:=⟨[.str],[]⟩
def kv:List FOut:=[⟨(.int .i64),[],none⟩]
noncomputable def qnY:=qe [(90,q9 q0N q10 qZ),(92,q9 q77 q6q u9),(141,q9 ko kd z7),(142,q9 qbT qc2 q2l)] [(106,f106)] [] 0
noncomputable def zd:=qm qnY 106 f106 true kf kv
theorem uV:qI prog qa 106 (q9 kf kv zd):=sk qnY qc q8 (alc kQ (alc qdI (alc uU (alc qdT aln)))) aln (b1 func106) func106
def q4F:FIn:=⟨[(.imm [.str])],[]⟩
def q4Q:List FOut:=[⟨(.int .i64),[],none⟩]
noncomputable def q5Z:Tmpl:={ t:=(qp 6 ((.imm [.str])::(.int .i64)::(.int .i64)::qp 9 [])),h:=[] }
noncomputable def q6I:List Out:=[⟨(.exit 0),{ t:=(qp 18 []),h:=[] }⟩,⟨.ret,{ t:=(.any::.any::(.int .i64)::qp 15 []),h:=[] }⟩]
noncomputable def q21:=qe [(106,q9 kf kv zd)] [(213,f213)] [] 0
noncomputable def jX:=zr q21 213 f213 3 q5Z q6I
theorem qj9:qk prog qa q21.nimp (qt prog q21.iter 213) (qS f213 3) (qh q5Z q6I (qf jX)):=gk q21 qc q8 (alc uV aln) aln (b1 func213) func213
noncomputable def qhG:=qe [(106,q9 kf kv zd)] [(213,f213)] [((213,3),qh q5Z q6I (qf jX))] 0
noncomputable def j3:=qm qhG 213 f213 true q4F q4Q
theorem qc6:qI prog qa 213 (q9 q4F q4Q j3):=sk qhG qc q8 (alc uV aln) (alc (lk func213 qj9) aln) (b1 func213) func213
def qdZ:FIn:=⟨[(.agg [(.int .i64),(.int .i64),(.imm [.str])])],[]⟩
def qec:List FOut:=[⟨(.int .i64),[],none⟩]
noncomputable def qls:=qe [(205,q9 qaU qb5 vw),(213,q9 q4F q4Q j3)] [(208,f208)] [] 0
noncomputable def jp:=qm qls 208 f208 true qdZ qec
theorem qfh:qI prog qa 208 (q9 qdZ qec jp):=sk qls qc q8 (alc qhq (alc qc6 aln)) aln (b1 func208) func208
def q5Y:FIn:=⟨[.str,.str],[]⟩
def q6c:List FOut:=[⟨(.tuple [(.int .i64),(.int .i64),.bool]),[],none⟩]
noncomputable def qo5:=qe [(226,q9 qeB qeA jx)] [(176,f176)] [] 0
noncomputable def yu:=qm qo5 176 f176 true q5Y q6c
theorem qaf:qI prog qa 176 (q9 q5Y q6c yu):=sk qo5 qc q8 (alc qg0 aln) aln (b1 func176) func176
def q8U:FIn:=⟨[(.int .i64)],[]⟩
def q8z:List FOut:=[⟨(.tuple [.str,(.int .i64)]),[],none⟩]
noncomputable def qkG:=qe [(194,q9 qbp qbk wE)] [(177,f177)] [] 0
noncomputable def kT:=qm qkG 177 f177 true q8U q8z
theorem qfR:qI prog qa 177 (q9 q8U q8z kT):=sk qkG qc q8 (alc qb3 aln) aln (b1 func177) func177
def q7b:FIn:=⟨[(.ptr 0 0),(.ptr 1 0)],[.big [.bool,(.int .i64)] .i64 232,.big [.bool,(.int .i64)] .i64 232]⟩
def q67:List FOut:=[⟨(.ptr 2 0),[.big [.bool,(.int .i64)] .i64 232,.big [.bool,(.int .i64)] .i64 232,.big [.bool,(.int .i64)] .i64 232],none⟩]
noncomputable def q3N:Tmpl:={ t:=((.ptr 0 0)::(.ptr 1 0)::.any::.any::.any::(.ptr 2 0)::qp 15 ((.int .i64)::(.int .i64)::qp 14 [])),h:=[.big [.bool,(.int .i64)] .i64 232,.big [.bool,(.int .i64)] .i64 232,.big [.bool,(.int .i64)] .i64 232] }
noncomputable def q3I:List Out:=[⟨(.exit 0),{ t:=(qp 5 ((.ptr 2 0)::qp 31 [])),h:=[.big [.bool,(.int .i64)] .i64 232,.big [.bool,(.int .i64)] .i64 232,.big [.bool,(.int .i64)] .i64 232] }⟩]
noncomputable def q03:=qe [(228,q9 jU jS qW)] [(179,f179)] [] 2
noncomputable def yl:=zr q03 179 f179 4 q3N q3I
theorem qgt:qk prog qa q03.nimp (qt prog q03.iter 179) (qS f179 4) (qh q3N q3I (qf yl)):=gk q03 qc q8 (alc k9 aln) aln (b1 func179) func179
noncomputable def qdM:=qe [(228,q9 jU jS qW)] [(179,f179)] [((179,4),qh q3N q3I (qf yl))] 2
noncomputable def kn:=qm qdM 179 f179 false q7b q67
theorem qjO:qI prog qa 179 (q9 q7b q67 kn):=qpC (E:=qdM) qc ⟨qdL q8,⟨(alc k9 aln),aln⟩,(alc (lk func179 qgt) aln),(b1 func179)⟩ func179 (by kernel_rfl) (by kernel_rfl) (fun _=>rfl)
def q04:FIn:=⟨[(.ptr 0 0)],[.big [.bool,(.int .i64)] .i64 232]⟩
def q05:List FOut:=[⟨(.tuple [.str,(.int .i64)]),[.big [.bool,(.int .i64)] .i64 232],none⟩]
noncomputable def qal:=qe [(141,q9 ko kd z7),(196,q9 q32 q38 zl)] [(180,f180)] [] 1
noncomputable def wo:=qm qal 180 f180 true q04 q05
theorem q7v:qI prog qa 180 (q9 q04 q05 wo):=sk qal qc q8 (alc uU (alc q3F aln)) aln (b1 func180) func180
def qbW:FIn:=⟨[.str,.str],[]⟩
def qcI:List FOut:=[⟨(.tuple [.str,(.int .i64)]),[],none⟩]
noncomputable def qrZ:=qe [(131,q9 q2s q2J wt),(176,q9 q5Y q6c yu),(177,q9 q8U q8z kT),(178,q9 q5w q5P wy),(179,q9 q7b q67 kn),(180,q9 q04 q05 wo)] [(130,f130)] [] 0
noncomputable def q5q:=qm qrZ 130 f130 true qbW qcI
theorem qe5:qI prog qa 130 (q9 qbW qcI q5q):=sk qrZ qc q8 (alc q1w (alc qaf (alc qfR (alc q7a (alc qjO (alc q7v aln)))))) aln (b1 func130) func130
def jo:FIn:=⟨[(.ptr 0 0),(.fn 130 [] []),.str,.str],[.cells [(.int .i64)]]⟩
def jt:List FOut:=[⟨.str,[.cells [(.int .i64)]],none⟩]
noncomputable def q40:=qe [(130,q9 qbW qcI q5q)] [(129,f129)] [] 1
noncomputable def zx:=qm q40 129 f129 true jo jt
theorem q2b:qI prog qa 129 (q9 jo jt zx):=sk q40 qc q8 (alc qe5 aln) aln (b1 func129) func129
def yi:FIn:=⟨[(.ptr 0 0),(.imm [.str])],[.cells [(.int .i64)]]⟩
def yd:List FOut:=[⟨.str,[.cells [(.int .i64)]],none⟩]
noncomputable def q6N:Tmpl:={ t:=(qp 5 (.str::(.fn 129 [(.ptr 0 0)] [])::qp 4 ((.imm [.str])::(.int .i64)::(.int .i64)::qp 9 []))),h:=[.cells [(.int .i64)]] }
noncomputable def q6B:List Out:=[⟨(.exit 0),{ t:=(qp 5 (.str::qp 17 [])),h:=[.cells [(.int .i64)]] }⟩]
noncomputable def q2d:=qe [(130,q9 qbW qcI q5q),(129,q9 jo jt zx)] [(91,f91)] [] 1
noncomputable def jN:=zr q2d 91 f91 4 q6N q6B
theorem qjL:qk prog qa q2d.nimp (qt prog q2d.iter 91) (qS f91 4) (qh q6N q6B (qf jN)):=gk q2d qc q8 (alc qe5 (alc q2b aln)) aln (b1 func91) func91
noncomputable def qhh:=qe [(130,q9 qbW qcI q5q),(129,q9 jo jt zx)] [(91,f91)] [((91,4),qh q6N q6B (qf jN))] 1
noncomputable def qw:=qm qhh 91 f91 true yi yd
theorem u5:qI prog qa 91 (q9 yi yd qw):=sk qhh qc q8 (alc qe5 (alc q2b aln)) (alc (lk func91 qjL) aln) (b1 func91) func91
def qaE:FIn:=⟨[(.ptr 0 0),.str,.str,.str,.str],[.cells [(.int .i64)]]⟩
def qaM:List FOut:=[⟨(.tuple [.str,.str]),[.cells [(.int .i64)]],none⟩]
noncomputable def qoa:=qe [(91,q9 yi yd qw)] [(259,f259)] [] 1
noncomputable def q2U:=qm qoa 259 f259 true qaE qaM
theorem qhv:qI prog qa 259 (q9 qaE qaM q2U):=sk qoa qc q8 (alc u5 aln) aln (b1 func259) func259
def vr:FIn:=⟨[(.imm [.str])],[]⟩
def vt:List FOut:=[⟨(.int .i64),[],none⟩]
noncomputable def q9P:Tmpl:={ t:=(qp 6 ((.imm [.str])::(.int .i64)::(.int .i64)::qp 9 [])),h:=[] }
noncomputable def q9R:List Out:=[⟨(.exit 0),{ t:=(qp 18 []),h:=[] }⟩,⟨.ret,{ t:=(.any::.any::(.int .i64)::qp 15 []),h:=[] }⟩]
noncomputable def q4L:=qe [(106,q9 kf kv zd)] [(89,f89)] [] 0
noncomputable def q1l:=zr q4L 89 f89 3 q9P q9R
theorem qlE:qk prog qa q4L.nimp (qt prog q4L.iter 89) (qS f89 3) (qh q9P q9R (qf q1l)):=gk q4L qc q8 (alc uV aln) aln (b1 func89) func89
noncomputable def qkE:=qe [(106,q9 kf kv zd)] [(89,f89)] [((89,3),qh q9P q9R (qf q1l))] 0
noncomputable def qG:=qm qkE 89 f89 true vr vt
theorem vd:qI prog qa 89 (q9 vr vt qG):=sk qkE qc q8 (alc uV aln) (alc (lk func89 qlE) aln) (b1 func89) func89
def q3o:FIn:=⟨[(.ptr 0 0),(.ptr 1 0)],[.big [.bool,(.int .i64)] .i64 232,.big [.bool,(.int .i64)] .i64 232]⟩
def q3b:List FOut:=[⟨(.tuple []),[.big [.bool,(.int .i64)] .i64 232,.big [.bool,(.int .i64)] .i64 232],none⟩]
noncomputable def qfc:=qe [(228,q9 jU jS qW),(243,q9 q11 q0Z wU)] [(307,f307)] [] 2
noncomputable def wY:=qm qfc 307 f307 true q3o q3b
theorem qam:qI prog qa 307 (q9 q3o q3b wY):=sk qfc qc q8 (alc k9 (alc q7H aln)) aln (b1 func307) func307
def qmo:FIn:=⟨[(.imm [.str])],[]⟩
def qmF:List FOut:=[⟨(.tuple [.str,(.int .i64)]),[],none⟩]
noncomputable def qgn:Tmpl:={ t:=(qp 4 ((.ptr 0 0)::qp 4 ((.imm [.str])::(.int .i64)::(.int .i64)::qp 12 []))),h:=[.big [.bool,(.int .i64)] .i64 232] }
noncomputable def qgC:List Out:=[⟨(.exit 0),{ t:=(qp 4 ((.ptr 0 0)::qp 19 [])),h:=[.big [.bool,(.int .i64)] .i64 232] }⟩]
noncomputable def qiN:List (FuncId×zj):=[(178,q9 q5w q5P wy),(180,q9 q04 q05 wo),(307,q9 q3o q3b wY)]
theorem qnv:∀x,x∈qiN->qI prog qa x.1 x.2:=(alc q7a (alc q7v (alc qam aln)))
noncomputable def qat:=qe qiN [(296,f296)] [] 0
noncomputable def q6b:=zr qat 296 f296 4 qgn qgC
theorem qqU:qk prog qa qat.nimp (qt prog qat.iter 296) (qS f296 4) (qh qgn qgC (qf q6b)):=gk qat qc q8 qnv aln (b1 func296) func296
noncomputable def qsZ:=qe qiN [(296,f296)] [((296,4),qh qgn qgC (qf q6b))] 0
noncomputable def qcG:=qm qsZ 296 f296 true qmo qmF
theorem qu6:qI prog qa 296 (q9 qmo qmF qcG):=sk qsZ qc q8 qnv (alc (lk func296 qqU) aln) (b1 func296) func296
def qcf:FIn:=⟨[.str,.str],[]⟩
def qbI:List FOut:=[⟨(.tuple [.str,(.int .i64)]),[],none⟩]
noncomputable def qrP:=qe [(131,q9 q2s q2J wt),(176,q9 q5Y q6c yu),(177,q9 q8U q8z kT),(296,q9 qmo qmF qcG)] [(279,f279)] [] 0
noncomputable def q2k:=qm qrP 279 f279 true qcf qbI
theorem qeZ:qI prog qa 279 (q9 qcf qbI q2k):=sk qrP qc q8 (alc q1w (alc qaf (alc qfR (alc qu6 aln)))) aln (b1 func279) func279
def q9r:FIn:=⟨[.str],[]⟩
def q9u:List FOut:=[⟨.str,[],none⟩]
noncomputable def qhC:=qe [(132,q9 q94 q98 yD)] [(283,f283)] [] 0
noncomputable def q1c:=qm qhC 283 f283 true q9r q9u
theorem qml:qI prog qa 283 (q9 q9r q9u q1c):=sk qhC qc q8 (alc qbv aln) aln (b1 func283) func283
def qgF:FIn:=⟨[.str,.str],[]⟩
def qgS:List FOut:=[⟨(.tuple [.str,(.int .i64)]),[],none⟩]
noncomputable def qtm:=qe [(131,q9 q2s q2J wt),(279,q9 qcf qbI q2k),(283,q9 q9r q9u q1c)] [(258,f258)] [] 0
noncomputable def q84:=qm qtm 258 f258 true qgF qgS
theorem ql5:qI prog qa 258 (q9 qgF qgS q84):=sk qtm qc q8 (alc q1w (alc qeZ (alc qml aln))) aln (b1 func258) func258
def kP:FIn:=⟨[(.ptr 0 0),(.fn 258 [] []),.str,.str],[.cells [(.int .i64)]]⟩
def kB:List FOut:=[⟨.str,[.cells [(.int .i64)]],none⟩]
noncomputable def q42:=qe [(258,q9 qgF qgS q84)] [(129,f129)] [] 1
noncomputable def wI:=qm q42 129 f129 true kP kB
theorem qas:qI prog qa 129 (q9 kP kB wI):=sk q42 qc q8 (alc ql5 aln) aln (b1 func129) func129
def q4N:FIn:=⟨[(.ptr 0 0),.str,.str],[.cells [(.int .i64)]]⟩
def q4T:List FOut:=[⟨.str,[.cells [(.int .i64)]],none⟩]
noncomputable def qhN:=qe [(258,q9 qgF qgS q84),(129,q9 kP kB wI)] [(220,f220)] [] 1
noncomputable def vZ:=qm qhN 220 f220 true q4N q4T
theorem qca:qI prog qa 220 (q9 q4N q4T vZ):=sk qhN qc q8 (alc ql5 (alc qas aln)) aln (b1 func220) func220
def q59:FIn:=⟨[.str,.str],[]⟩
def q5k:List FOut:=[⟨.bool,[],none⟩]
noncomputable def qcc:=qe [(230,q9 zM zN qL)] [(280,f280)] [] 0
noncomputable def ud:=qm qcc 280 f280 true q59 q5k
theorem qi2:qI prog qa 280 (q9 q59 q5k ud):=sk qcc qc q8 (alc u7 aln) aln (b1 func280) func280
def qez:FIn:=⟨[.str,.str],[]⟩
def qeH:List FOut:=[⟨.str,[],none⟩]
noncomputable def qkS:=qe [] [(281,f281)] [] 0
noncomputable def q1B:=qm qkS 281 f281 true qez qeH
theorem qpE:qI prog qa 281 (q9 qez qeH q1B):=sk qkS qc q8 aln aln (b1 func281) func281
def qdU:FIn:=⟨[.str,.str],[]⟩
def qdN:List FOut:=[⟨(.tuple [.str,.str,(.int .i64)]),[],none⟩]
noncomputable def qlx:=qe [(131,q9 q2s q2J wt),(176,q9 q5Y q6c yu),(178,q9 q5w q5P wy),(194,q9 qbp qbk wE),(195,q9 q6D q7e ui),(196,q9 q32 q38 zl),(307,q9 q3o q3b wY)] [(297,f297)] [] 0
noncomputable def q4s:=qm qlx 297 f297 true qdU qdN
theorem qoG:qI prog qa 297 (q9 qdU qdN q4s):=sk qlx qc q8 (alc q1w (alc qaf (alc q7a (alc qb3 (alc qdn (alc q3F (alc qam aln))))))) aln (b1 func297) func297
def qh6:FIn:=⟨[.str,.str],[]⟩
def qgx:List FOut:=[⟨(.tuple [.str,(.int .i64)]),[],none⟩]
noncomputable def qsA:=qe [(141,q9 ko kd z7),(297,q9 qdU qdN q4s)] [(282,f282)] [] 0
noncomputable def q80:=qm qsA 282 f282 true qh6 qgx
theorem qlh:qI prog qa 282 (q9 qh6 qgx q80):=sk qsA qc q8 (alc uU (alc qoG aln)) aln (b1 func282) func282
def jv:FIn:=⟨[(.ptr 0 0),(.fn 142 [] []),.str,.str],[.cells [(.int .i64)]]⟩
def kE:List FOut:=[⟨.str,[.cells [(.int .i64)]],none⟩]
noncomputable def q4o:=qe [(142,q9 qbT qc2 q2l)] [(129,f129)] [] 1
noncomputable def wR:=qm q4o 129 f129 true jv kE
theorem qaO:qI prog qa 129 (q9 jv kE wR):=sk q4o qc q8 (alc qdT aln) aln (b1 func129) func129
def jr:FIn:=⟨[(.ptr 0 0),(.fn 282 [] []),.str,.str],[.cells [(.int .i64)]]⟩
def kN:List FOut:=[⟨.str,[.cells [(.int .i64)]],none⟩]
noncomputable def q48:=qe [(282,q9 qh6 qgx q80)] [(129,f129)] [] 1
noncomputable def qU:=qm q48 129 f129 true jr kN
theorem qb6:qI prog qa 129 (q9 jr kN qU):=sk q48 qc q8 (alc qlh aln) aln (b1 func129) func129
def jj:FIn:=⟨[(.ptr 0 0),.str,.str],[.cells [(.int .i64)]]⟩
def je:List FOut:=[⟨.str,[.cells [(.int .i64)]],none⟩]
noncomputable def qce:=qe [(142,q9 qbT qc2 q2l),(220,q9 q4N q4T vZ),(280,q9 q59 q5k ud),(281,q9 qez qeH q1B),(282,q9 qh6 qgx q80),(129,qLF [(jv,q9 jv kE wR),(jr,q9 jr kN qU)])] [(257,f257)] [] 1
noncomputable def qX:=qm qce 257 f257 true jj je
theorem uu:qI prog qa 257 (q9 jj je qX):=sk qce qc q8 (alc qdT (alc qca (alc qi2 (alc qpE (alc qlh (alc (qH9 (uq func129 (by kernel_rfl) (by kernel_rfl)) (qAZ qaO (qAZ qb6 qJ7))) aln)))))) aln (b1 func257) func257
def q0y:FIn:=⟨[.str,.str,(.fn 259 [] [])],[]⟩
def q0j:List FOut:=[⟨(.tuple [.str,(.int .i64)]),[],none⟩]
noncomputable def q5x:=qe [(89,q9 vr vt qG),(90,q9 q0N q10 qZ),(257,q9 jj je qX),(259,q9 qaE qaM q2U)] [(218,f218)] [] 0
noncomputable def wX:=qm q5x 218 f218 true q0y q0j
theorem qbC:qI prog qa 218 (q9 q0y q0j wX):=sk q5x qc q8 (alc vd (alc kQ (alc uu (alc qhv aln)))) aln (b1 func218) func218
def qci:FIn:=⟨[.str,.str],[]⟩
def qbM:List FOut:=[⟨(.tuple [.str,(.int .i64)]),[],none⟩]
noncomputable def qtk:=qe [(259,q9 qaE qaM q2U),(218,q9 q0y q0j wX)] [(221,f221)] [] 0
noncomputable def yh:=qm qtk 221 f221 true qci qbM
theorem q8y:qI prog qa 221 (q9 qci qbM yh):=sk qtk qc q8 (alc qhv (alc qbC aln)) aln (b1 func221) func221
def qaB:FIn:=⟨[(.ptr 0 0),.str,.str,.str,.str],[.cells [(.int .i64)]]⟩
def qbf:List FOut:=[⟨(.tuple [.str,.str]),[.cells [(.int .i64)]],none⟩]
noncomputable def qmZ:=qe [(91,q9 yi yd qw)] [(267,f267)] [] 1
noncomputable def q3p:=qm qmZ 267 f267 true qaB qbf
theorem qht:qI prog qa 267 (q9 qaB qbf q3p):=sk qmZ qc q8 (alc u5 aln) aln (b1 func267) func267
def q0n:FIn:=⟨[.str,.str,(.fn 267 [] [])],[]⟩
def q0r:List FOut:=[⟨(.tuple [.str,(.int .i64)]),[],none⟩]
noncomputable def q5H:=qe [(89,q9 vr vt qG),(90,q9 q0N q10 qZ),(257,q9 jj je qX),(267,q9 qaB qbf q3p)] [(218,f218)] [] 0
noncomputable def va:=qm q5H 218 f218 true q0n q0r
theorem qcC:qI prog qa 218 (q9 q0n q0r va):=sk q5H qc q8 (alc vd (alc kQ (alc uu (alc qht aln)))) aln (b1 func218) func218
def qsb:FIn:=⟨[.str,.str],[]⟩
def qst:List FOut:=[⟨(.tuple [.str,(.int .i64)]),[],none⟩]
noncomputable def qrz:=qe [(89,q9 vr vt qG),(267,q9 qaB qbf q3p),(218,q9 q0n q0r va)] [(233,f233)] [] 0
noncomputable def q5l:=qm qrz 233 f233 true qsb qst
theorem qu7:qI prog qa 233 (q9 qsb qst q5l):=sk qrz qc q8 (alc vd (alc qht (alc qcC aln))) aln (b1 func233) func233
def qay:FIn:=⟨[(.ptr 0 0),.str,.str,.str,.str],[.cells [(.int .i64)]]⟩
def qb9:List FOut:=[⟨(.tuple [.str,.str]),[.cells [(.int .i64)]],none⟩]
noncomputable def qnu:=qe [(91,q9 yi yd qw),(220,q9 q4N q4T vZ)] [(219,f219)] [] 1
noncomputable def q3u:=qm qnu 219 f219 true qay qb9
theorem qhL:qI prog qa 219 (q9 qay qb9 q3u):=sk qnu qc q8 (alc u5 (alc qca aln)) aln (b1 func219) func219
def q0v:FIn:=⟨[.str,.str,(.fn 219 [] [])],[]⟩
def q0p:List FOut:=[⟨(.tuple [.str,(.int .i64)]),[],none⟩]
noncomputable def q5F:=qe [(89,q9 vr vt qG),(90,q9 q0N q10 qZ),(219,q9 qay qb9 q3u),(257,q9 jj je qX)] [(218,f218)] [] 0
noncomputable def v7:=qm q5F 218 f218 true q0v q0p
theorem qcz:qI prog qa 218 (q9 q0v q0p v7):=sk q5F qc q8 (alc vd (alc kQ (alc qhL (alc uu aln)))) aln (b1 func218) func218
def qgL:FIn:=⟨[.str,.str],[]⟩
def qgE:List FOut:=[⟨(.tuple [.str,(.int .i64)]),[],none⟩]
noncomputable def qrM:=qe [(219,q9 qay qb9 q3u),(218,q9 q0v q0p v7)] [(165,f165)] [] 0
noncomputable def wu:=qm qrM 165 f165 true qgL qgE
theorem qe2:qI prog qa 165 (q9 qgL qgE wu):=sk qrM qc q8 (alc qhL (alc qcz aln)) aln (b1 func165) func165
def qhW:FIn:=⟨[(.agg [(.int .i64),(.int .i64),(.imm [.str])])],[]⟩
def qhm:List FOut:=[⟨(.tuple [(.agg [(.int .i64),(.int .i64),(.imm [.str])]),(.int .i64)]),[],none⟩]
noncomputable def ye:List PV->TR:=qJS jp yh q5l wu
theorem qmz:qI prog qa 162 (q9 qhW qhm ye):=qF1 qfh q8y qu7 qe2
def kH:FIn:=⟨[(.ptr 0 0),(.fn 279 [] []),.str,.str],[.cells [(.int .i64)]]⟩
def kR:List FOut:=[⟨.str,[.cells [(.int .i64)]],none⟩]
noncomputable def q4f:=qe [(279,q9 qcf qbI q2k)] [(129,f129)] [] 1
noncomputable def wN:=qm q4f 129 f129 true kH kR
theorem qaX:qI prog qa 129 (q9 kH kR wN):=sk q4f qc q8 (alc qeZ aln) aln (b1 func129) func129
def qa2:FIn:=⟨[(.ptr 0 0),.str,.str],[.cells [(.int .i64)]]⟩
def q9D:List FOut:=[⟨.str,[.cells [(.int .i64)]],none⟩]
noncomputable def qhS:=qe [(279,q9 qcf qbI q2k),(129,q9 kH kR wN)] [(256,f256)] [] 1
noncomputable def q1g:=qm qhS 256 f256 true qa2 q9D
theorem qmp:qI prog qa 256 (q9 qa2 q9D q1g):=sk qhS qc q8 (alc qeZ (alc qaX aln)) aln (b1 func256) func256
def qax:FIn:=⟨[(.ptr 0 0),.str,.str,.str,.str],[.cells [(.int .i64)]]⟩
def qb1:List FOut:=[⟨(.tuple [.str,.str]),[.cells [(.int .i64)]],none⟩]
noncomputable def qnl:=qe [(91,q9 yi yd qw),(256,q9 qa2 q9D q1g)] [(255,f255)] [] 1
noncomputable def q33:=qm qnl 255 f255 true qax qb1
theorem qhJ:qI prog qa 255 (q9 qax qb1 q33):=sk qnl qc q8 (alc u5 (alc qmp aln)) aln (b1 func255) func255
def q0w:FIn:=⟨[.str,.str,(.fn 255 [] [])],[]⟩
def q0b:List FOut:=[⟨(.tuple [.str,(.int .i64)]),[],none⟩]
noncomputable def q5E:=qe [(89,q9 vr vt qG),(90,q9 q0N q10 qZ),(255,q9 qax qb1 q33),(257,q9 jj je qX)] [(218,f218)] [] 0
noncomputable def vb:=qm q5E 218 f218 true q0w q0b
theorem qbV:qI prog qa 218 (q9 q0w q0b vb):=sk q5E qc q8 (alc vd (alc kQ (alc qhJ (alc uu aln)))) aln (b1 func218) func218
def q5r:FIn:=⟨[.str,.str],[]⟩
def q5d:List FOut:=[⟨(.tuple [.str,(.int .i64)]),[],none⟩]
noncomputable def qsB:=qe [(255,q9 qax qb1 q33),(218,q9 q0w q0b vb)] [(217,f217)] [] 0
noncomputable def ua:=qm qsB 217 f217 true q5r q5d
theorem q46:qI prog qa 217 (q9 q5r q5d ua):=sk qsB qc q8 (alc qhJ (alc qbV aln)) aln (b1 func217) func217
def q12:FIn:=⟨[(.ptr 0 0),.str,(.int .i64)],[.cells [(.int .i64)]]⟩
def q0L:List FOut:=[⟨.str,[.cells [(.int .i64)]],none⟩]
noncomputable def qbX:=qe [] [(254,f254)] [] 1
noncomputable def wV:=qm qbX 254 f254 true q12 q0L
theorem q7G:qI prog qa 254 (q9 q12 q0L wV):=sk qbX qc q8 aln aln (b1 func254) func254
def q5W:FIn:=⟨[(.ptr 0 0),.str,.str],[.cells [(.int .i64)]]⟩
def q6Y:List FOut:=[⟨.str,[.cells [(.int .i64)]],none⟩]
noncomputable def qdG:=qe [(217,q9 q5r q5d ua),(254,q9 q12 q0L wV)] [(214,f214)] [] 1
noncomputable def ki:=qm qdG 214 f214 true q5W q6Y
theorem qj1:qI prog qa 214 (q9 q5W q6Y ki):=sk qdG qc q8 (alc q46 (alc q7G aln)) aln (b1 func214) func214
def q6W:FIn:=⟨[(.ptr 0 0),.str,.str],[.cells [(.int .i64)]]⟩
def q6Q:List FOut:=[⟨.str,[.cells [(.int .i64)]],none⟩]
noncomputable def qdJ:=qe [(221,q9 qci qbM yh),(254,q9 q12 q0L wV)] [(215,f215)] [] 1
noncomputable def kh:=qm qdJ 215 f215 true q6W q6Q
theorem qjK:qI prog qa 215 (q9 q6W q6Q kh):=sk qdJ qc q8 (alc q8y (alc q7G aln)) aln (b1 func215) func215
def qet:FIn:=⟨[(.agg [(.int .i64),(.int .i64),(.imm [.str])]),(.int .i64),(.int .i64)],[]⟩
def qef:List FOut:=[⟨.str,[],none⟩]
noncomputable def ql9:=qe [] [(216,f216)] [] 0
noncomputable def q4i:=qm ql9 216 f216 true qet qef
theorem qpd:qI prog qa 216 (q9 qet qef q4i):=sk ql9 qc q8 aln aln (b1 func216) func216
def qeY:FIn:=⟨[(.agg [(.int .i64),(.int .i64),(.imm [.str])]),(.imm [.str])],[]⟩
def qey:List FOut:=[⟨(.tuple [(.imm [.str]),(.int .i64)]),[],none⟩]
noncomputable def q8h:Tmpl:={ t:=(.any::(.imm [.str])::(.ptr 0 0)::qp 5 ((.ptr 1 0)::(.vec 2)::(.int .i64)::.str::qp 20 ((.int .i64)::(.int .i64)::.any::.any::(.imm [.str])::(.int .i64)::(.int .i64)::qp 30 []))),h:=[.cells [(.int .i64),(.int .i64),(.imm [.str])],.cells [(.int .i64)],.vec 32 [.str]] }
noncomputable def q7O:List Out:=[⟨(.exit 2),{ t:=(.any::(.imm [.str])::(.ptr 0 0)::qp 5 ((.ptr 1 0)::(.vec 2)::.any::.str::qp 20 ((.int .i64)::(.int .i64)::qp 35 []))),h:=[.cells [(.int .i64),(.int .i64),(.imm [.str])],.cells [(.int .i64)],.vec 32 [.str]] }⟩]
noncomputable def q6P:List (FuncId×zj):=[(208,q9 qdZ qec jp),(213,q9 q4F q4Q j3),(214,q9 q5W q6Y ki),(215,q9 q6W q6Q kh),(216,q9 qet qef q4i)]
theorem q9v:∀x,x∈q6P->qI prog qa x.1 x.2:=(alc qfh (alc qc6 (alc qj1 (alc qjK (alc qpd aln)))))
noncomputable def q3k:=qe q6P [(163,f163)] [] 0
noncomputable def yQ:=zr q3k 163 f163 24 q8h q7O
theorem qkn:qk prog qa q3k.nimp (qt prog q3k.iter 163) (qS f163 24) (qh q8h q7O (qf yQ)):=gk q3k qc q8 q9v aln (b1 func163) func163
noncomputable def q88:Tmpl:={ t:=(.any::(.imm [.str])::(.ptr 0 0)::qp 5 ((.ptr 1 0)::(.vec 2)::qp 22 ((.int .i64)::(.int .i64)::qp 35 []))),h:=[.cells [(.int .i64),(.int .i64),(.imm [.str])],.cells [(.int .i64)],.vec 32 [.str]],pro:=[(9,32,[.str])] }
noncomputable def q7L:List Out:=[⟨(.exit 0),{ t:=(qp 8 ((.ptr 1 0)::(.vec 2)::qp 59 [])),h:=[.dead,.cells [(.int .i64)],.vec 32 [.str]] }⟩]
noncomputable def q3h:=qe q6P [(163,f163)] [((163,24),qh q8h q7O (qf yQ))] 0
noncomputable def yW:=zr q3h 163 f163 16 q88 q7L
theorem qkA:qk prog qa q3h.nimp (qt prog q3h.iter 163) (qS f163 16) (qh q88 q7L (qf yW)):=gk q3h qc q8 q9v (alc (lk func163 qkn) aln) (b1 func163) func163
noncomputable def qlq:=qe q6P [(163,f163)] [((163,16),qh q88 q7L (qf yW))] 0
noncomputable def q4j:=qm qlq 163 f163 true qeY qey
theorem qpk:qI prog qa 163 (q9 qeY qey q4j):=sk qlq qc q8 q9v (alc (lk func163 qkA) aln) (b1 func163) func163
def qmi:FIn:=⟨[(.imm [.str])],[]⟩
def qmf:List FOut:=[⟨(.tuple [.str,(.int .i64)]),[],none⟩]
noncomputable def qe0:Tmpl:={ t:=(qp 5 (.str::qp 12 ((.imm [.str])::(.int .i64)::(.int .i64)::qp 15 []))),h:=[] }
noncomputable def qel:List Out:=[⟨(.exit 0),{ t:=(qp 5 (.str::qp 30 [])),h:=[] }⟩,⟨.ret,{ t:=(.any::.any::.str::(.int .i64)::qp 32 []),h:=[] }⟩]
noncomputable def q8M:=qe [(89,q9 vr vt qG),(217,q9 q5r q5d ua)] [(164,f164)] [] 0
noncomputable def q1y:=zr q8M 164 f164 11 qe0 qel
theorem qp4:qk prog qa q8M.nimp (qt prog q8M.iter 164) (qS f164 11) (qh qe0 qel (qf q1y)):=gk q8M qc q8 (alc vd (alc q46 aln)) aln (b1 func164) func164
noncomputable def qty:=qe [(89,q9 vr vt qG),(217,q9 q5r q5d ua)] [(164,f164)] [((164,11),qh qe0 qel (qf q1y))] 0
noncomputable def qc9:=qm qty 164 f164 true qmi qmf
theorem quC:qI prog qa 164 (q9 qmi qmf qc9):=sk qty qc q8 (alc vd (alc q46 aln)) (alc (lk func164 qp4) aln) (b1 func164) func164
def wd:FIn:=⟨[(.imm [.str]),(.imm [.str])],[]⟩
def we:List FOut:=[⟨(.tuple [.str,(.int .i64)]),[],none⟩]
noncomputable def vK:Tmpl:={ t:=(.any::(.imm [.str])::qp 4 (.str::qp 4 ((.imm [.str])::(.int .i64)::(.int .i64)::qp 27 []))),h:=[] }
noncomputable def vN:List Out:=[⟨(.exit 0),{ t:=(qp 6 (.str::qp 34 [])),h:=[] }⟩,⟨.ret,{ t:=(qp 4 (.str::(.int .i64)::qp 35 [])),h:=[] }⟩]
noncomputable def zD:=qe [(217,q9 q5r q5d ua),(221,q9 qci qbM yh)] [(167,f167)] [] 0
noncomputable def qR:=zr zD 167 f167 4 vK vN
theorem q49:qk prog qa zD.nimp (qt prog zD.iter 167) (qS f167 4) (qh vK vN (qf qR)):=gk zD qc q8 (alc q46 (alc q8y aln)) aln (b1 func167) func167
noncomputable def q0f:=qe [(217,q9 q5r q5d ua),(221,q9 qci qbM yh)] [(167,f167)] [((167,4),qh vK vN (qf qR))] 0
noncomputable def qC:=qm q0f 167 f167 true wd we
theorem uE:qI prog qa 167 (q9 wd we qC):=sk q0f qc q8 (alc q46 (alc q8y aln)) (alc (lk func167 q49) aln) (b1 func167) func167
def q3P:FIn:=⟨[(.agg [.str,.str,.str]),(.agg [(.int .i64),(.int .i64),(.int .i64)])],[]⟩
def q4t:List FOut:=[⟨(.tuple [.str,(.int .i64)]),[],none⟩]
noncomputable def q9x:Tmpl:={ t:=(.any::.any::(.ptr 0 0)::.any::.any::.any::(.vec 2)::qp 5 ((.agg [(.int .i64),(.int .i64),(.int .i64)])::(.int .i64)::qp 25 [])),h:=[.cells [.str,.str,.str],.dead,.vec 32 [.str]],pro:=[(6,32,[.str])] }
noncomputable def q9s:List Out:=[⟨(.exit 0),{ t:=(qp 6 ((.vec 2)::qp 32 [])),h:=[.dead,.dead,.vec 32 [.str]] }⟩,⟨.ret,{ t:=(qp 4 (.str::(.int .i64)::qp 33 [])),h:=[] }⟩]
noncomputable def qcN:List (FuncId×zj):=[(160,q9 q6m q6C jB),(165,q9 qgL qgE wu),(166,q9 ve vg qJ),(167,q9 wd we qC)]
theorem qhF:∀x,x∈qcN->qI prog qa x.1 x.2:=(alc qa0 (alc qe2 (alc jK (alc uE aln))))
noncomputable def q4w:=qe qcN [(168,f168)] [] 0
noncomputable def uX:=zr q4w 168 f168 4 q9x q9s
theorem qlU:qk prog qa q4w.nimp (qt prog q4w.iter 168) (qS f168 4) (qh q9x q9s (qf uX)):=gk q4w qc q8 qhF aln (b1 func168) func168
noncomputable def qkR:=qe qcN [(168,f168)] [((168,4),qh q9x q9s (qf uX))] 0
noncomputable def vu:=qm qkR 168 f168 true q3P q4t
theorem q7W:qI prog qa 168 (q9 q3P q4t vu):=sk qkR qc q8 qhF (alc (lk func168 qlU) aln) (b1 func168) func168
def q4V:FIn:=⟨[(.imm [(.int .i64),(.int .i64),(.int .i64)])],[]⟩
def q4S:List FOut:=[⟨(.tuple [(.agg [.str,.str,.str,.str,(.imm [.str])]),.bool,(.int .i64)]),[],none⟩]
noncomputable def q5g:Tmpl:={ t:=((.imm [(.int .i64),(.int .i64),(.int .i64)])::.any::(.ptr 0 0)::.any::.any::(.int .i64)::(.vec 1)::(.vec 2)::(.int .i64)::qp 15 ((.int .i64)::(.int .i64)::.any::.any::(.int .i64)::(.int .i64)::qp 141 [])),h:=[.cells [.str,.str,.str,.str,.nils],.vec 3 [(.int .i64)],.vec 32 [.str]] }
noncomputable def q5n:List Out:=[⟨(.exit 2),{ t:=((.imm [(.int .i64),(.int .i64),(.int .i64)])::.any::(.ptr 0 0)::.any::.any::(.int .i64)::(.vec 1)::(.vec 2)::(.int .i64)::qp 15 ((.int .i64)::(.int .i64)::qp 145 [])),h:=[.cells [.str,.str,.str,.str,.nils],.vec 3 [(.int .i64)],.vec 32 [.str]] }⟩]
noncomputable def yN:List (FuncId×zj):=[(159,q9 qgD qhb q15),(160,q9 q6m q6C jB),(161,q9 qmu qlP qcs),(162,q9 qhW qhm ye),(163,q9 qeY qey q4j),(164,q9 qmi qmf qc9),(165,q9 qgL qgE wu),(166,q9 ve vg qJ),(167,q9 wd we qC),(168,q9 q3P q4t vu)]
theorem ky:∀x,x∈yN->qI prog qa x.1 x.2:=(alc qqA (alc qa0 (alc qua (alc qmz (alc qpk (alc quC (alc qe2 (alc jK (alc uE (alc q7W aln))))))))))
noncomputable def q0O:=qe yN [(123,f123)] [] 0
noncomputable def jk:=zr q0O 123 f123 13 q5g q5n
theorem qic:qk prog qa q0O.nimp (qt prog q0O.iter 123) (qS f123 13) (qh q5g q5n (qf jk)):=gk q0O qc q8 ky aln (b1 func123) func123
noncomputable def q69:Tmpl:={ t:=((.imm [(.int .i64),(.int .i64),(.int .i64)])::.any::(.ptr 0 0)::.any::.any::(.int .i64)::(.vec 1)::(.vec 2)::qp 16 ((.int .i64)::(.int .i64)::qp 145 [])),h:=[.cells [.str,.str,.str,.str,.nils],.vec 3 [(.int .i64)],.vec 32 [.str]],pro:=[(6,3,[(.int .i64)]),(7,32,[.str])] }
noncomputable def q62:List Out:=[⟨(.exit 0),{ t:=((.imm [(.int .i64),(.int .i64),(.int .i64)])::.any::(.ptr 0 0)::.any::.any::(.int .i64)::(.vec 1)::(.vec 2)::qp 163 []),h:=[.cells [.str,.str,.str,.str,.nils],.vec 3 [(.int .i64)],.vec 32 [.str]] }⟩]
noncomputable def q2e:=qe yN [(123,f123)] [((123,13),qh q5g q5n (qf jk))] 0
noncomputable def jM:=zr q2e 123 f123 6 q69 q62
theorem qjE:qk prog qa q2e.nimp (qt prog q2e.iter 123) (qS f123 6) (qh q69 q62 (qf jM)):=gk q2e qc q8 ky (alc (lk func123 qic) aln) (b1 func123) func123
noncomputable def q56:Tmpl:={ t:=((.imm [(.int .i64),(.int .i64),(.int .i64)])::.any::(.ptr 0 0)::qp 13 ((.ptr 6 0)::(.int .i64)::(.vec 7)::qp 107 ((.int .i64)::.any::.any::(.imm [(.int .i64),(.int .i64),(.int .i64)])::(.int .i64)::(.int .i64)::qp 39 []))),h:=[.cells [.str,.str,.str,.str,.nils],.dead,.dead,.dead,.dead,.frz 32 [.str],.cells [.str,.str,.str,.str,(.vec 5)],.vec 32 [.str]],pro:=[(18,32,[.str])] }
noncomputable def q5j:List Out:=[⟨(.exit 6),{ t:=((.imm [(.int .i64),(.int .i64),(.int .i64)])::.any::(.ptr 0 0)::qp 13 ((.ptr 6 0)::(.int .i64)::(.vec 7)::qp 107 ((.int .i64)::qp 44 []))),h:=[.cells [.str,.str,.str,.str,.nils],.dead,.dead,.dead,.dead,.frz 32 [.str],.cells [.str,.str,.str,.str,(.vec 5)],.vec 32 [.str]] }⟩]
noncomputable def q0I:=qe yN [(123,f123)] [] 0
noncomputable def jg:=zr q0I 123 f123 52 q56 q5j
theorem qia:qk prog qa q0I.nimp (qt prog q0I.iter 123) (qS f123 52) (qh q56 q5j (qf jg)):=gk q0I qc q8 ky aln (b1 func123) func123
noncomputable def q5b:Tmpl:={ t:=((.imm [(.int .i64),(.int .i64),(.int .i64)])::.any::(.ptr 0 0)::qp 13 ((.ptr 6 0)::qp 109 ((.int .i64)::qp 44 []))),h:=[.cells [.str,.str,.str,.str,.nils],.dead,.dead,.dead,.dead,.frz 32 [.str],.cells [.str,.str,.str,.str,(.vec 5)]],fz:=[5] }
noncomputable def q5f:List Out:=[⟨(.exit 4),{ t:=((.imm [(.int .i64),(.int .i64),(.int .i64)])::.any::(.ptr 0 0)::qp 13 ((.ptr 6 0)::qp 154 [])),h:=[.cells [.str,.str,.str,.str,.nils],.dead,.dead,.dead,.dead,.frz 32 [.str],.cells [.str,.str,.str,.str,(.vec 5)]] }⟩,⟨.ret,{ t:=(.any::.any::(.ptr 0 0)::.bool::(.int .i64)::qp 166 []),h:=[.cells [.str,.str,.str,.str,.nils]] }⟩]
noncomputable def q0Q:=qe yN [(123,f123)] [((123,52),qh q56 q5j (qf jg))] 0
noncomputable def jd:=zr q0Q 123 f123 44 q5b q5f
theorem qi1:qk prog qa q0Q.nimp (qt prog q0Q.iter 123) (qS f123 44) (qh q5b q5f (qf jd)):=gk q0Q qc q8 ky (alc (lk func123 qia) aln) (b1 func123) func123
noncomputable def qhg:=qe yN [(123,f123)] [((123,6),qh q69 q62 (qf jM)),((123,44),qh q5b q5f (qf jd))] 0
noncomputable def zS:=qm qhg 123 f123 true q4V q4S
theorem qck:qI prog qa 123 (q9 q4V q4S zS):=sk qhg qc q8 ky (alc (lk func123 qjE) (alc (lk func123 qi1) aln)) (b1 func123) func123
def qa3:FIn:=⟨[(.imm [(.int .i64),(.int .i64),(.int .i64)]),(.imm [(.int .i64)])],[]⟩
def q9l:List FOut:=[⟨(.imm [(.int .i64),(.int .i64),(.int .i64)]),[],none⟩]
noncomputable def q6L:Tmpl:={ t:=((.imm [(.int .i64),(.int .i64),(.int .i64)])::qp 4 ((.vec 0)::.any::.any::(.imm [(.int .i64)])::(.int .i64)::(.int .i64)::qp 12 [])),h:=[.vec 31 [(.int .i64),(.int .i64),(.int .i64)]],pro:=[(5,31,[(.int .i64),(.int .i64),(.int .i64)])] }
noncomputable def q7g:List Out:=[⟨(.exit 0),{ t:=(qp 5 ((.vec 0)::qp 17 [])),h:=[.vec 31 [(.int .i64),(.int .i64),(.int .i64)]] }⟩]
noncomputable def q24:=qe [] [(151,f151)] [] 0
noncomputable def jL:=zr q24 151 f151 4 q6L q7g
theorem qik:qk prog qa q24.nimp (qt prog q24.iter 151) (qS f151 4) (qh q6L q7g (qf jL)):=gk q24 qc q8 aln aln (b1 func151) func151
noncomputable def qhe:=qe [] [(151,f151)] [((151,4),qh q6L q7g (qf jL))] 0
noncomputable def q1b:=qm qhe 151 f151 true qa3 q9l
theorem qlZ:qI prog qa 151 (q9 qa3 q9l q1b):=sk qhe qc q8 aln (alc (lk func151 qik) aln) (b1 func151) func151
def qgs:FIn:=⟨[.str],[]⟩
def qh5:List FOut:=[⟨(.tuple [.str,.str,(.int .i64)]),[],none⟩]
noncomputable def qnN:=qe [(90,q9 q0N q10 qZ),(106,q9 kf kv zd)] [(249,f249)] [] 0
noncomputable def q7m:=qm qnN 249 f249 true qgs qh5
theorem qqr:qI prog qa 249 (q9 qgs qh5 q7m):=sk qnN qc q8 (alc kQ (alc uV aln)) aln (b1 func249) func249
def qjj:FIn:=⟨[.str],[]⟩
def qif:List FOut:=[⟨(.tuple [(.int .i64),(.int .i64)]),[],none⟩]
noncomputable def qq7:=qe [(132,q9 q94 q98 yD),(141,q9 ko kd z7)] [(250,f250)] [] 0
noncomputable def q9j:=qm qq7 250 f250 true qjj qif
theorem qt5:qI prog qa 250 (q9 qjj qif q9j):=sk qq7 qc q8 (alc qbv (alc uU aln)) aln (b1 func250) func250
def qiA:FIn:=⟨[.str],[]⟩
def qjD:List FOut:=[⟨(.tuple [(.int .i64),(.int .i64)]),[],none⟩]
noncomputable def qqk:=qe [(249,q9 qgs qh5 q7m),(250,q9 qjj qif q9j)] [(202,f202)] [] 0
noncomputable def q5O:=qm qqk 202 f202 true qiA qjD
theorem qsp:qI prog qa 202 (q9 qiA qjD q5O):=sk qqk qc q8 (alc qqr (alc qt5 aln)) aln (b1 func202) func202
def wP:FIn:=⟨[.str],[]⟩
def wL:List FOut:=[⟨.bool,[],none⟩]
noncomputable def q4u:=qe [(202,q9 qiA qjD q5O)] [(201,f201)] [] 0
noncomputable def zg:=qm q4u 201 f201 true wP wL
theorem yp:qI prog qa 201 (q9 wP wL zg):=sk q4u qc q8 (alc qsp aln) aln (b1 func201) func201
def qK:FIn:=⟨[(.imm [.str]),(.fn 201 [] [])],[]⟩
def qN:List FOut:=[⟨.bool,[],none⟩]
noncomputable def qE:Tmpl:={ t:=((.imm [.str])::(.fn 201 [] [])::qp 5 ((.int .i64)::(.int .i64)::qp 10 [])),h:=[],fs:=[[(.imm [.str]),(.fn 201 [] []),.any,.any,(.blit false),(.imm [.str]),(.fn 201 [] []),.any,.any],[]] }
noncomputable def qD:List Out:=[⟨(.exit 0),{ t:=(qp 19 []),h:=[],fs:=[[(.imm [.str]),(.fn 201 [] []),.any,.any,(.blit false),(.imm [.str]),(.fn 201 [] []),.any,.any],[]] }⟩,⟨.ret,{ t:=(qp 4 ((.int .i64)::qp 14 [])),h:=[],fs:=[[(.imm [.str]),(.fn 201 [] []),.any,.any,(.blit false),(.imm [.str]),(.fn 201 [] []),.any,.any],[]] }⟩]
noncomputable def qv:=qe [(201,q9 wP wL zg)] [(48,f48),(99,f99)] [] 0
noncomputable def qj:=zr qv 99 f99 3 qE qD
theorem wJ:qk prog qa qv.nimp (qt prog qv.iter 99) (qS f99 3) (qh qE qD (qf qj)):=gk qv qc q8 (alc yp aln) aln (alc (bk func48) (alc (bk func99) aln)) func99
noncomputable def zh:=qe [(201,q9 wP wL zg)] [(48,f48),(99,f99)] [((99,3),qh qE qD (qf qj))] 0
noncomputable def qo:=qm zh 48 f48 true qK qN
theorem vn:qI prog qa 48 (q9 qK qN qo):=sk zh qc q8 (alc yp aln) (alc (lk func99 wJ) aln) (alc (bk func48) (alc (bk func99) aln)) func48
def q16:FIn:=⟨[(.agg [.str,.str,.str,.str,(.imm [.str])])],[]⟩
def q14:List FOut:=[⟨.bool,[],none⟩]
noncomputable def q6s:=qe [(201,q9 wP wL zg),(48,q9 qK qN qo)] [(152,f152)] [] 0
noncomputable def vD:=qm q6s 152 f152 true q16 q14
theorem qcY:qI prog qa 152 (q9 q16 q14 vD):=sk q6s qc q8 (alc yp (alc vn aln)) aln (b1 func152) func152
def q7l:FIn:=⟨[.str,.str],[]⟩
def q7j:List FOut:=[⟨(.tuple [(.int .i64),(.int .i64)]),[],none⟩]
noncomputable def qiG:=qe [(89,q9 vr vt qG),(90,q9 q0N q10 qZ),(91,q9 yi yd qw),(92,q9 q77 q6q u9)] [(34,f34)] [] 0
noncomputable def uk:=qm qiG 34 f34 true q7l q7j
theorem qdA:qI prog qa 34 (q9 q7l q7j uk):=sk qiG qc q8 (alc vd (alc kQ (alc u5 (alc qdI aln)))) aln (b1 func34) func34
def kL:FIn:=⟨[(.agg [.str,.str,.str,.str,(.imm [.str])]),(.imm [(.int .i64),(.int .i64),(.int .i64)])],[]⟩
def kK:List FOut:=[⟨(.tuple [.bool,(.int .i64)]),[],none⟩]
noncomputable def ub:Tmpl:={ t:=(.any::.any::(.ptr 0 0)::qp 9 ((.imm [(.int .i64),(.int .i64),(.int .i64)])::(.int .i64)::(.int .i64)::qp 28 [])),h:=[.cells [.str,.str,.str,.str,(.imm [.str])]] }
noncomputable def uf:List Out:=[⟨(.exit 0),{ t:=(qp 43 []),h:=[] }⟩,⟨.ret,{ t:=(qp 4 (.bool::(.int .i64)::qp 37 [])),h:=[] }⟩]
noncomputable def vC:=qe [(34,q9 q7l q7j uk),(168,q9 q3P q4t vu)] [(153,f153)] [] 0
noncomputable def z6:=zr vC 153 f153 3 ub uf
theorem q8Y:qk prog qa vC.nimp (qt prog vC.iter 153) (qS f153 3) (qh ub uf (qf z6)):=gk vC qc q8 (alc qdA (alc q7W aln)) aln (b1 func153) func153
noncomputable def q4a:=qe [(34,q9 q7l q7j uk),(168,q9 q3P q4t vu)] [(153,f153)] [((153,3),qh ub uf (qf z6))] 0
noncomputable def wK:=qm q4a 153 f153 true kL kK
theorem qaw:qI prog qa 153 (q9 kL kK wK):=sk q4a qc q8 (alc qdA (alc q7W aln)) (alc (lk func153 q8Y) aln) (b1 func153) func153
def q0X:FIn:=⟨[(.imm [(.int .i64),(.int .i64),(.int .i64)]),(.imm [(.int .i64)])],[]⟩
def q0R:List FOut:=[⟨(.tuple [(.agg [.str,.str,.str,.str,(.imm [.str])]),.bool,(.int .i64)]),[],none⟩]
noncomputable def qcL:=qe [(123,q9 q4V q4S zS),(151,q9 qa3 q9l q1b),(152,q9 q16 q14 vD),(153,q9 kL kK wK)] [(114,f114)] [] 0
noncomputable def zf:=qm qcL 114 f114 true q0X q0R
theorem q7B:qI prog qa 114 (q9 q0X q0R zf):=sk qcL qc q8 (alc qck (alc qlZ (alc qcY (alc qaw aln)))) aln (b1 func114) func114
def q6T:FIn:=⟨[(.imm [(.int .i64),(.int .i64),(.int .i64)]),(.int .i64)],[]⟩
def q72:List FOut:=[⟨(.tuple [(.agg [.str,.str,.str,.str,(.imm [.str])]),(.imm [(.int .i64)]),(.int .i64)]),[],none⟩]
noncomputable def q1E:Tmpl:={ t:=(.yld::.any::(.ptr 4 0)::.any::.any::(.vec 7)::.any::(.imm [(.int .i64)])::.any::(.int .i64)::.any::.any::(.int .i64)::(.int .i64)::.any::(.vec 6)::(.int .i64)::(.int .i64)::qp 35 []),h:=[.cells [(.imm [(.int .i64),(.int .i64),(.int .i64)])],.cells [.str,.str,.str,.str,.nils],.cells [.nils],.cells [(.int .i64)],.cells [(.int .i64)],.cells [(.int .i64)],.vec 35 [(.sl [(.int .i64)])],.vec 35 [(.sl [(.int .i64)])]],fs:=[[.any,.any,(.ptr 0 0),.any,(.ptr 1 0),(.ptr 2 0),(.ptr 3 0),.any,.any,.any,.any,.any,.any,.any,(.fn 149 [] [(.ptr 5 0),(.ptr 4 0)]),.any,.any,.any,.any,.any,.any,.any,.any,.any,.any,.any,.any,.any,.any,.any,.any],[]] }
noncomputable def q1Y:List Out:=[⟨(.exit 4),{ t:=(.yld::.any::(.ptr 4 0)::.any::.any::(.vec 7)::qp 6 ((.int .i64)::(.int .i64)::.any::(.vec 6)::(.int .i64)::(.int .i64)::qp 35 [])),h:=[.cells [(.imm [(.int .i64),(.int .i64),(.int .i64)])],.cells [.str,.str,.str,.str,.nils],.cells [.nils],.cells [(.int .i64)],.cells [(.int .i64)],.cells [(.int .i64)],.vec 35 [(.sl [(.int .i64)])],.vec 35 [(.sl [(.int .i64)])]],fs:=[[.any,.any,(.ptr 0 0),.any,(.ptr 1 0),(.ptr 2 0),(.ptr 3 0),.any,.any,.any,.any,.any,.any,.any,(.fn 149 [] [(.ptr 5 0),(.ptr 4 0)]),.any,.any,.any,.any,.any,.any,.any,.any,.any,.any,.any,.any,.any,.any,.any,.any],[]] }⟩,⟨.ret,{ t:=(qp 53 []),h:=[.cells [(.imm [(.int .i64),(.int .i64),(.int .i64)])],.cells [.str,.str,.str,.str,(.imm [.str])],.cells [(.vec 8)],.cells [(.int .i64)],.cells [(.int .i64)],.cells [(.int .i64)],.dead,.dead,.frz 3 [(.int .i64)]],fs:=[[.any,.any,(.ptr 0 0),.any,(.ptr 1 0),(.ptr 2 0),(.ptr 3 0),.any,.any,.any,.any,.any,.any,.any,(.fn 149 [] [(.ptr 5 0),(.ptr 4 0)]),.any,.any,.any,.any,.any,.any,.any,.any,.any,.any,.any,.any,.any,.any,.any,.any],[]],pend:=(.some .ret) }⟩]
noncomputable def q18:List (FuncId×zj):=[(114,q9 q0X q0R zf),(150,q9 q1J q1V wD)]
theorem q31:∀x,x∈q18->qI prog qa x.1 x.2:=(alc q7B (alc qeO aln))
noncomputable def uA:Env:={ tt:=qge,glob:=qa,spec:=q18,body:=[(66,f66),(113,f113),(149,f149)],loops:=[],nimp:=0,iter:=[(149,66,3)],raws:=[150] }
noncomputable def qO:=qBS uA (some (66,f66,3)) 149 f149 18 q1E q1Y
theorem qem:qk prog qa uA.nimp (qt prog uA.iter 149) (qS f149 18) (qh q1E q1Y (qf qO)):=qdo (E:=uA) qc ⟨qdL q8,⟨q31,aln⟩,aln,(alc (bk func66) (alc (bk func113) (alc (bk func149) aln)))⟩ func149 (by kernel_rfl) (y:=some (66,f66,3)) ⟨func66,by kernel_rfl⟩ (by kernel_rfl) (by kernel_rfl) (fun _=>rfl)
noncomputable def q2u:Tmpl:={ t:=(.yld::.any::(.ptr 4 0)::.any::.any::(.vec 7)::qp 6 ((.int .i64)::(.int .i64)::.any::(.vec 6)::(.int .i64)::(.int .i64)::qp 35 [])),h:=[.cells [(.imm [(.int .i64),(.int .i64),(.int .i64)])],.cells [.str,.str,.str,.str,.nils],.cells [.nils],.cells [(.int .i64)],.cells [(.int .i64)],.cells [(.int .i64)],.vec 35 [(.sl [(.int .i64)])],.vec 35 [(.sl [(.int .i64)])]],pro:=[(5,35,[(.sl [(.int .i64)])])],fs:=[[.any,.any,(.ptr 0 0),.any,(.ptr 1 0),(.ptr 2 0),(.ptr 3 0),.any,.any,.any,.any,.any,.any,.any,(.fn 149 [] [(.ptr 5 0),(.ptr 4 0)]),.any,.any,.any,.any,.any,.any,.any,.any,.any,.any,.any,.any,.any,.any,.any,.any],[]] }
noncomputable def q2y:List Out:=[⟨(.exit 2),{ t:=(.yld::.any::(.ptr 4 0)::.any::.any::(.vec 7)::qp 6 ((.int .i64)::(.int .i64)::qp 39 [])),h:=[.cells [(.imm [(.int .i64),(.int .i64),(.int .i64)])],.cells [.str,.str,.str,.str,.nils],.cells [.nils],.cells [(.int .i64)],.cells [(.int .i64)],.cells [(.int .i64)],.dead,.vec 35 [(.sl [(.int .i64)])]],fs:=[[.any,.any,(.ptr 0 0),.any,(.ptr 1 0),(.ptr 2 0),(.ptr 3 0),.any,.any,.any,.any,.any,.any,.any,(.fn 149 [] [(.ptr 5 0),(.ptr 4 0)]),.any,.any,.any,.any,.any,.any,.any,.any,.any,.any,.any,.any,.any,.any,.any,.any],[]] }⟩,⟨.ret,{ t:=(qp 53 []),h:=[.cells [(.imm [(.int .i64),(.int .i64),(.int .i64)])],.cells [.str,.str,.str,.str,(.imm [.str])],.cells [(.vec 8)],.cells [(.int .i64)],.cells [(.int .i64)],.cells [(.int .i64)],.dead,.dead,.frz 3 [(.int .i64)]],fs:=[[.any,.any,(.ptr 0 0),.any,(.ptr 1 0),(.ptr 2 0),(.ptr 3 0),.any,.any,.any,.any,.any,.any,.any,(.fn 149 [] [(.ptr 5 0),(.ptr 4 0)]),.any,.any,.any,.any,.any,.any,.any,.any,.any,.any,.any,.any,.any,.any,.any,.any],[]],pend:=(.some .ret) }⟩]
noncomputable def kt:Env:={ tt:=qge,glob:=qa,spec:=q18,body:=[(66,f66),(113,f113),(149,f149)],loops:=[((149,18),qh q1E q1Y (qf qO))],nimp:=0,iter:=[(149,66,3)],raws:=[150] }
noncomputable def v8:=qBS kt (some (66,f66,3)) 149 f149 9 q2u q2y
theorem qfx:qk prog qa kt.nimp (qt prog kt.iter 149) (qS f149 9) (qh q2u q2y (qf v8)):=qdo (E:=kt) qc ⟨qdL q8,⟨q31,aln⟩,(alc (lk func149 qem) aln),(alc (bk func66) (alc (bk func113) (alc (bk func149) aln)))⟩ func149 (by kernel_rfl) (y:=some (66,f66,3)) ⟨func66,by kernel_rfl⟩ (by kernel_rfl) (by kernel_rfl) (fun _=>rfl)
noncomputable def q2P:Tmpl:={ t:=(.yld::.any::(.ptr 4 0)::.any::(.vec 6)::qp 7 ((.int .i64)::(.int .i64)::qp 39 [])),h:=[.cells [(.imm [(.int .i64),(.int .i64),(.int .i64)])],.cells [.str,.str,.str,.str,.nils],.cells [.nils],.cells [(.int .i64)],.cells [(.int .i64)],.cells [(.int .i64)],.vec 35 [(.sl [(.int .i64)])]],sw:=[(2,4),(4,6)],swn:=0,fs:=[[.any,.any,(.ptr 0 0),.any,(.ptr 1 0),(.ptr 2 0),(.ptr 3 0),.any,.any,.any,.any,.any,.any,.any,(.fn 149 [] [(.ptr 5 0),(.ptr 4 0)]),.any,.any,.any,.any,.any,.any,.any,.any,.any,.any,.any,.any,.any,.any,.any,.any],[]] }
noncomputable def q2A:List Out:=[⟨(.exit 0),{ t:=(qp 53 []),h:=[.cells [(.imm [(.int .i64),(.int .i64),(.int .i64)])],.cells [.str,.str,.str,.str,.nils],.cells [.nils],.cells [(.int .i64)],.cells [(.int .i64)],.cells [(.int .i64)]],fs:=[[.any,.any,(.ptr 0 0),.any,(.ptr 1 0),(.ptr 2 0),(.ptr 3 0),.any,.any,.any,.any,.any,.any,.any,(.fn 149 [] [(.ptr 5 0),(.ptr 4 0)]),.any,.any,.any,.any,.any,.any,.any,.any,.any,.any,.any,.any,.any,.any,.any,.any],[]] }⟩,⟨.ret,{ t:=(qp 53 []),h:=[.cells [(.imm [(.int .i64),(.int .i64),(.int .i64)])],.cells [.str,.str,.str,.str,(.imm [.str])],.cells [(.vec 8)],.cells [(.int .i64)],.cells [(.int .i64)],.cells [(.int .i64)],.dead,.dead,.frz 3 [(.int .i64)]],fs:=[[.any,.any,(.ptr 0 0),.any,(.ptr 1 0),(.ptr 2 0),(.ptr 3 0),.any,.any,.any,.any,.any,.any,.any,(.fn 149 [] [(.ptr 5 0),(.ptr 4 0)]),.any,.any,.any,.any,.any,.any,.any,.any,.any,.any,.any,.any,.any,.any,.any,.any],[]],pend:=(.some .ret) }⟩]
noncomputable def kp:Env:={ tt:=qge,glob:=qa,spec:=q18,body:=[(66,f66),(113,f113),(149,f149)],loops:=[((149,9),qh q2u q2y (qf v8))],nimp:=0,iter:=[(149,66,3)],raws:=[150] }
noncomputable def vh:=qBS kp (some (66,f66,3)) 149 f149 2 q2P q2A
theorem qfj:qk prog qa kp.nimp (qt prog kp.iter 149) (qS f149 2) (qh q2P q2A (qf vh)):=qdo (E:=kp) qc ⟨qdL q8,⟨q31,aln⟩,(alc (lk func149 qfx) aln),(alc (bk func66) (alc (bk func113) (alc (bk func149) aln)))⟩ func149 (by kernel_rfl) (y:=some (66,f66,3)) ⟨func66,by kernel_rfl⟩ (by kernel_rfl) (by kernel_rfl) (fun _=>rfl)
noncomputable def qjP:Env:={ tt:=qge,glob:=qa,spec:=q18,body:=[(66,f66),(113,f113),(149,f149)],loops:=[((149,2),qh q2P q2A (qf vh))],nimp:=0,iter:=[(149,66,3)],raws:=[150] }
noncomputable def vM:=qm qjP 66 f66 true q6T q72
theorem qd5:qI prog qa 66 (q9 q6T q72 vM):=sk qjP qc q8 q31 (alc (lk func149 qfj) aln) (alc (bk func66) (alc (bk func113) (alc (bk func149) aln))) func66
def q1m:FIn:=⟨[(.imm [(.int .i64),(.int .i64)])],[]⟩
def q17:List FOut:=[⟨(.imm [(.int .i64),(.int .i64),(.int .i64)]),[],none⟩]
noncomputable def q70:Tmpl:={ t:=(.any::.any::.any::(.vec 0)::.any::.any::(.imm [(.int .i64),(.int .i64)])::(.int .i64)::(.int .i64)::qp 13 []),h:=[.vec 31 [(.int .i64),(.int .i64),(.int .i64)]],pro:=[(3,31,[(.int .i64),(.int .i64),(.int .i64)])] }
noncomputable def q7i:List Out:=[⟨(.exit 0),{ t:=(.any::.any::.any::(.vec 0)::qp 18 []),h:=[.vec 31 [(.int .i64),(.int .i64),(.int .i64)]] }⟩]
noncomputable def q2f:=qe [] [(67,f67)] [] 0
noncomputable def jY:=zr q2f 67 f67 4 q70 q7i
theorem qjm:qk prog qa q2f.nimp (qt prog q2f.iter 67) (qS f67 4) (qh q70 q7i (qf jY)):=gk q2f qc q8 aln aln (b1 func67) func67
noncomputable def qhd:=qe [] [(67,f67)] [((67,4),qh q70 q7i (qf jY))] 0
noncomputable def wT:=qm qhd 67 f67 true q1m q17
theorem q5c:qI prog qa 67 (q9 q1m q17 wT):=sk qhd qc q8 aln (alc (lk func67 qjm) aln) (b1 func67) func67
def uv:FIn:=⟨[(.agg [.str,.str,.str,.str,(.imm [.str])])],[]⟩
def uw:List FOut:=[⟨(.agg [.str,.str]),[],none⟩]
noncomputable def q7C:=qe [] [(68,f68)] [] 0
noncomputable def wF:=qm q7C 68 f68 true uv uw
theorem q4k:qI prog qa 68 (q9 uv uw wF):=sk q7C qc q8 aln aln (b1 func68) func68
def q4A:FIn:=⟨[(.imm [(.int .i64),(.int .i64)])],[]⟩
def q4C:List FOut:=[⟨(.tuple [(.agg [.str,.str]),.str,(.imm [(.int .i64)]),(.int .i64)]),[],none⟩]
noncomputable def qhY:=qe [(65,q9 q45 q4l jw),(66,q9 q6T q72 vM),(67,q9 q1m q17 wT),(68,q9 uv uw wF)] [(16,f16)] [] 0
noncomputable def zV:=qm qhY 16 f16 true q4A q4C
theorem qbA:qI prog qa 16 (q9 q4A q4C zV):=sk qhY qc q8 (alc q8k (alc qd5 (alc q5c (alc q4k aln)))) aln (b1 func16) func16
def q30:FIn:=⟨[(.agg [(.int .i64),(.int .i64),(.int .i64)])],[]⟩
def q3i:List FOut:=[⟨.bool,[],none⟩]
noncomputable def qnq:=qe [(200,q9 q64 q6a qY)] [(155,f155)] [] 0
noncomputable def uY:=qm qnq 155 f155 true q30 q3i
theorem q4U:qI prog qa 155 (q9 q30 q3i uY):=sk qnq qc q8 (alc qdy aln) aln (b1 func155) func155
def q2g:FIn:=⟨[(.fn 155 [] []),(.imm [(.int .i64),(.int .i64),(.int .i64)])],[]⟩
def q2p:List FOut:=[⟨(.int .i64),[],none⟩]
noncomputable def q0U:Tmpl:={ t:=((.fn 155 [] [])::qp 6 ((.imm [(.int .i64),(.int .i64),(.int .i64)])::(.int .i64)::(.int .i64)::qp 8 [])),h:=[] }
noncomputable def q0V:List Out:=[⟨(.exit 0),{ t:=(qp 18 []),h:=[] }⟩,⟨.ret,{ t:=(qp 4 ((.int .i64)::qp 13 [])),h:=[] }⟩]
noncomputable def yB:=qe [(155,q9 q30 q3i uY)] [(203,f203)] [] 0
noncomputable def zu:=zr yB 203 f203 3 q0U q0V
theorem qcR:qk prog qa yB.nimp (qt prog yB.iter 203) (qS f203 3) (qh q0U q0V (qf zu)):=gk yB qc q8 (alc q4U aln) aln (b1 func203) func203
noncomputable def q91:=qe [(155,q9 q30 q3i uY)] [(203,f203)] [((203,3),qh q0U q0V (qf zu))] 0
noncomputable def jH:=qm q91 203 f203 true q2g q2p
theorem qfF:qI prog qa 203 (q9 q2g q2p jH):=sk q91 qc q8 (alc q4U aln) (alc (lk func203 qcR) aln) (b1 func203) func203
def kM:FIn:=⟨[(.imm [(.int .i64),(.int .i64),(.int .i64)]),(.fn 155 [] [])],[]⟩
def kJ:List FOut:=[⟨(.int .i64),[],none⟩]
noncomputable def q4b:=qe [(155,q9 q30 q3i uY),(203,q9 q2g q2p jH)] [(154,f154)] [] 0
noncomputable def wM:=qm q4b 154 f154 true kM kJ
theorem qaS:qI prog qa 154 (q9 kM kJ wM):=sk q4b qc q8 (alc q4U (alc qfF aln)) aln (b1 func154) func154
def q5e:FIn:=⟨[(.imm [(.int .i64),(.int .i64),(.int .i64)])],[]⟩
def q5p:List FOut:=[⟨(.int .i64),[],none⟩]
noncomputable def qbU:=qe [(154,q9 kM kJ wM),(155,q9 q30 q3i uY)] [(115,f115)] [] 0
noncomputable def um:=qm qbU 115 f115 true q5e q5p
theorem qi7:qI prog qa 115 (q9 q5e q5p um):=sk qbU qc q8 (alc qaS (alc q4U aln)) aln (b1 func115) func115
def q8O:FIn:=⟨[(.imm [(.int .i64),(.int .i64),(.int .i64)])],[]⟩
def q8V:List FOut:=[⟨(.int .i64),[],none⟩]
noncomputable def qkN:=qe [(112,q9 q8R q8B kF),(115,q9 q5e q5p um)] [(69,f69)] [] 0
noncomputable def kC:=qm qkN 69 f69 true q8O q8V
theorem qft:qI prog qa 69 (q9 q8O q8V kC):=sk qkN qc q8 (alc qfn (alc qi7 aln)) aln (b1 func69) func69
def q4I:FIn:=⟨[(.imm [(.int .i64),(.int .i64),(.int .i64)])],[]⟩
def q4H:List FOut:=[⟨(.tuple [(.agg [.str,.str,.str]),.str,(.imm [(.int .i64)]),(.int .i64)]),[],none⟩]
noncomputable def qhI:=qe [(66,q9 q6T q72 vM),(69,q9 q8O q8V kC)] [(17,f17)] [] 0
noncomputable def zX:=qm qhI 17 f17 true q4I q4H
theorem qbN:qI prog qa 17 (q9 q4I q4H zX):=sk qhI qc q8 (alc qd5 (alc qft aln)) aln (b1 func17) func17
def q44:FIn:=⟨[(.int .i64),(.int .i64)],[]⟩
def q47:List FOut:=[⟨(.imm [(.sl [(.int .i64)])]),[],none⟩]
noncomputable def qll:=qe [] [] [] 0
noncomputable def yL:=qm qll 18 f18 true q44 q47
theorem q7X:qI prog qa 18 (q9 q44 q47 yL):=sk qll qc q8 aln aln aln func18
def q3U:FIn:=⟨[(.int .i64),(.int .i64)],[]⟩
def q3T:List FOut:=[⟨(.imm [(.sl [(.int .i64)])]),[],none⟩]
noncomputable def q7U:Tmpl:={ t:=((.int .i64)::qp 4 ((.vec 0)::.any::(.imm [(.int .i64)])::.any::(.int .i64)::qp 6 ((.imm [(.sl [(.int .i64)])])::(.int .i64)::(.int .i64)::qp 30 []))),h:=[.vec 35 [(.sl [(.int .i64)])]] }
noncomputable def q8r:List Out:=[⟨(.exit 2),{ t:=((.int .i64)::qp 4 ((.vec 0)::qp 10 ((.imm [(.sl [(.int .i64)])])::(.int .i64)::(.int .i64)::qp 30 []))),h:=[.vec 35 [(.sl [(.int .i64)])]] }⟩]
noncomputable def q2X:=qe [(18,q9 q44 q47 yL)] [] [] 0
noncomputable def yY:=zr q2X 18 f18 16 q7U q8r
theorem qku:qk prog qa q2X.nimp (qt prog q2X.iter 18) (qS f18 16) (qh q7U q8r (qf yY)):=gk q2X qc q8 (alc q7X aln) aln aln func18
noncomputable def q9T:Tmpl:={ t:=((.int .i64)::qp 4 ((.vec 0)::qp 10 ((.imm [(.sl [(.int .i64)])])::(.int .i64)::(.int .i64)::qp 30 []))),h:=[.vec 35 [(.sl [(.int .i64)])]],pro:=[(5,35,[(.sl [(.int .i64)])])] }
noncomputable def qa7:List Out:=[⟨(.exit 0),{ t:=(qp 5 ((.vec 0)::qp 43 [])),h:=[.vec 35 [(.sl [(.int .i64)])]] }⟩]
noncomputable def q53:=qe [(18,q9 q44 q47 yL)] [] [((18,16),qh q7U q8r (qf yY))] 0
noncomputable def q1a:=zr q53 18 f18 7 q9T qa7
theorem qmq:qk prog qa q53.nimp (qt prog q53.iter 18) (qS f18 7) (qh q9T qa7 (qf q1a)):=gk q53 qc q8 (alc q7X aln) (alc (lk func18 qku) aln) aln func18
noncomputable def qlt:=qe [(18,q9 q44 q47 yL)] [] [((18,7),qh q9T qa7 (qf q1a))] 0
noncomputable def kz:=qm qlt 18 f18 true q3U q3T
theorem q8c:qI prog qa 18 (q9 q3U q3T kz):=sk qlt qc q8 (alc q7X aln) (alc (lk func18 qmq) aln) aln func18
def q3O:FIn:=⟨[(.int .i64),(.int .i64)],[]⟩
def q3Z:List FOut:=[⟨(.imm [(.sl [(.int .i64)])]),[],none⟩]
noncomputable def q8q:Tmpl:={ t:=((.int .i64)::qp 4 ((.vec 0)::.any::(.imm [(.int .i64)])::.any::(.int .i64)::qp 6 ((.imm [(.sl [(.int .i64)])])::(.int .i64)::(.int .i64)::qp 30 []))),h:=[.vec 35 [(.sl [(.int .i64)])]] }
noncomputable def q8v:List Out:=[⟨(.exit 2),{ t:=((.int .i64)::qp 4 ((.vec 0)::qp 10 ((.imm [(.sl [(.int .i64)])])::(.int .i64)::(.int .i64)::qp 30 []))),h:=[.vec 35 [(.sl [(.int .i64)])]] }⟩]
noncomputable def q3j:=qe [(18,q9 q3U q3T kz)] [] [] 0
noncomputable def yX:=zr q3j 18 f18 16 q8q q8v
theorem qkC:qk prog qa q3j.nimp (qt prog q3j.iter 18) (qS f18 16) (qh q8q q8v (qf yX)):=gk q3j qc q8 (alc q8c aln) aln aln func18
noncomputable def q9L:Tmpl:={ t:=((.int .i64)::qp 4 ((.vec 0)::qp 10 ((.imm [(.sl [(.int .i64)])])::(.int .i64)::(.int .i64)::qp 30 []))),h:=[.vec 35 [(.sl [(.int .i64)])]],pro:=[(5,35,[(.sl [(.int .i64)])])] }
noncomputable def q9F:List Out:=[⟨(.exit 0),{ t:=(qp 5 ((.vec 0)::qp 43 [])),h:=[.vec 35 [(.sl [(.int .i64)])]] }⟩]
noncomputable def q4v:=qe [(18,q9 q3U q3T kz)] [] [((18,16),qh q8q q8v (qf yX))] 0
noncomputable def q1f:=zr q4v 18 f18 7 q9L q9F
theorem qlV:qk prog qa q4v.nimp (qt prog q4v.iter 18) (qS f18 7) (qh q9L q9F (qf q1f)):=gk q4v qc q8 (alc q8c aln) (alc (lk func18 qkC) aln) aln func18
noncomputable def ql6:=qe [(18,q9 q3U q3T kz)] [] [((18,7),qh q9L q9F (qf q1f))] 0
noncomputable def kD:=qm ql6 18 f18 true q3O q3Z
theorem q83:qI prog qa 18 (q9 q3O q3Z kD):=sk ql6 qc q8 (alc q8c aln) (alc (lk func18 qlV) aln) aln func18
def q4m:FIn:=⟨[(.int .i64),(.int .i64)],[]⟩
def q4n:List FOut:=[⟨(.imm [(.sl [(.int .i64)])]),[],none⟩]
noncomputable def q8f:Tmpl:={ t:=((.int .i64)::qp 4 ((.vec 0)::.any::(.imm [(.int .i64)])::.any::(.int .i64)::qp 6 ((.imm [(.sl [(.int .i64)])])::(.int .i64)::(.int .i64)::qp 30 []))),h:=[.vec 35 [(.sl [(.int .i64)])]] }
noncomputable def q7K:List Out:=[⟨(.exit 2),{ t:=((.int .i64)::qp 4 ((.vec 0)::qp 10 ((.imm [(.sl [(.int .i64)])])::(.int .i64)::(.int .i64)::qp 30 []))),h:=[.vec 35 [(.sl [(.int .i64)])]] }⟩]
noncomputable def q3m:=qe [(18,q9 q3O q3Z kD)] [] [] 0
noncomputable def yR:=zr q3m 18 f18 16 q8f q7K
theorem qkk:qk prog qa q3m.nimp (qt prog q3m.iter 18) (qS f18 16) (qh q8f q7K (qf yR)):=gk q3m qc q8 (alc q83 aln) aln aln func18
noncomputable def q9C:Tmpl:={ t:=((.int .i64)::qp 4 ((.vec 0)::qp 10 ((.imm [(.sl [(.int .i64)])])::(.int .i64)::(.int .i64)::qp 30 []))),h:=[.vec 35 [(.sl [(.int .i64)])]],pro:=[(5,35,[(.sl [(.int .i64)])])] }
noncomputable def q9J:List Out:=[⟨(.exit 0),{ t:=(qp 5 ((.vec 0)::qp 43 [])),h:=[.vec 35 [(.sl [(.int .i64)])]] }⟩]
noncomputable def q51:=qe [(18,q9 q3O q3Z kD)] [] [((18,16),qh q8f q7K (qf yR))] 0
noncomputable def q1h:=zr q51 18 f18 7 q9C q9J
theorem qms:qk prog qa q51.nimp (qt prog q51.iter 18) (qS f18 7) (qh q9C q9J (qf q1h)):=gk q51 qc q8 (alc q83 aln) (alc (lk func18 qkk) aln) aln func18
noncomputable def ql3:=qe [(18,q9 q3O q3Z kD)] [] [((18,7),qh q9C q9J (qf q1h))] 0
noncomputable def kU:=qm ql3 18 f18 true q4m q4n
theorem q7Z:qI prog qa 18 (q9 q4m q4n kU):=sk ql3 qc q8 (alc q83 aln) (alc (lk func18 qms) aln) aln func18
def qgH:FIn:=⟨[(.int .i64),(.int .i64)],[]⟩
def qgZ:List FOut:=[⟨(.imm [(.sl [(.int .i64)])]),[],none⟩]
noncomputable def qa4:Tmpl:={ t:=((.int .i64)::qp 4 ((.vec 0)::.any::(.imm [(.int .i64)])::.any::(.int .i64)::qp 6 ((.imm [(.sl [(.int .i64)])])::(.int .i64)::(.int .i64)::qp 30 []))),h:=[.vec 35 [(.sl [(.int .i64)])]] }
noncomputable def q9O:List Out:=[⟨(.exit 2),{ t:=((.int .i64)::qp 4 ((.vec 0)::qp 10 ((.imm [(.sl [(.int .i64)])])::(.int .i64)::(.int .i64)::qp 30 []))),h:=[.vec 35 [(.sl [(.int .i64)])]] }⟩]
noncomputable def q4M:=qe [(18,q9 q4m q4n kU)] [] [] 0
noncomputable def uS:=zr q4M 18 f18 16 qa4 q9O
theorem qlM:qk prog qa q4M.nimp (qt prog q4M.iter 18) (qS f18 16) (qh qa4 q9O (qf uS)):=gk q4M qc q8 (alc q7Z aln) aln aln func18
noncomputable def qbw:Tmpl:={ t:=((.int .i64)::qp 4 ((.vec 0)::qp 10 ((.imm [(.sl [(.int .i64)])])::(.int .i64)::(.int .i64)::qp 30 []))),h:=[.vec 35 [(.sl [(.int .i64)])]],pro:=[(5,35,[(.sl [(.int .i64)])])] }
noncomputable def qcF:List Out:=[⟨(.exit 0),{ t:=(qp 5 ((.vec 0)::qp 43 [])),h:=[.vec 35 [(.sl [(.int .i64)])]] }⟩]
noncomputable def q6J:=qe [(18,q9 q4m q4n kU)] [] [((18,16),qh qa4 q9O (qf uS))] 0
noncomputable def q2z:=zr q6J 18 f18 7 qbw qcF
theorem qnI:qk prog qa q6J.nimp (qt prog q6J.iter 18) (qS f18 7) (qh qbw qcF (qf q2z)):=gk q6J qc q8 (alc q7Z aln) (alc (lk func18 qlM) aln) aln func18
noncomputable def qo6:=qe [(18,q9 q4m q4n kU)] [] [((18,7),qh qbw qcF (qf q2z))] 0
noncomputable def q6l:=qm qo6 18 f18 true qgH qgZ
theorem qqx:qI prog qa 18 (q9 qgH qgZ q6l):=sk qo6 qc q8 (alc q7Z aln) (alc (lk func18 qnI) aln) aln func18
def qgi:FIn:=⟨[.str],[]⟩
def qg5:List FOut:=[⟨(.int .i64),[],none⟩]
noncomputable def qcE:Tmpl:={ t:=(.str::.any::.any::(.int .i64)::qp 11 []),h:=[] }
noncomputable def qbK:List Out:=[⟨(.exit 0),{ t:=(qp 15 []),h:=[] }⟩,⟨.ret,{ t:=(.any::.any::(.int .i64)::qp 12 []),h:=[] }⟩]
noncomputable def q68:=qe [] [(72,f72)] [] 0
noncomputable def q2D:=zr q68 72 f72 3 qcE qbK
theorem qnG:qk prog qa q68.nimp (qt prog q68.iter 72) (qS f72 3) (qh qcE qbK (qf q2D)):=gk q68 qc q8 aln aln (b1 func72) func72
noncomputable def qo4:=qe [] [(72,f72)] [((72,3),qh qcE qbK (qf q2D))] 0
noncomputable def q6h:=qm qo4 72 f72 true qgi qg5
theorem qqz:qI prog qa 72 (q9 qgi qg5 q6h):=sk qo4 qc q8 aln (alc (lk func72 qnG) aln) (b1 func72) func72
def qbe:FIn:=⟨[.str],[]⟩
def qaW:List FOut:=[⟨(.tuple [.str,.str]),[],none⟩]
noncomputable def qnZ:=qe [(72,q9 qgi qg5 q6h)] [(70,f70)] [] 0
noncomputable def yw:=qm qnZ 70 f70 true qbe qaW
theorem qhZ:qI prog qa 70 (q9 qbe qaW yw):=sk qnZ qc q8 (alc qqz aln) aln (b1 func70) func70
def yJ:FIn:=⟨[.str],[]⟩
def yI:List FOut:=[⟨.str,[],none⟩]
noncomputable def qqf:=qe [] [(116,f116)] [] 0
noncomputable def qy:=qm qqf 116 f116 true yJ yI
theorem jF:qI prog qa 116 (q9 yJ yI qy):=sk qqf qc q8 aln aln (b1 func116) func116
def jq:FIn:=⟨[.str],[]⟩
def ju:List FOut:=[⟨.bool,[],none⟩]
noncomputable def qnB:=qe [] [(118,f118)] [] 0
noncomputable def qz:=qm qnB 118 f118 true jq ju
theorem j0:qI prog qa 118 (q9 jq ju qz):=sk qnB qc q8 aln aln (b1 func118) func118
def kA:FIn:=⟨[.str,.bool],[]⟩
def kG:List FOut:=[⟨.str,[],none⟩]
noncomputable def ql8:=qe [] [(119,f119)] [] 0
noncomputable def za:=qm ql8 119 f119 true kA kG
theorem q0o:qI prog qa 119 (q9 kA kG za):=sk ql8 qc q8 aln aln (b1 func119) func119
def yH:FIn:=⟨[.str],[]⟩
def yM:List FOut:=[⟨.str,[],none⟩]
noncomputable def qlw:=qe [(116,q9 yJ yI qy),(118,q9 jq ju qz),(119,q9 kA kG za)] [(135,f135)] [] 0
noncomputable def zU:=qm qlw 135 f135 true yH yM
theorem yU:qI prog qa 135 (q9 yH yM zU):=sk qlw qc q8 (alc jF (alc j0 (alc q0o aln))) aln (b1 func135) func135
def qh2:FIn:=⟨[(.int .i64)],[]⟩
def qgj:List FOut:=[⟨.str,[],none⟩]
noncomputable def qgA:Tmpl:={ t:=((.int .i64)::.any::.any::.str::qp 33 []),h:=[] }
noncomputable def qg8:List Out:=[⟨(.exit 0),{ t:=((.int .i64)::.any::.any::.str::qp 33 []),h:=[] }⟩]
noncomputable def qaA:=qe [(135,q9 yH yM zU)] [] [] 0
noncomputable def qaQ:=zr qaA 93 f93 9 qgA qg8
theorem qqL:qk prog qa qaA.nimp (qt prog qaA.iter 93) (qS f93 9) (qh qgA qg8 (qf qaQ)):=gk qaA qc q8 (alc yU aln) aln aln func93
noncomputable def qru:=qe [(135,q9 yH yM zU)] [] [((93,9),qh qgA qg8 (qf qaQ))] 0
noncomputable def q57:=qm qru 93 f93 true qh2 qgj
theorem qkF:qI prog qa 93 (q9 qh2 qgj q57):=sk qru qc q8 (alc yU aln) (alc (lk func93 qqL) aln) aln func93
def q8i:FIn:=⟨[(.int .i64)],[]⟩
def q8u:List FOut:=[⟨.str,[],none⟩]
noncomputable def qj2:Tmpl:={ t:=((.int .i64)::.any::.any::.str::qp 33 []),h:=[] }
noncomputable def qjv:List Out:=[⟨(.exit 0),{ t:=((.int .i64)::.any::.any::.str::qp 33 []),h:=[] }⟩]
noncomputable def qdm:=qe [(93,q9 qh2 qgj q57),(135,q9 yH yM zU)] [] [] 0
noncomputable def qdB:=zr qdm 93 f93 9 qj2 qjv
theorem qry:qk prog qa qdm.nimp (qt prog qdm.iter 93) (qS f93 9) (qh qj2 qjv (qf qdB)):=gk qdm qc q8 (alc qkF (alc yU aln)) aln aln func93
noncomputable def quQ:=qe [(93,q9 qh2 qgj q57),(135,q9 yH yM zU)] [] [((93,9),qh qj2 qjv (qf qdB))] 0
noncomputable def zJ:=qm quQ 93 f93 true q8i q8u
theorem q61:qI prog qa 93 (q9 q8i q8u zJ):=sk quQ qc q8 (alc qkF (alc yU aln)) (alc (lk func93 qry) aln) aln func93
def qe4:FIn:=⟨[.str],[]⟩
def qf6:List FOut:=[⟨(.int .i64),[],none⟩]
noncomputable def q9w:Tmpl:={ t:=(.str::.any::.any::(.int .i64)::.str::(.int .i64)::qp 21 []),h:=[] }
noncomputable def q9U:List Out:=[⟨(.exit 0),{ t:=(.str::.any::.any::(.int .i64)::qp 23 []),h:=[] }⟩]
noncomputable def q52:=qe [(116,q9 yJ yI qy),(118,q9 jq ju qz)] [(156,f156)] [] 0
noncomputable def uT:=zr q52 156 f156 4 q9w q9U
theorem qm6:qk prog qa q52.nimp (qt prog q52.iter 156) (qS f156 4) (qh q9w q9U (qf uT)):=gk q52 qc q8 (alc jF (alc j0 aln)) aln (b1 func156) func156
noncomputable def qkY:=qe [(116,q9 yJ yI qy),(118,q9 jq ju qz)] [(156,f156)] [((156,4),qh q9w q9U (qf uT))] 0
noncomputable def yG:=qm qkY 156 f156 true qe4 qf6
theorem qpF:qI prog qa 156 (q9 qe4 qf6 yG):=sk qkY qc q8 (alc jF (alc j0 aln)) (alc (lk func156 qm6) aln) (b1 func156) func156
def q36:FIn:=⟨[.str,.str],[]⟩
def q3c:List FOut:=[⟨(.tuple [(.int .i64),(.int .i64),.bool]),[],none⟩]
noncomputable def qmT:=qe [(116,q9 yJ yI qy),(156,q9 qe4 qf6 yG)] [(120,f120)] [] 0
noncomputable def vF:=qm qmT 120 f120 true q36 q3c
theorem q54:qI prog qa 120 (q9 q36 q3c vF):=sk qmT qc q8 (alc jF (alc qpF aln)) aln (b1 func120) func120
def q9k:FIn:=⟨[.str],[]⟩
def q97:List FOut:=[⟨.str,[],none⟩]
noncomputable def qeV:Tmpl:={ t:=(.str::qp 13 []),h:=[] }
noncomputable def qeF:List Out:=[⟨(.exit 0),{ t:=(.str::qp 13 []),h:=[] }⟩]
noncomputable def q8E:=qe [] [(204,f204)] [] 0
noncomputable def q4g:=zr q8E 204 f204 2 qeV qeF
theorem qoL:qk prog qa q8E.nimp (qt prog q8E.iter 204) (qS f204 2) (qh qeV qeF (qf q4g)):=gk q8E qc q8 aln aln (b1 func204) func204
noncomputable def qpU:=qe [] [(204,f204)] [((204,2),qh qeV qeF (qf q4g))] 0
noncomputable def yE:=qm qpU 204 f204 true q9k q97
theorem qcH:qI prog qa 204 (q9 q9k q97 yE):=sk qpU qc q8 aln (alc (lk func204 qoL) aln) (b1 func204) func204
def qih:FIn:=⟨[.str,(.int .i64)],[]⟩
def qjo:List FOut:=[⟨.str,[],none⟩]
noncomputable def qea:Tmpl:={ t:=(.str::(.int .i64)::.any::.any::.any::(.vec 0)::(.int .i64)::qp 20 []),h:=[.vec 5 [(.int .u8)]] }
noncomputable def qeM:List Out:=[⟨(.exit 0),{ t:=(.str::(.int .i64)::.any::.any::.any::(.vec 0)::qp 21 []),h:=[.vec 5 [(.int .u8)]] }⟩]
noncomputable def q8T:=qe [] [(231,f231)] [] 0
noncomputable def q1p:=zr q8T 231 f231 4 qea qeM
theorem qpK:qk prog qa q8T.nimp (qt prog q8T.iter 231) (qS f231 4) (qh qea qeM (qf q1p)):=gk q8T qc q8 aln aln (b1 func231) func231
noncomputable def qpQ:=qe [] [(231,f231)] [((231,4),qh qea qeM (qf q1p))] 0
noncomputable def q5N:=qm qpQ 231 f231 true qih qjo
theorem qt1:qI prog qa 231 (q9 qih qjo q5N):=sk qpQ qc q8 aln (alc (lk func231 qpK) aln) (b1 func231) func231
def qej:FIn:=⟨[(.int .u8),(.int .u8),(.int .i64),.bool],[]⟩
def qdQ:List FOut:=[⟨(.tuple [(.int .u8),(.int .i64)]),[],none⟩]
noncomputable def qlf:=qe [] [(232,f232)] [] 0
noncomputable def q4d:=qm qlf 232 f232 true qej qdQ
theorem qoX:qI prog qa 232 (q9 qej qdQ q4d):=sk qlf qc q8 aln aln (b1 func232) func232
def qaK:FIn:=⟨[.str,.str,.bool],[]⟩
def qb7:List FOut:=[⟨.str,[],none⟩]
noncomputable def qc8:Tmpl:={ t:=(.str::.str::.bool::qp 5 ((.vec 0)::(.int .i64)::(.int .i64)::qp 38 [])),h:=[.vec 5 [(.int .u8)]] }
noncomputable def qbx:List Out:=[⟨(.exit 0),{ t:=(qp 8 ((.vec 0)::qp 40 [])),h:=[.vec 5 [(.int .u8)]] }⟩]
noncomputable def qeQ:List (FuncId×zj):=[(204,q9 q9k q97 yE),(231,q9 qih qjo q5N),(232,q9 qej qdQ q4d)]
theorem qiR:∀x,x∈qeQ->qI prog qa x.1 x.2:=(alc qcH (alc qt1 (alc qoX aln)))
noncomputable def q6u:=qe qeQ [(183,f183)] [] 0
noncomputable def q0z:=zr q6u 183 f183 7 qc8 qbx
theorem qnW:qk prog qa q6u.nimp (qt prog q6u.iter 183) (qS f183 7) (qh qc8 qbx (qf q0z)):=gk q6u qc q8 qiR aln (b1 func183) func183
noncomputable def qna:=qe qeQ [(183,f183)] [((183,7),qh qc8 qbx (qf q0z))] 0
noncomputable def yx:=qm qna 183 f183 true qaK qb7
theorem qhp:qI prog qa 183 (q9 qaK qb7 yx):=sk qna qc q8 qiR (alc (lk func183 qnW) aln) (b1 func183) func183
def qdb:FIn:=⟨[.str,.str],[]⟩
def qdE:List FOut:=[⟨.bool,[],none⟩]
noncomputable def qq0:=qe [] [(184,f184)] [] 0
noncomputable def q2B:=qm qq0 184 f184 true qdb qdE
theorem qie:qI prog qa 184 (q9 qdb qdE q2B):=sk qq0 qc q8 aln aln (b1 func184) func184
def qdu:FIn:=⟨[.str,.str],[]⟩
def qdl:List FOut:=[⟨.str,[],none⟩]
noncomputable def qql:=qe [(93,q9 q8i q8u zJ),(116,q9 yJ yI qy),(118,q9 jq ju qz),(119,q9 kA kG za),(120,q9 q36 q3c vF),(183,q9 qaK qb7 yx),(184,q9 qdb qdE q2B)] [(136,f136)] [] 0
noncomputable def q2o:=qm qql 136 f136 true qdu qdl
theorem qj0:qI prog qa 136 (q9 qdu qdl q2o):=sk qql qc q8 (alc q61 (alc jF (alc j0 (alc q0o (alc q54 (alc qhp (alc qie aln))))))) aln (b1 func136) func136
def q71:FIn:=⟨[.str,.str],[]⟩
def q65:List FOut:=[⟨.str,[],none⟩]
noncomputable def qor:=qe [(135,q9 yH yM zU),(136,q9 qdu qdl q2o)] [(117,f117)] [] 0
noncomputable def vQ:=qm qor 117 f117 true q71 q65
theorem qa9:qI prog qa 117 (q9 q71 q65 vQ):=sk qor qc q8 (alc yU (alc qj0 aln)) aln (b1 func117) func117
def qaC:FIn:=⟨[.str,.str],[]⟩
def qaP:List FOut:=[⟨(.int .i64),[],none⟩]
noncomputable def qnt:=qe [(117,q9 q71 q65 vQ),(118,q9 jq ju qz)] [(73,f73)] [] 0
noncomputable def q0M:=qm qnt 73 f73 true qaC qaP
theorem qhD:qI prog qa 73 (q9 qaC qaP q0M):=sk qnt qc q8 (alc qa9 (alc j0 aln)) aln (b1 func73) func73
def qc0:FIn:=⟨[.str,.str],[]⟩
def qcx:List FOut:=[⟨.str,[],none⟩]
noncomputable def q82:Tmpl:={ t:=(.str::.str::.any::.any::.any::(.vec 0)::(.int .i64)::(.int .i64)::qp 69 []),h:=[.vec 3 [(.int .i64)]] }
noncomputable def q7S:List Out:=[⟨(.exit 2),{ t:=(.str::.str::.any::.any::.any::(.vec 0)::(.int .i64)::qp 70 []),h:=[.vec 3 [(.int .i64)]] }⟩]
noncomputable def q1d:List (FuncId×zj):=[(204,q9 q9k q97 yE)]
theorem q3x:∀x,x∈q1d->qI prog qa x.1 x.2:=(alc qcH aln)
noncomputable def q3n:=qe q1d [(158,f158)] [] 0
noncomputable def yT:=zr q3n 158 f158 9 q82 q7S
theorem qkx:qk prog qa q3n.nimp (qt prog q3n.iter 158) (qS f158 9) (qh q82 q7S (qf yT)):=gk q3n qc q8 q3x aln (b1 func158) func158
noncomputable def q81:Tmpl:={ t:=(.str::.str::.any::.any::.any::(.vec 0)::(.int .i64)::qp 70 []),h:=[.vec 3 [(.int .i64)]] }
noncomputable def q85:List Out:=[⟨(.exit 0),{ t:=(qp 5 ((.vec 0)::qp 71 [])),h:=[.vec 3 [(.int .i64)]] }⟩]
noncomputable def q2W:=qe q1d [(158,f158)] [((158,9),qh q82 q7S (qf yT))] 0
noncomputable def yP:=zr q2W 158 f158 4 q81 q85
theorem qkB:qk prog qa q2W.nimp (qt prog q2W.iter 158) (qS f158 4) (qh q81 q85 (qf yP)):=gk q2W qc q8 q3x (alc (lk func158 qkx) aln) (b1 func158) func158
noncomputable def q6E:Tmpl:={ t:=(qp 5 ((.vec 0)::.any::.any::(.vec 1)::(.int .i64)::(.int .i64)::qp 66 [])),h:=[.vec 3 [(.int .i64)],.vec 5 [(.int .u8)]] }
noncomputable def q6k:List Out:=[⟨(.exit 4),{ t:=(qp 8 ((.vec 1)::qp 68 [])),h:=[.dead,.vec 5 [(.int .u8)]] }⟩]
noncomputable def q26:=qe q1d [(158,f158)] [] 0
noncomputable def ya:=zr q26 158 f158 17 q6E q6k
theorem qjQ:qk prog qa q26.nimp (qt prog q26.iter 158) (qS f158 17) (qh q6E q6k (qf ya)):=gk q26 qc q8 q3x aln (b1 func158) func158
noncomputable def qja:=qe q1d [(158,f158)] [((158,4),qh q81 q85 (qf yP)),((158,17),qh q6E q6k (qf ya))] 0
noncomputable def q2S:=qm qja 158 f158 true qc0 qcx
theorem qmO:qI prog qa 158 (q9 qc0 qcx q2S):=sk qja qc q8 q3x (alc (lk func158 qkB) (alc (lk func158 qjQ) aln)) (b1 func158) func158
def qbc:FIn:=⟨[.str,.str],[]⟩
def qaR:List FOut:=[⟨.str,[],none⟩]
noncomputable def qnT:=qe [(93,q9 q8i q8u zJ),(116,q9 yJ yI qy),(118,q9 jq ju qz),(119,q9 kA kG za),(120,q9 q36 q3c vF),(158,q9 qc0 qcx q2S)] [(122,f122)] [] 0
noncomputable def wS:=qm qnT 122 f122 true qbc qaR
theorem qhE:qI prog qa 122 (q9 qbc qaR wS):=sk qnT qc q8 (alc q61 (alc jF (alc j0 (alc q0o (alc q54 (alc qmO aln)))))) aln (b1 func122) func122
def qcp:FIn:=⟨[.str,.str],[]⟩
def qbO:List FOut:=[⟨(.tuple [.str,.str]),[],none⟩]
noncomputable def q6d:Tmpl:={ t:=(.str::.str::qp 4 (.str::.str::(.int .i64)::(.int .u8)::qp 31 [])),h:=[] }
noncomputable def q60:List Out:=[⟨(.exit 2),{ t:=(.str::.str::qp 4 (.str::.str::(.int .i64)::(.int .u8)::qp 31 [])),h:=[] }⟩]
noncomputable def q4K:List (FuncId×zj):=[(183,q9 qaK qb7 yx),(184,q9 qdb qdE q2B),(204,q9 q9k q97 yE)]
theorem q8d:∀x,x∈q4K->qI prog qa x.1 x.2:=(alc qhp (alc qie (alc qcH aln)))
noncomputable def q29:=qe q4K [(157,f157)] [] 0
noncomputable def jQ:=zr q29 157 f157 11 q6d q60
theorem qjp:qk prog qa q29.nimp (qt prog q29.iter 157) (qS f157 11) (qh q6d q60 (qf jQ)):=gk q29 qc q8 q8d aln (b1 func157) func157
noncomputable def q8e:Tmpl:={ t:=(.str::.str::qp 4 (.str::.str::(.int .i64)::qp 32 [])),h:=[] }
noncomputable def q7V:List Out:=[⟨(.exit 0),{ t:=(qp 6 (.str::.str::qp 33 [])),h:=[] }⟩]
noncomputable def q34:=qe q4K [(157,f157)] [((157,11),qh q6d q60 (qf jQ))] 0
noncomputable def q09:=zr q34 157 f157 4 q8e q7V
theorem qkl:qk prog qa q34.nimp (qt prog q34.iter 157) (qS f157 4) (qh q8e q7V (qf q09)):=gk q34 qc q8 q8d (alc (lk func157 qjp) aln) (b1 func157) func157
noncomputable def qiM:=qe q4K [(157,f157)] [((157,4),qh q8e q7V (qf q09))] 0
noncomputable def q2N:=qm qiM 157 f157 true qcp qbO
theorem qop:qI prog qa 157 (q9 qcp qbO q2N):=sk qiM qc q8 q8d (alc (lk func157 qkl) aln) (b1 func157) func157
def q8J:FIn:=⟨[.str,.str],[]⟩
def q8P:List FOut:=[⟨(.tuple [.str,.str]),[],none⟩]
noncomputable def qkP:=qe [(93,q9 q8i q8u zJ),(116,q9 yJ yI qy),(117,q9 q71 q65 vQ),(118,q9 jq ju qz),(119,q9 kA kG za),(120,q9 q36 q3c vF),(122,q9 qbc qaR wS),(157,q9 qcp qbO q2N)] [(121,f121)] [] 0
noncomputable def vq:=qm qkP 121 f121 true q8J q8P
theorem qff:qI prog qa 121 (q9 q8J q8P vq):=sk qkP qc q8 (alc q61 (alc jF (alc qa9 (alc j0 (alc q0o (alc q54 (alc qhE (alc qop aln)))))))) aln (b1 func121) func121
def qeI:FIn:=⟨[.str,.str],[]⟩
def qeW:List FOut:=[⟨.str,[],none⟩]
noncomputable def q8t:Tmpl:={ t:=(qp 5 ((.int .i64)::(.int .i64)::qp 36 [])),h:=[] }
noncomputable def q7J:List Out:=[⟨(.exit 2),{ t:=(qp 5 ((.int .i64)::qp 37 [])),h:=[] }⟩]
noncomputable def q7w:List (FuncId×zj):=[(93,q9 q8i q8u zJ),(116,q9 yJ yI qy),(119,q9 kA kG za),(120,q9 q36 q3c vF),(121,q9 q8J q8P vq)]
theorem q9M:∀x,x∈q7w->qI prog qa x.1 x.2:=(alc q61 (alc jF (alc q0o (alc q54 (alc qff aln)))))
noncomputable def q3w:=qe q7w [(74,f74)] [] 0
noncomputable def yS:=zr q3w 74 f74 10 q8t q7J
theorem qky:qk prog qa q3w.nimp (qt prog q3w.iter 74) (qS f74 10) (qh q8t q7J (qf yS)):=gk q3w qc q8 q9M aln (b1 func74) func74
noncomputable def q9t:Tmpl:={ t:=(.str::.str::qp 41 []),h:=[] }
noncomputable def q9A:List Out:=[⟨(.exit 0),{ t:=(.str::qp 42 []),h:=[] }⟩,⟨.ret,{ t:=(qp 4 (.str::qp 38 [])),h:=[] }⟩]
noncomputable def q4x:=qe q7w [(74,f74)] [((74,10),qh q8t q7J (qf yS))] 0
noncomputable def q1e:=zr q4x 74 f74 3 q9t q9A
theorem qmA:qk prog qa q4x.nimp (qt prog q4x.iter 74) (qS f74 3) (qh q9t q9A (qf q1e)):=gk q4x qc q8 q9M (alc (lk func74 qky) aln) (b1 func74) func74
noncomputable def qlj:=qe q7w [(74,f74)] [((74,3),qh q9t q9A (qf q1e))] 0
noncomputable def q3Y:=qm qlj 74 f74 true qeI qeW
theorem qoU:qI prog qa 74 (q9 qeI qeW q3Y):=sk qlj qc q8 q9M (alc (lk func74 qmA) aln) (b1 func74) func74
def ul:FIn:=⟨[.str,.str],[]⟩
def u6:List FOut:=[⟨(.imm [.str]),[],none⟩]
noncomputable def qiK:=qe [(70,q9 qbe qaW yw),(122,q9 qbc qaR wS)] [(75,f75)] [] 0
noncomputable def zn:=qm qiK 75 f75 true ul u6
theorem k8:qI prog qa 75 (q9 ul u6 zn):=sk qiK qc q8 (alc qhZ (alc qhE aln)) aln (b1 func75) func75
def qaZ:FIn:=⟨[.str,.str],[]⟩
def qaV:List FOut:=[⟨(.int .i64),[],none⟩]
noncomputable def qnc:=qe [(73,q9 qaC qaP q0M),(75,q9 ul u6 zn)] [(20,f20)] [] 0
noncomputable def q0Y:=qm qnc 20 f20 true qaZ qaV
theorem qhQ:qI prog qa 20 (q9 qaZ qaV q0Y):=sk qnc qc q8 (alc qhD (alc k8 aln)) aln (b1 func20) func20
def q4p:FIn:=⟨[(.imm [(.int .i64),(.int .i64),(.int .i64)]),(.imm [(.int .i64)])],[]⟩
def q4c:List FOut:=[⟨(.imm [(.int .i64),(.int .i64),(.int .i64)]),[],none⟩]
noncomputable def qa1:Tmpl:={ t:=((.imm [(.int .i64),(.int .i64),(.int .i64)])::(.imm [(.int .i64)])::.any::.any::.any::(.vec 0)::(.int .i64)::qp 17 []),h:=[.vec 31 [(.int .i64),(.int .i64),(.int .i64)]],pro:=[(5,31,[(.int .i64),(.int .i64),(.int .i64)])] }
noncomputable def q9q:List Out:=[⟨(.exit 0),{ t:=(qp 5 ((.vec 0)::qp 18 [])),h:=[.vec 31 [(.int .i64),(.int .i64),(.int .i64)]] }⟩]
noncomputable def q4X:=qe [] [(21,f21)] [] 0
noncomputable def uW:=zr q4X 21 f21 4 qa1 q9q
theorem qmt:qk prog qa q4X.nimp (qt prog q4X.iter 21) (qS f21 4) (qh qa1 q9q (qf uW)):=gk q4X qc q8 aln aln (b1 func21) func21
noncomputable def qkJ:=qe [] [(21,f21)] [((21,4),qh qa1 q9q (qf uW))] 0
noncomputable def js:=qm qkJ 21 f21 true q4p q4c
theorem q8w:qI prog qa 21 (q9 q4p q4c js):=sk qkJ qc q8 aln (alc (lk func21 qmt) aln) (b1 func21) func21
def qlJ:FIn:=⟨[(.imm [(.int .i64),(.int .i64)])],[]⟩
def qlL:List FOut:=[⟨.bool,[],none⟩]
noncomputable def qsF:=qe [] [(22,f22)] [] 0
noncomputable def q8j:=qm qsF 22 f22 true qlJ qlL
theorem quc:qI prog qa 22 (q9 qlJ qlL q8j):=sk qsF qc q8 aln aln (b1 func22) func22
def q4E:FIn:=⟨[(.imm [(.int .i64),(.int .i64),(.int .i64)]),(.int .i64)],[]⟩
def q4J:List FOut:=[⟨(.tuple [(.agg [.str,.str,.str,.str,(.imm [.str])]),(.int .i64)]),[],none⟩]
noncomputable def qhl:=qe [(123,q9 q4V q4S zS)] [(78,f78)] [] 0
noncomputable def zk:=qm qhl 78 f78 true q4E q4J
theorem qbQ:qI prog qa 78 (q9 q4E q4J zk):=sk qhl qc q8 (alc qck aln) aln (b1 func78) func78
def q4P:FIn:=⟨[(.imm [(.int .i64),(.int .i64)])],[]⟩
def q4y:List FOut:=[⟨(.tuple [(.agg [.str,.str]),.str,(.int .i64)]),[],none⟩]
noncomputable def qhk:=qe [(65,q9 q45 q4l jw),(67,q9 q1m q17 wT),(68,q9 uv uw wF),(78,q9 q4E q4J zk)] [(24,f24)] [] 0
noncomputable def zT:=qm qhk 24 f24 true q4P q4y
theorem qcO:qI prog qa 24 (q9 q4P q4y zT):=sk qhk qc q8 (alc q8k (alc q5c (alc q4k (alc qbQ aln)))) aln (b1 func24) func24
def jE:FIn:=⟨[(.imm [.str]),(.imm [.str])],[]⟩
def jC:List FOut:=[⟨.bool,[],none⟩]
noncomputable def j4:Tmpl:={ t:=((.imm [.str])::(.imm [.str])::qp 10 ((.int .i64)::(.int .i64)::qp 12 [])),h:=[] }
noncomputable def j5:List Out:=[⟨(.exit 0),{ t:=(qp 26 []),h:=[] }⟩,⟨.ret,{ t:=(qp 4 (.bool::qp 21 [])),h:=[] }⟩]
noncomputable def zL:=qe [] [(127,f127)] [] 0
noncomputable def qM:=zr zL 127 f127 6 j4 j5
theorem q5u:qk prog qa zL.nimp (qt prog zL.iter 127) (qS f127 6) (qh j4 j5 (qf qM)):=gk zL qc q8 aln aln (b1 func127) func127
noncomputable def q0D:=qe [] [(127,f127)] [((127,6),qh j4 j5 (qf qM))] 0
noncomputable def z8:=qm q0D 127 f127 true jE jC
theorem q6t:qI prog qa 127 (q9 jE jC z8):=sk q0D qc q8 aln (alc (lk func127 q5u) aln) (b1 func127) func127
def q6e:FIn:=⟨[(.imm [(.int .i64),(.int .i64),(.int .i64)]),(.imm [.str]),(.imm [(.int .i64)]),(.int .i64)],[]⟩
def q7q:List FOut:=[⟨(.tuple [.bool,(.int .i64)]),[],none⟩]
noncomputable def q3D:Tmpl:={ t:=((.imm [(.int .i64),(.int .i64),(.int .i64)])::(.imm [.str])::(.imm [(.int .i64)])::(.int .i64)::qp 14 ((.imm [.str])::(.int .i64)::(.int .i64)::qp 71 [])),h:=[] }
noncomputable def q3E:List Out:=[⟨(.exit 0),{ t:=((.imm [(.int .i64),(.int .i64),(.int .i64)])::(.imm [.str])::(.imm [(.int .i64)])::(.int .i64)::qp 88 []),h:=[] }⟩,⟨.ret,{ t:=(qp 8 (.bool::(.int .i64)::qp 82 [])),h:=[] }⟩]
noncomputable def q0H:List (FuncId×zj):=[(106,q9 kf kv zd),(114,q9 q0X q0R zf),(127,q9 jE jC z8)]
theorem q3G:∀x,x∈q0H->qI prog qa x.1 x.2:=(alc uV (alc q7B (alc q6t aln)))
noncomputable def q02:=qe q0H [(83,f83)] [] 0
noncomputable def vV:=zr q02 83 f83 3 q3D q3E
theorem qgq:qk prog qa q02.nimp (qt prog q02.iter 83) (qS f83 3) (qh q3D q3E (qf vV)):=gk q02 qc q8 q3G aln (b1 func83) func83
noncomputable def q2r:Tmpl:={ t:=((.imm [(.int .i64),(.int .i64),(.int .i64)])::(.imm [.str])::(.imm [(.int .i64)])::(.int .i64)::qp 35 ((.imm [(.int .i64)])::(.int .i64)::(.int .i64)::qp 50 [])),h:=[] }
noncomputable def q2L:List Out:=[⟨(.exit 3),{ t:=((.imm [(.int .i64),(.int .i64),(.int .i64)])::(.imm [.str])::(.imm [(.int .i64)])::(.int .i64)::qp 88 []),h:=[] }⟩,⟨.ret,{ t:=(qp 8 (.bool::(.int .i64)::qp 82 [])),h:=[] }⟩]
noncomputable def kq:=qe q0H [(83,f83)] [] 0
noncomputable def wZ:=zr kq 83 f83 18 q2r q2L
theorem qfZ:qk prog qa kq.nimp (qt prog kq.iter 83) (qS f83 18) (qh q2r q2L (qf wZ)):=gk kq qc q8 q3G aln (b1 func83) func83
noncomputable def qda:=qe q0H [(83,f83)] [((83,3),qh q3D q3E (qf vV)),((83,18),qh q2r q2L (qf wZ))] 0
noncomputable def jO:=qm qda 83 f83 true q6e q7q
theorem qjx:qI prog qa 83 (q9 q6e q7q jO):=sk qda qc q8 q3G (alc (lk func83 qgq) (alc (lk func83 qfZ) aln)) (b1 func83) func83
def q1M:FIn:=⟨[(.imm [(.int .i64),(.int .i64)]),(.agg [.str,.str]),.str,(.imm [(.int .i64)])],[]⟩
def q20:List FOut:=[⟨(.tuple [.bool,(.int .i64)]),[],none⟩]
noncomputable def q7I:=qe [(65,q9 q45 q4l jw),(67,q9 q1m q17 wT),(83,q9 q6e q7q jO)] [(29,f29)] [] 0
noncomputable def wG:=qm q7I 29 f29 true q1M q20
theorem qdR:qI prog qa 29 (q9 q1M q20 wG):=sk q7I qc q8 (alc q8k (alc q5c (alc qjx aln))) aln (b1 func29) func29
def qp2:FIn:=⟨[(.int .i64),(.int .i64)],[]⟩
def qpL:List FOut:=[⟨(.agg [(.int .i64),(.int .i64)]),[],none⟩]
noncomputable def qvB:=qe [] [(76,f76)] [] 0
noncomputable def q1q:=qm qvB 76 f76 true qp2 qpL
theorem qwz:qI prog qa 76 (q9 qp2 qpL q1q):=sk qvB qc q8 aln aln (b1 func76) func76
def q1F:FIn:=⟨[(.imm [(.int .i64)]),(.imm [(.int .i64)])],[]⟩
def q1K:List FOut:=[⟨.bool,[],none⟩]
noncomputable def q0u:Tmpl:={ t:=((.imm [(.int .i64)])::(.imm [(.int .i64)])::qp 10 ((.int .i64)::(.int .i64)::qp 12 [])),h:=[] }
noncomputable def q0t:List Out:=[⟨(.exit 0),{ t:=(qp 26 []),h:=[] }⟩,⟨.ret,{ t:=(qp 4 (.bool::qp 21 [])),h:=[] }⟩]
noncomputable def jV:=qe [] [(77,f77)] [] 0
noncomputable def zI:=zr jV 77 f77 6 q0u q0t
theorem qbF:qk prog qa jV.nimp (qt prog jV.iter 77) (qS f77 6) (qh q0u q0t (qf zI)):=gk jV qc q8 aln aln (b1 func77) func77
noncomputable def q7F:=qe [] [(77,f77)] [((77,6),qh q0u q0t (qf zI))] 0
noncomputable def wB:=qm q7F 77 f77 true q1F q1K
theorem qen:qI prog qa 77 (q9 q1F q1K wB):=sk q7F qc q8 aln (alc (lk func77 qbF) aln) (b1 func77) func77
def qbd:FIn:=⟨[],[]⟩
def qaJ:List FOut:=[⟨.bool,[],none⟩]
noncomputable def qo0:=qe [(16,q9 q4A q4C zV),(17,q9 q4I q4H zX),(24,q9 q4P q4y zT),(29,q9 q1M q20 wG),(76,q9 qp2 qpL q1q),(77,q9 q1F q1K wB)] [(23,f23)] [] 0
noncomputable def zZ:=qm qo0 23 f23 true qbd qaJ
theorem qhx:qI prog qa 23 (q9 qbd qaJ zZ):=sk qo0 qc q8 (alc qbA (alc qbN (alc qcO (alc qdR (alc qwz (alc qen aln)))))) aln (b1 func23) func23
def q8H:FIn:=⟨[(.imm [(.int .i64),(.int .i64)])],[]⟩
def q8F:List FOut:=[⟨(.imm [(.int .i64),(.int .i64),(.int .i64)]),[],none⟩]
noncomputable def qa8:Tmpl:={ t:=((.imm [(.int .i64),(.int .i64)])::.any::.any::(.vec 0)::(.int .i64)::qp 21 []),h:=[.vec 31 [(.int .i64),(.int .i64),(.int .i64)]],pro:=[(3,31,[(.int .i64),(.int .i64),(.int .i64)])] }
noncomputable def q9p:List Out:=[⟨(.exit 0),{ t:=(.any::.any::.any::(.vec 0)::qp 22 []),h:=[.vec 31 [(.int .i64),(.int .i64),(.int .i64)]] }⟩]
noncomputable def q4Z:=qe [] [(42,f42)] [] 0
noncomputable def uN:=zr q4Z 42 f42 4 qa8 q9p
theorem qlB:qk prog qa q4Z.nimp (qt prog q4Z.iter 42) (qS f42 4) (qh qa8 q9p (qf uN)):=gk q4Z qc q8 aln aln (b1 func42) func42
noncomputable def qle:=qe [] [(42,f42)] [((42,4),qh qa8 q9p (qf uN))] 0
noncomputable def kV:=qm qle 42 f42 true q8H q8F
theorem qfG:qI prog qa 42 (q9 q8H q8F kV):=sk qle qc q8 aln (alc (lk func42 qlB) aln) (b1 func42) func42
def qkc:FIn:=⟨[(.int .i64)],[]⟩
def qke:List FOut:=[⟨.bool,[],none⟩]
noncomputable def qvC:=qe [] [(86,f86)] [] 0
noncomputable def ji:=qm qvC 86 f86 true qkc qke
theorem qne:qI prog qa 86 (q9 qkc qke ji):=sk qvC qc q8 aln aln (b1 func86) func86
def qb0:FIn:=⟨[(.agg [(.int .i64),(.int .i64)])],[]⟩
def qaH:List FOut:=[⟨.bool,[],none⟩]
noncomputable def qnJ:=qe [(86,q9 qkc qke ji)] [(32,f32)] [] 0
noncomputable def q3v:=qm qnJ 32 f32 true qb0 qaH
theorem qhV:qI prog qa 32 (q9 qb0 qaH q3v):=sk qnJ qc q8 (alc qne aln) aln (b1 func32) func32
def qgI:FIn:=⟨[(.imm [(.int .i64),(.int .i64)])],[]⟩
def qgU:List FOut:=[⟨(.int .i64),[],none⟩]
noncomputable def qcu:Tmpl:={ t:=((.imm [(.int .i64),(.int .i64)])::.any::.any::(.int .i64)::qp 15 []),h:=[] }
noncomputable def qbt:List Out:=[⟨(.exit 0),{ t:=(qp 19 []),h:=[] }⟩,⟨.ret,{ t:=(.any::.any::(.int .i64)::qp 16 []),h:=[] }⟩]
noncomputable def q6S:=qe [(32,q9 qb0 qaH q3v)] [(50,f50)] [] 0
noncomputable def un:=zr q6S 50 f50 6 qcu qbt
theorem qmM:qk prog qa q6S.nimp (qt prog q6S.iter 50) (qS f50 6) (qh qcu qbt (qf un)):=gk q6S qc q8 (alc qhV aln) aln (b1 func50) func50
noncomputable def qoq:=qe [(32,q9 qb0 qaH q3v)] [(50,f50)] [((50,6),qh qcu qbt (qf un))] 0
noncomputable def q6g:=qm qoq 50 f50 true qgI qgU
theorem qqC:qI prog qa 50 (q9 qgI qgU q6g):=sk qoq qc q8 (alc qhV aln) (alc (lk func50 qmM) aln) (b1 func50) func50
def qd7:FIn:=⟨[(.imm [(.int .i64),(.int .i64)])],[]⟩
def qdf:List FOut:=[⟨(.int .i64),[],none⟩]
noncomputable def qpN:=qe [(50,q9 qgI qgU q6g)] [(79,f79)] [] 0
noncomputable def q2E:=qm qpN 79 f79 true qd7 qdf
theorem qiT:qI prog qa 79 (q9 qd7 qdf q2E):=sk qpN qc q8 (alc qqC aln) aln (b1 func79) func79
def q6w:FIn:=⟨[(.int .i64)],[]⟩
def q6y:List FOut:=[⟨.str,[],none⟩]
noncomputable def qns:=qe [(93,q9 q8i q8u zJ)] [(35,f35)] [] 0
noncomputable def wg:=qm qns 35 f35 true q6w q6y
theorem q9S:qI prog qa 35 (q9 q6w q6y wg):=sk qns qc q8 (alc q61 aln) aln (b1 func35) func35
def q1z:FIn:=⟨[.str,.str],[]⟩
def q1o:List FOut:=[⟨.str,[],none⟩]
noncomputable def qln:=qe [(74,q9 qeI qeW q3Y),(118,q9 jq ju qz),(121,q9 q8J q8P vq),(135,q9 yH yM zU)] [(102,f102)] [] 0
noncomputable def wQ:=qm qln 102 f102 true q1z q1o
theorem q3e:qI prog qa 102 (q9 q1z q1o wQ):=sk qln qc q8 (alc qoU (alc j0 (alc qff (alc yU aln)))) aln (b1 func102) func102
def q6r:FIn:=⟨[.str,.str],[]⟩
def q6K:List FOut:=[⟨.str,[],none⟩]
noncomputable def qnm:=qe [(75,q9 ul u6 zn),(102,q9 q1z q1o wQ)] [(54,f54)] [] 0
noncomputable def zC:=qm qnm 54 f54 true q6r q6K
theorem q9Y:qI prog qa 54 (q9 q6r q6K zC):=sk qnm qc q8 (alc k8 (alc q3e aln)) aln (b1 func54) func54
def qav:FIn:=⟨[.str,.str],[]⟩
def qaq:List FOut:=[⟨.str,[],none⟩]
noncomputable def qny:=qe [(75,q9 ul u6 zn),(102,q9 q1z q1o wQ),(117,q9 q71 q65 vQ)] [(96,f96)] [] 0
noncomputable def vG:=qm qny 96 f96 true qav qaq
theorem qhR:qI prog qa 96 (q9 qav qaq vG):=sk qny qc q8 (alc k8 (alc q3e (alc qa9 aln))) aln (b1 func96) func96
def q5z:FIn:=⟨[.str,.str],[]⟩
def q5B:List FOut:=[⟨.str,[],none⟩]
noncomputable def qpP:=qe [(75,q9 ul u6 zn),(102,q9 q1z q1o wQ),(136,q9 qdu qdl q2o)] [(97,f97)] [] 0
noncomputable def zO:=qm qpP 97 f97 true q5z q5B
theorem q6M:qI prog qa 97 (q9 q5z q5B zO):=sk qpP qc q8 (alc k8 (alc q3e (alc qj0 aln))) aln (b1 func97) func97
def q9h:FIn:=⟨[(.agg [.str,.str,.str]),(.agg [(.int .i64),(.int .i64),(.int .i64)])],[]⟩
def q92:List FOut:=[⟨.str,[],none⟩]
noncomputable def qe1:Tmpl:={ t:=(.any::.any::(.ptr 0 0)::.any::.any::.str::qp 9 ((.agg [(.int .i64),(.int .i64),(.int .i64)])::(.int .i64)::qp 16 [])),h:=[.cells [.str,.str,.str]] }
noncomputable def qex:List Out:=[⟨(.exit 0),{ t:=(qp 5 (.str::qp 27 [])),h:=[] }⟩]
noncomputable def qgG:List (FuncId×zj):=[(35,q9 q6w q6y wg),(54,q9 q6r q6K zC),(96,q9 qav qaq vG),(97,q9 q5z q5B zO)]
theorem qlm:∀x,x∈qgG->qI prog qa x.1 x.2:=(alc q9S (alc q9Y (alc qhR (alc q6M aln))))
noncomputable def q8x:=qe qgG [(43,f43)] [] 0
noncomputable def q1v:=zr q8x 43 f43 4 qe1 qex
theorem qpe:qk prog qa q8x.nimp (qt prog q8x.iter 43) (qS f43 4) (qh qe1 qex (qf q1v)):=gk q8x qc q8 qlm aln (b1 func43) func43
noncomputable def qqd:=qe qgG [(43,f43)] [((43,4),qh qe1 qex (qf q1v))] 0
noncomputable def yF:=qm qqd 43 f43 true q9h q92
theorem qcb:qI prog qa 43 (q9 q9h q92 yF):=sk qqd qc q8 qlm (alc (lk func43 qpe) aln) (b1 func43) func43
end Go.Eng

namespace Go.Eng
open Go.Proofs
open Tryz
def qiP:FIn:=⟨[(.agg [(.int .i64),(.int .i64),(.int .i64)]),(.agg [(.int .i64),(.int .i64),(.int .i64)])],[]⟩
def qiH:List FOut:=[⟨(.agg [(.int .i64),(.int .i64),(.int .i64)]),[],none⟩]
noncomputable def qq3:=qe [] [(169,f169)] [] 0
noncomputable def q5G:=qm qq3 169 f169 true qiP qiH
theorem qti:qI prog qa 169 (q9 qiP qiH q5G):=sk qq3 qc q8 aln aln (b1 func169) func169
def q6i:FIn:=⟨[(.agg [(.int .i64),(.int .i64),(.int .i64)]),(.agg [(.int .i64),(.int .i64),(.int .i64)])],[]⟩
def q79:List FOut:=[⟨(.int .i64),[],none⟩]
noncomputable def qdv:=qe [] [(170,f170)] [] 0
noncomputable def wA:=qm qdv 170 f170 true q6i q79
theorem qiB:qI prog qa 170 (q9 q6i q79 wA):=sk qdv qc q8 aln aln (b1 func170) func170
def qbE:FIn:=⟨[(.imm [(.sl [.str])]),(.int .i64)],[]⟩
def qc7:List FOut:=[⟨(.tuple [(.imm [(.sl [.str])]),.bool]),[],none⟩]
noncomputable def q86:Tmpl:={ t:=((.imm [(.sl [.str])])::(.int .i64)::qp 4 ((.vec 0)::(.int .i64)::qp 33 [])),h:=[.vec 87 [(.sl [.str])]] }
noncomputable def q8m:List Out:=[⟨(.exit 0),{ t:=(qp 41 []),h:=[] }⟩,⟨.ret,{ t:=(qp 4 ((.vec 0)::.bool::qp 35 [])),h:=[.vec 87 [(.sl [.str])]] }⟩]
noncomputable def q3f:=qe [] [(222,f222)] [] 0
noncomputable def jh:=zr q3f 222 f222 4 q86 q8m
theorem qko:qk prog qa q3f.nimp (qt prog q3f.iter 222) (qS f222 4) (qh q86 q8m (qf jh)):=gk q3f qc q8 aln aln (b1 func222) func222
noncomputable def qiU:=qe [] [(222,f222)] [((222,4),qh q86 q8m (qf jh))] 0
noncomputable def q2w:=qm qiU 222 f222 true qbE qc7
theorem qog:qI prog qa 222 (q9 qbE qc7 q2w):=sk qiU qc q8 aln (alc (lk func222 qko) aln) (b1 func222) func222
def qp0:FIn:=⟨[.str,.str],[]⟩
def qoS:List FOut:=[⟨.str,[],none⟩]
noncomputable def quS:=qe [(75,q9 ul u6 zn),(102,q9 q1z q1o wQ)] [(223,f223)] [] 0
noncomputable def qfU:=qm quS 223 f223 true qp0 qoS
theorem qwy:qI prog qa 223 (q9 qp0 qoS qfU):=sk quS qc q8 (alc k8 (alc q3e aln)) aln (b1 func223) func223
def qh1:FIn:=⟨[(.imm [.str])],[]⟩
def qg9:List FOut:=[⟨.str,[],none⟩]
noncomputable def qcA:Tmpl:={ t:=((.imm [.str])::.any::.any::.str::(.int .i64)::qp 13 []),h:=[] }
noncomputable def qcy:List Out:=[⟨(.exit 0),{ t:=(.any::.any::.any::.str::qp 14 []),h:=[] }⟩]
noncomputable def q6O:=qe [(97,q9 q5z q5B zO)] [(172,f172)] [] 0
noncomputable def q0a:=zr q6O 172 f172 4 qcA qcy
theorem qn2:qk prog qa q6O.nimp (qt prog q6O.iter 172) (qS f172 4) (qh qcA qcy (qf q0a)):=gk q6O qc q8 (alc q6M aln) aln (b1 func172) func172
noncomputable def qoh:=qe [(97,q9 q5z q5B zO)] [(172,f172)] [((172,4),qh qcA qcy (qf q0a))] 0
noncomputable def q3d:=qm qoh 172 f172 true qh1 qg9
theorem qqp:qI prog qa 172 (q9 qh1 qg9 q3d):=sk qoh qc q8 (alc q6M aln) (alc (lk func172 qn2) aln) (b1 func172) func172
def q2G:FIn:=⟨[(.imm [(.int .i64),(.int .i64),(.int .i64)])],[]⟩
def q2h:List FOut:=[⟨(.tuple [(.imm [.str]),.bool]),[],none⟩]
noncomputable def q7p:Tmpl:={ t:=((.imm [(.int .i64),(.int .i64),(.int .i64)])::.any::.any::.any::(.vec 0)::(.int .i64)::(.ptr 1 0)::(.vec 2)::(.int .i64)::qp 60 []),h:=[.vec 87 [(.sl [.str])],.cells [(.int .i64),(.int .i64),(.int .i64)],.vec 32 [.str]],pro:=[(7,32,[.str])] }
noncomputable def q6F:List Out:=[⟨(.exit 2),{ t:=((.imm [(.int .i64),(.int .i64),(.int .i64)])::.any::.any::.any::(.vec 0)::(.int .i64)::(.ptr 1 0)::(.vec 2)::qp 61 []),h:=[.vec 87 [(.sl [.str])],.cells [(.int .i64),(.int .i64),(.int .i64)],.vec 32 [.str]] }⟩]
noncomputable def vY:List (FuncId×zj):=[(35,q9 q6w q6y wg),(96,q9 qav qaq vG),(169,q9 qiP qiH q5G),(170,q9 q6i q79 wA),(172,q9 qh1 qg9 q3d),(54,q9 q6r q6K zC),(222,q9 qbE qc7 q2w),(223,q9 qp0 qoS qfU)]
theorem jf:∀x,x∈vY->qI prog qa x.1 x.2:=(alc q9S (alc qhR (alc qti (alc qiB (alc qqp (alc q9Y (alc qog (alc qwy aln))))))))
noncomputable def q23:=qe vY [(124,f124),(171,f171)] [] 0
noncomputable def jZ:=zr q23 124 f124 12 q7p q6F
theorem qj7:qk prog qa q23.nimp (qt prog q23.iter 124) (qS f124 12) (qh q7p q6F (qf jZ)):=gk q23 qc q8 jf aln (alc (bk func124) (alc (bk func171) aln)) func124
noncomputable def q8o:Tmpl:={ t:=((.imm [(.int .i64),(.int .i64),(.int .i64)])::.any::.any::.any::(.vec 0)::(.int .i64)::qp 63 []),h:=[.vec 87 [(.sl [.str])]],pro:=[(4,87,[(.sl [.str])])] }
noncomputable def q7R:List Out:=[⟨(.exit 0),{ t:=(qp 4 ((.vec 0)::qp 64 [])),h:=[.vec 87 [(.sl [.str])]] }⟩]
noncomputable def q3t:=qe vY [(124,f124),(171,f171)] [((124,12),qh q7p q6F (qf jZ))] 0
noncomputable def yZ:=zr q3t 124 f124 4 q8o q7R
theorem qkD:qk prog qa q3t.nimp (qt prog q3t.iter 124) (qS f124 4) (qh q8o q7R (qf yZ)):=gk q3t qc q8 jf (alc (lk func124 qj7) aln) (alc (bk func124) (alc (bk func171) aln)) func124
noncomputable def q1L:Tmpl:={ t:=(qp 4 ((.int .i64)::(.imm [(.sl [.str])])::.any::(.vec 1)::(.int .i64)::(.vec 2)::(.int .i64)::qp 94 [])),h:=[.dead,.vec 87 [(.sl [.str])],.vec 32 [.str]],pro:=[(9,32,[.str])],fs:=[(qp 69 []),[]] }
noncomputable def q1P:List Out:=[⟨(.exit 4),{ t:=(qp 4 ((.int .i64)::(.imm [(.sl [.str])])::.any::(.vec 1)::(.int .i64)::(.vec 2)::qp 95 [])),h:=[.dead,.vec 87 [(.sl [.str])],.vec 32 [.str]],fs:=[(qp 69 []),[]] }⟩]
noncomputable def ut:=qe vY [(124,f124),(171,f171)] [] 0
noncomputable def zA:=zr ut 171 f171 21 q1L q1P
theorem qeT:qk prog qa ut.nimp (qt prog ut.iter 171) (qS f171 21) (qh q1L q1P (qf zA)):=gk ut qc q8 jf aln (alc (bk func124) (alc (bk func171) aln)) func171
noncomputable def q1S:Tmpl:={ t:=(qp 4 ((.int .i64)::(.imm [(.sl [.str])])::.any::(.vec 1)::(.int .i64)::qp 96 [])),h:=[.dead,.vec 87 [(.sl [.str])]],pro:=[(7,87,[(.sl [.str])])],fs:=[(qp 69 []),[]] }
noncomputable def q1G:List Out:=[⟨(.exit 2),{ t:=(qp 4 ((.int .i64)::.any::.any::(.vec 1)::qp 97 [])),h:=[.dead,.vec 87 [(.sl [.str])]],fs:=[(qp 69 []),[]] }⟩]
noncomputable def uC:=qe vY [(124,f124),(171,f171)] [((171,21),qh q1L q1P (qf zA))] 0
noncomputable def wC:=zr uC 171 f171 14 q1S q1G
theorem qeE:qk prog qa uC.nimp (qt prog uC.iter 171) (qS f171 14) (qh q1S q1G (qf wC)):=gk uC qc q8 jf (alc (lk func171 qeT) aln) (alc (bk func124) (alc (bk func171) aln)) func171
noncomputable def q2m:Tmpl:={ t:=((.vec 0)::.any::.any::.any::(.int .i64)::qp 100 []),h:=[.vec 87 [(.sl [.str])]],sw:=[(0,0)],swn:=0,fs:=[(qp 69 []),[]] }
noncomputable def q2O:List Out:=[⟨(.exit 0),{ t:=((.vec 0)::qp 104 []),h:=[.vec 87 [(.sl [.str])]],fs:=[(qp 69 []),[]] }⟩,⟨.ret,{ t:=(.any::.any::.nils::.bool::qp 101 []),h:=[],fs:=[(qp 69 []),[]] }⟩]
noncomputable def km:=qe vY [(124,f124),(171,f171)] [((171,14),qh q1S q1G (qf wC))] 0
noncomputable def zP:=zr km 171 f171 3 q2m q2O
theorem qfv:qk prog qa km.nimp (qt prog km.iter 171) (qS f171 3) (qh q2m q2O (qf zP)):=gk km qc q8 jf (alc (lk func171 qeE) aln) (alc (bk func124) (alc (bk func171) aln)) func171
noncomputable def q1D:Tmpl:={ t:=((.vec 0)::qp 11 ((.vec 1)::(.int .i64)::qp 91 [])),h:=[.vec 87 [(.sl [.str])],.vec 32 [.str]],pro:=[(12,32,[.str])],fs:=[(qp 69 []),[]] }
noncomputable def q1H:List Out:=[⟨(.exit 6),{ t:=(qp 12 ((.vec 1)::qp 92 [])),h:=[.dead,.vec 32 [.str]],fs:=[(qp 69 []),[]] }⟩]
noncomputable def ur:=qe vY [(124,f124),(171,f171)] [] 0
noncomputable def wH:=zr ur 171 f171 31 q1D q1H
theorem qe6:qk prog qa ur.nimp (qt prog ur.iter 171) (qS f171 31) (qh q1D q1H (qf wH)):=gk ur qc q8 jf aln (alc (bk func124) (alc (bk func171) aln)) func171
noncomputable def qjd:=qe vY [(124,f124),(171,f171)] [((124,4),qh q8o q7R (qf yZ)),((171,3),qh q2m q2O (qf zP)),((171,31),qh q1D q1H (qf wH))] 0
noncomputable def vJ:=qm qjd 124 f124 true q2G q2h
theorem q7k:qI prog qa 124 (q9 q2G q2h vJ):=sk qjd qc q8 jf (alc (lk func124 qkD) (alc (lk func171 qfv) (alc (lk func171 qe6) aln))) (alc (bk func124) (alc (bk func171) aln)) func124
def qdX:FIn:=⟨[(.imm [(.int .i64),(.int .i64),(.int .i64)]),(.imm [.str])],[]⟩
def qdY:List FOut:=[⟨(.agg [.str,.str,.str]),[],none⟩]
noncomputable def q9B:Tmpl:={ t:=((.imm [(.int .i64),(.int .i64),(.int .i64)])::(.imm [.str])::.any::.any::(.ptr 0 0)::(.ptr 1 0)::(.int .i64)::qp 24 ((.agg [(.int .i64),(.int .i64),(.int .i64)])::(.int .i64)::qp 18 [])),h:=[.cells [.str,.str,.str],.cells [.str,.str,.str]] }
noncomputable def q9W:List Out:=[⟨(.exit 2),{ t:=((.imm [(.int .i64),(.int .i64),(.int .i64)])::(.imm [.str])::.any::.any::(.ptr 0 0)::(.ptr 1 0)::(.int .i64)::qp 44 []),h:=[.cells [.str,.str,.str],.cells [.str,.str,.str]] }⟩]
noncomputable def q6v:List (FuncId×zj):=[(35,q9 q6w q6y wg),(54,q9 q6r q6K zC),(97,q9 q5z q5B zO)]
theorem qa5:∀x,x∈q6v->qI prog qa x.1 x.2:=(alc q9S (alc q9Y (alc q6M aln)))
noncomputable def q4B:=qe q6v [(125,f125)] [] 0
noncomputable def uM:=zr q4B 125 f125 9 q9B q9W
theorem qlK:qk prog qa q4B.nimp (qt prog q4B.iter 125) (qS f125 9) (qh q9B q9W (qf uM)):=gk q4B qc q8 qa5 aln (b1 func125) func125
noncomputable def q9m:Tmpl:={ t:=((.imm [(.int .i64),(.int .i64),(.int .i64)])::(.imm [.str])::.any::.any::(.ptr 0 0)::(.ptr 1 0)::(.int .i64)::qp 44 []),h:=[.cells [.str,.str,.str],.cells [.str,.str,.str]] }
noncomputable def q9o:List Out:=[⟨(.exit 0),{ t:=(qp 4 ((.ptr 0 0)::(.ptr 1 0)::qp 45 [])),h:=[.cells [.str,.str,.str],.cells [.str,.str,.str]] }⟩]
noncomputable def q4D:=qe q6v [(125,f125)] [((125,9),qh q9B q9W (qf uM))] 0
noncomputable def uR:=zr q4D 125 f125 4 q9m q9o
theorem qm9:qk prog qa q4D.nimp (qt prog q4D.iter 125) (qS f125 4) (qh q9m q9o (qf uR)):=gk q4D qc q8 qa5 (alc (lk func125 qlK) aln) (b1 func125) func125
noncomputable def qlp:=qe q6v [(125,f125)] [((125,4),qh q9m q9o (qf uR))] 0
noncomputable def q4e:=qm qlp 125 f125 true qdX qdY
theorem qpf:qI prog qa 125 (q9 qdX qdY q4e):=sk qlp qc q8 qa5 (alc (lk func125 qm9) aln) (b1 func125) func125
def q2n:FIn:=⟨[(.imm [(.int .i64),(.int .i64),(.int .i64)])],[]⟩
def q2Q:List FOut:=[⟨(.tuple [(.agg [.str,.str,.str]),.str,.bool]),[],none⟩]
noncomputable def qpV:=qe [(43,q9 q9h q92 yF),(124,q9 q2G q2h vJ),(125,q9 qdX qdY q4e)] [(80,f80)] [] 0
noncomputable def zq:=qm qpV 80 f80 true q2n q2Q
theorem q2q:qI prog qa 80 (q9 q2n q2Q zq):=sk qpV qc q8 (alc qcb (alc q7k (alc qpf aln))) aln (b1 func80) func80
def qeo:FIn:=⟨[(.imm [(.int .i64),(.int .i64)])],[]⟩
def qev:List FOut:=[⟨(.tuple [(.agg [.str,.str]),.str,(.int .i64)]),[],none⟩]
noncomputable def qla:=qe [(42,q9 q8H q8F kV),(79,q9 qd7 qdf q2E),(80,q9 q2n q2Q zq)] [(25,f25)] [] 0
noncomputable def q41:=qm qla 25 f25 true qeo qev
theorem qoC:qI prog qa 25 (q9 qeo qev q41):=sk qla qc q8 (alc qfG (alc qiT (alc q2q aln))) aln (b1 func25) func25
def q8N:FIn:=⟨[.str],[]⟩
def q8I:List FOut:=[⟨(.int .i64),[],none⟩]
noncomputable def qkM:=qe [(70,q9 qbe qaW yw),(73,q9 qaC qaP q0M)] [(224,f224)] [] 0
noncomputable def kW:=qm qkM 224 f224 true q8N q8I
theorem qfO:qI prog qa 224 (q9 q8N q8I kW):=sk qkM qc q8 (alc qhZ (alc qhD aln)) aln (b1 func224) func224
def qeK:FIn:=⟨[(.imm [(.int .i64),(.int .i64),(.int .i64)])],[]⟩
def qee:List FOut:=[⟨.bool,[],none⟩]
noncomputable def q9I:Tmpl:={ t:=(.any::.any::.any::(.imm [.str])::.bool::(.int .i64)::qp 21 []),h:=[] }
noncomputable def q9n:List Out:=[⟨(.exit 0),{ t:=(qp 4 (.bool::qp 22 [])),h:=[] }⟩]
noncomputable def q4O:=qe [(124,q9 q2G q2h vJ),(224,q9 q8N q8I kW)] [(173,f173)] [] 0
noncomputable def uP:=zr q4O 173 f173 4 q9I q9n
theorem qmw:qk prog qa q4O.nimp (qt prog q4O.iter 173) (qS f173 4) (qh q9I q9n (qf uP)):=gk q4O qc q8 (alc q7k (alc qfO aln)) aln (b1 func173) func173
noncomputable def qlg:=qe [(124,q9 q2G q2h vJ),(224,q9 q8N q8I kW)] [(173,f173)] [((173,4),qh q9I q9n (qf uP))] 0
noncomputable def q3W:=qm qlg 173 f173 true qeK qee
theorem qpI:qI prog qa 173 (q9 qeK qee q3W):=sk qlg qc q8 (alc q7k (alc qfO aln)) (alc (lk func173 qmw) aln) (b1 func173) func173
def qa6:FIn:=⟨[(.imm [(.int .i64),(.int .i64),(.int .i64)]),(.agg [.str,.str,.str]),.str],[]⟩
def qab:List FOut:=[⟨.bool,[],none⟩]
noncomputable def q7f:Tmpl:={ t:=((.imm [(.int .i64),(.int .i64),(.int .i64)])::.any::.str::.any::(.ptr 0 0)::.any::.any::(.int .i64)::qp 15 []),h:=[.cells [.str,.str,.str]] }
noncomputable def q6V:List Out:=[⟨(.exit 0),{ t:=(qp 23 []),h:=[] }⟩,⟨.ret,{ t:=(qp 6 (.bool::qp 16 [])),h:=[] }⟩]
noncomputable def q28:=qe [(20,q9 qaZ qaV q0Y),(43,q9 q9h q92 yF)] [(174,f174)] [] 0
noncomputable def vE:=zr q28 174 f174 3 q7f q6V
theorem qiW:qk prog qa q28.nimp (qt prog q28.iter 174) (qS f174 3) (qh q7f q6V (qf vE)):=gk q28 qc q8 (alc qhQ (alc qcb aln)) aln (b1 func174) func174
noncomputable def qhz:=qe [(20,q9 qaZ qaV q0Y),(43,q9 q9h q92 yF)] [(174,f174)] [((174,3),qh q7f q6V (qf vE))] 0
noncomputable def q1j:=qm qhz 174 f174 true qa6 qab
theorem qlD:qI prog qa 174 (q9 qa6 qab q1j):=sk qhz qc q8 (alc qhQ (alc qcb aln)) (alc (lk func174 qiW) aln) (b1 func174) func174
def qac:FIn:=⟨[(.imm [(.int .i64),(.int .i64),(.int .i64)]),(.imm [(.int .i64)])],[]⟩
def q9G:List FOut:=[⟨.bool,[],none⟩]
noncomputable def qhr:=qe [(21,q9 q4p q4c js),(80,q9 q2n q2Q zq),(173,q9 qeK qee q3W),(174,q9 qa6 qab q1j)] [(126,f126)] [] 0
noncomputable def q1i:=qm qhr 126 f126 true qac q9G
theorem qmG:qI prog qa 126 (q9 qac q9G q1i):=sk qhr qc q8 (alc q8w (alc q2q (alc qpI (alc qlD aln)))) aln (b1 func126) func126
def qbi:FIn:=⟨[(.imm [(.int .i64),(.int .i64),(.int .i64)]),(.int .i64)],[]⟩
def qb4:List FOut:=[⟨(.imm [(.int .i64)]),[],none⟩]
noncomputable def qcg:Tmpl:={ t:=((.imm [(.int .i64),(.int .i64),(.int .i64)])::(.int .i64)::.any::.any::.any::(.int .i64)::qp 10 ((.imm [(.sl [(.int .i64)])])::(.int .i64)::(.int .i64)::qp 8 [])),h:=[] }
noncomputable def qcw:List Out:=[⟨(.exit 2),{ t:=((.imm [(.int .i64),(.int .i64),(.int .i64)])::(.int .i64)::.any::.any::.any::(.int .i64)::qp 21 []),h:=[] }⟩,⟨.ret,{ t:=(qp 4 ((.imm [(.int .i64)])::qp 22 [])),h:=[] }⟩]
noncomputable def q8C:List (FuncId×zj):=[(18,q9 qgH qgZ q6l),(126,q9 qac q9G q1i)]
theorem qbz:∀x,x∈q8C->qI prog qa x.1 x.2:=(alc qqx (alc qmG aln))
noncomputable def q5T:=qe q8C [(81,f81)] [] 0
noncomputable def q0A:=zr q5T 81 f81 8 qcg qcw
theorem qnb:qk prog qa q5T.nimp (qt prog q5T.iter 81) (qS f81 8) (qh qcg qcw (qf q0A)):=gk q5T qc q8 qbz aln (b1 func81) func81
noncomputable def qch:Tmpl:={ t:=((.imm [(.int .i64),(.int .i64),(.int .i64)])::(.int .i64)::.any::.any::.any::(.int .i64)::qp 21 []),h:=[] }
noncomputable def qbr:List Out:=[⟨(.exit 0),{ t:=(qp 27 []),h:=[] }⟩,⟨.ret,{ t:=(qp 4 ((.imm [(.int .i64)])::qp 22 [])),h:=[] }⟩]
noncomputable def q6G:=qe q8C [(81,f81)] [((81,8),qh qcg qcw (qf q0A))] 0
noncomputable def q0c:=zr q6G 81 f81 3 qch qbr
theorem qnO:qk prog qa q6G.nimp (qt prog q6G.iter 81) (qS f81 3) (qh qch qbr (qf q0c)):=gk q6G qc q8 qbz (alc (lk func81 qnb) aln) (b1 func81) func81
noncomputable def qnj:=qe q8C [(81,f81)] [((81,3),qh qch qbr (qf q0c))] 0
noncomputable def yC:=qm qnj 81 f81 true qbi qb4
theorem qhj:qI prog qa 81 (q9 qbi qb4 yC):=sk qnj qc q8 qbz (alc (lk func81 qnO) aln) (b1 func81) func81
def qed:FIn:=⟨[(.imm [(.int .i64),(.int .i64)])],[]⟩
def qer:List FOut:=[⟨(.tuple [(.agg [.str,.str]),.str,(.imm [(.int .i64)]),(.int .i64)]),[],none⟩]
noncomputable def qly:=qe [(21,q9 q4p q4c js),(42,q9 q8H q8F kV),(79,q9 qd7 qdf q2E),(80,q9 q2n q2Q zq),(81,q9 qbi qb4 yC)] [(26,f26)] [] 0
noncomputable def q1t:=qm qly 26 f26 true qed qer
theorem qoP:qI prog qa 26 (q9 qed qer q1t):=sk qly qc q8 (alc q8w (alc qfG (alc qiT (alc q2q (alc qhj aln))))) aln (b1 func26) func26
def q4R:FIn:=⟨[(.imm [(.int .i64)]),(.imm [(.int .i64)])],[]⟩
def q4z:List FOut:=[⟨.bool,[],none⟩]
noncomputable def q7s:Tmpl:={ t:=((.imm [(.int .i64)])::(.imm [(.int .i64)])::.any::.any::.any::(.int .i64)::qp 20 []),h:=[] }
noncomputable def q5X:List Out:=[⟨(.exit 0),{ t:=(qp 26 []),h:=[] }⟩,⟨.ret,{ t:=(qp 4 (.bool::qp 21 [])),h:=[] }⟩]
noncomputable def q2a:=qe [] [(27,f27)] [] 0
noncomputable def jP:=zr q2a 27 f27 6 q7s q5X
theorem qje:qk prog qa q2a.nimp (qt prog q2a.iter 27) (qS f27 6) (qh q7s q5X (qf jP)):=gk q2a qc q8 aln aln (b1 func27) func27
noncomputable def qhu:=qe [] [(27,f27)] [((27,6),qh q7s q5X (qf jP))] 0
noncomputable def yf:=qm qhu 27 f27 true q4R q4z
theorem qcl:qI prog qa 27 (q9 q4R q4z yf):=sk qhu qc q8 aln (alc (lk func27 qje) aln) (b1 func27) func27
def q1T:FIn:=⟨[(.imm [(.int .i64),(.int .i64)])],[]⟩
def q1N:List FOut:=[⟨.bool,[],none⟩]
noncomputable def j9:=qe [(16,q9 q4A q4C zV),(22,q9 qlJ qlL q8j),(23,q9 qbd qaJ zZ),(24,q9 q4P q4y zT),(25,q9 qeo qev q41),(26,q9 qed qer q1t),(27,q9 q4R q4z yf)] [(4,f4)] [] 0
noncomputable def j8:=qm j9 4 f4 true q1T q1N
theorem qeg:qI prog qa 4 (q9 q1T q1N j8):=sk j9 qc q8 (alc qbA (alc quc (alc qhx (alc qcO (alc qoC (alc qoP (alc qcl aln))))))) aln (b1 func4) func4
def q9E:FIn:=⟨[(.imm [(.int .i64),(.int .i64),(.int .i64)])],[]⟩
def q9z:List FOut:=[⟨.bool,[],none⟩]
noncomputable def qhA:=qe [] [(36,f36)] [] 0
noncomputable def uO:=qm qhA 36 f36 true q9E q9z
theorem qm4:qI prog qa 36 (q9 q9E q9z uO):=sk qhA qc q8 aln aln (b1 func36) func36
def q2Y:FIn:=⟨[(.agg [(.int .i64),(.int .i64),(.int .i64)])],[]⟩
def q3q:List FOut:=[⟨.bool,[],none⟩]
noncomputable def qfk:=qe [(86,q9 qkc qke ji)] [(46,f46)] [] 0
noncomputable def yO:=qm qfk 46 f46 true q2Y q3q
theorem qan:qI prog qa 46 (q9 q2Y q3q yO):=sk qfk qc q8 (alc qne aln) aln (b1 func46) func46
def q6Z:FIn:=⟨[(.imm [(.int .i64),(.int .i64),(.int .i64)])],[]⟩
def q78:List FOut:=[⟨(.int .i64),[],none⟩]
noncomputable def q3B:Tmpl:={ t:=((.imm [(.int .i64),(.int .i64),(.int .i64)])::.any::.any::(.int .i64)::qp 15 []),h:=[] }
noncomputable def q3J:List Out:=[⟨(.exit 0),{ t:=(qp 19 []),h:=[] }⟩,⟨.ret,{ t:=(.any::.any::(.int .i64)::qp 16 []),h:=[] }⟩]
noncomputable def q07:=qe [(46,q9 q2Y q3q yO)] [(45,f45)] [] 0
noncomputable def ww:=zr q07 45 f45 6 q3B q3J
theorem qgg:qk prog qa q07.nimp (qt prog q07.iter 45) (qS f45 6) (qh q3B q3J (qf ww)):=gk q07 qc q8 (alc qan aln) aln (b1 func45) func45
noncomputable def qdc:=qe [(46,q9 q2Y q3q yO)] [(45,f45)] [((45,6),qh q3B q3J (qf ww))] 0
noncomputable def kj:=qm qdc 45 f45 true q6Z q78
theorem qii:qI prog qa 45 (q9 q6Z q78 kj):=sk qdc qc q8 (alc qan aln) (alc (lk func45 qgg) aln) (b1 func45) func45
def qde:FIn:=⟨[(.imm [(.int .i64),(.int .i64),(.int .i64)])],[]⟩
def qdd:List FOut:=[⟨(.int .i64),[],none⟩]
noncomputable def qq2:=qe [(45,q9 q6Z q78 kj)] [(95,f95)] [] 0
noncomputable def q2j:=qm qq2 95 f95 true qde qdd
theorem qjs:qI prog qa 95 (q9 qde qdd q2j):=sk qq2 qc q8 (alc qii aln) aln (b1 func95) func95
def q2H:FIn:=⟨[(.imm [(.int .i64),(.int .i64),(.int .i64)])],[]⟩
def q2M:List FOut:=[⟨(.tuple [(.agg [.str,.str,.str]),.str,(.int .i64)]),[],none⟩]
noncomputable def q96:=qe [(69,q9 q8O q8V kC),(78,q9 q4E q4J zk)] [(39,f39)] [] 0
noncomputable def jI:=qm q96 39 f39 true q2H q2M
theorem qfC:qI prog qa 39 (q9 q2H q2M jI):=sk q96 qc q8 (alc qft (alc qbQ aln)) aln (b1 func39) func39
def q58:FIn:=⟨[(.imm [(.int .i64),(.int .i64),(.int .i64)])],[]⟩
def q5i:List FOut:=[⟨(.tuple [(.agg [.str,.str,.str]),.str,(.int .i64)]),[],none⟩]
noncomputable def qbq:=qe [(80,q9 q2n q2Q zq),(95,q9 qde qdd q2j)] [(40,f40)] [] 0
noncomputable def uo:=qm qbq 40 f40 true q58 q5i
theorem qi6:qI prog qa 40 (q9 q58 q5i uo):=sk qbq qc q8 (alc q2q (alc qjs aln)) aln (b1 func40) func40
def qeL:FIn:=⟨[(.imm [(.int .i64),(.int .i64),(.int .i64)])],[]⟩
def qei:List FOut:=[⟨(.tuple [(.agg [.str,.str,.str]),.str,(.imm [(.int .i64)]),(.int .i64)]),[],none⟩]
noncomputable def qkQ:=qe [(21,q9 q4p q4c js),(80,q9 q2n q2Q zq),(81,q9 qbi qb4 yC),(95,q9 qde qdd q2j)] [(41,f41)] [] 0
noncomputable def q1s:=qm qkQ 41 f41 true qeL qei
theorem qpb:qI prog qa 41 (q9 qeL qei q1s):=sk qkQ qc q8 (alc q8w (alc q2q (alc qhj (alc qjs aln)))) aln (b1 func41) func41
def q1C:FIn:=⟨[(.imm [(.int .i64),(.int .i64),(.int .i64)])],[]⟩
def q1Z:List FOut:=[⟨.bool,[],none⟩]
noncomputable def jb:=qe [(17,q9 q4I q4H zX),(23,q9 qbd qaJ zZ),(27,q9 q4R q4z yf),(36,q9 q9E q9z uO),(39,q9 q2H q2M jI),(40,q9 q58 q5i uo),(41,q9 qeL qei q1s)] [(8,f8)] [] 0
noncomputable def ja:=qm jb 8 f8 true q1C q1Z
theorem qdO:qI prog qa 8 (q9 q1C q1Z ja):=sk jb qc q8 (alc qbN (alc qhx (alc qcl (alc qm4 (alc qfC (alc qi6 (alc qpb aln))))))) aln (b1 func8) func8
end Go.Eng

namespace Go.Eng
abbrev qMa(r t:TR):TR:=.br (okR r) t .fail
abbrev qMb(c:Bool)(t:TR):TR:=.br c t .fail
abbrev qMc(l:List PV):TR:=.leaf (0,l)
variable (a0 a1 a2 a3 a4 a5 a6 a7 a8 a9 a10 a11 a12 a13 a14 a15:R)
variable (c0 c1 c2 c3 c4 c5 c6 c7 c8 c9 c10 c11 c12 c13:Int)
variable (d0 d1 d2 d3 d4 d5 d7 d8 d10 d11:Bool)
variable (e0 e1 e2 e3 e4 e5 e6 e7 e8 e9 e10 e11 e12 e13 e14:qMd)
theorem qqt:qY [.i c0]=(.br (ile (-100000) c0) (qMc [.b (ile c0 100000)]) (qMc [.b false])):=by kernel_rfl
theorem qtV:kx [.i c0,.i c1]=(qMa (qY [.i c0]) (.br (gB (qY [.i c0]) 0) (qMa (qY [.i c1]) (qMc [.b (gB (qY [.i c1]) 0)])) (qMc [.b false]))):=by kernel_rfl
theorem q4r:zm [.r a0,.i c1,.i c2]=(.br (ilt c2 c1) (qMb (inb c2 (qg a0)) (let r0:=kx [.i (cI a0 c2 0),.i (cI a0 c2 1)];qMa r0 (.br (not (gB r0 0)) (.leaf (2,[.i 2])) (qMc [.r a0,.i c1,.i (qu .i64 c2 1)])))) (.leaf (1,[]))):=by kernel_rfl
theorem qg7:jc [.r a0]=(let r0:=qf zm [.r a0,.i (qg a0),.i 0];qMa r0 (.br (jIs r0 0) (qMc [.i 0]) (qMc [.i (gI r0 0)]))):=by kernel_rfl
theorem qcK:wk [.r a0]=(.br (ilt 64 (qg a0)) (qMc [.i 5]) (let r0:=jc [.r a0];qMa r0 (qMc [.i (gI r0 0)]))):=by kernel_rfl
theorem qsJ:q3X [.r a0]=(let r0:=wk [.r a0];qMa r0 (qMc [.i (gI r0 0)])):=by kernel_rfl
theorem qrJ:kF [.i c0]=(.br (ieq c0 0) (qMc [.i 13]) (qMc [.i 0])):=by kernel_rfl
theorem qrB:jw [.r a0]=(let r0:=q3X [.r a0];qMa r0 (.br (ine (gI r0 0) 0) (qMc [.i (gI r0 0)]) (let r1:=kF [.i (qg a0)];qMa r1 (qMc [.i (gI r1 0)])))):=by kernel_rfl
theorem q6n:wD [.r a0]=(qMb (ile (qg a0) 17592186044416) (qMc [.r a0])):=by kernel_rfl
theorem qi9:qJ [.i c0,.i c1,.i c2]=(qMc [.i c0,.i c1,.i c2]):=by kernel_rfl
theorem qhs:q0q [.i c0,.i c1,.i c2,.i c3,.i c4,.i c5,.i c6,.i c7,.i c8,.i c9,.i c10]=(let b0:Bool:=(ieq c1 2);let p0:List PV:=[.i (qu .i64 c1 1),.i c2,.i c3,.i c4,.i c5,.i c6,.i c7,.i c8,.i c9,.i c10];let i0:Int:=(wW .i64 c7 c4);let i1:Int:=(wW .i64 c10 c4);let b1:Bool:=(ieq c1 1);let i2:Int:=(wW .i64 c10 c3);let b2:Bool:=(ieq c1 0);let i3:Int:=(wW .i64 c10 c2);let i4:Int:=(wW .i64 c9 c4);let i5:Int:=(wW .i64 c9 c3);let i6:Int:=(wW .i64 c9 c2);let i7:Int:=(wW .i64 c8 c4);let i8:Int:=(wW .i64 c8 c3);let i9:Int:=(wW .i64 c8 c2);let i10:Int:=(wW .i64 c7 c3);let i11:Int:=(wW .i64 c7 c2);let i12:Int:=(wW .i64 c6 c4);let i13:Int:=(wW .i64 c6 c3);let i14:Int:=(wW .i64 c6 c2);let i15:Int:=(wW .i64 c5 c4);let i16:Int:=(wW .i64 c5 c3);let i17:Int:=(wW .i64 c5 c2);(.br (ilt c1 3) (.br b0 (.br b0 (.br b0 (.br b0 (qMc ((.i (qu .i64 c0 (vW .i64 i0 i1)))::p0)) (.br b1 (qMc ((.i (qu .i64 c0 (vW .i64 i0 i2)))::p0)) (qMb b2 (qMc ((.i (qu .i64 c0 (vW .i64 i0 i3)))::p0))))) (.br b1 (.br b0 (qMc ((.i (qu .i64 c0 (vW .i64 i0 i4)))::p0)) (.br b1 (qMc ((.i (qu .i64 c0 (vW .i64 i0 i5)))::p0)) (qMb b2 (qMc ((.i (qu .i64 c0 (vW .i64 i0 i6)))::p0))))) (qMb b2 (.br b0 (qMc ((.i (qu .i64 c0 (vW .i64 i0 i7)))::p0)) (.br b1 (qMc ((.i (qu .i64 c0 (vW .i64 i0 i8)))::p0)) (qMb b2 (qMc ((.i (qu .i64 c0 (vW .i64 i0 i9)))::p0)))))))) (.br b1 (.br b0 (.br b0 (qMc ((.i (qu .i64 c0 (vW .i64 i10 i1)))::p0)) (.br b1 (qMc ((.i (qu .i64 c0 (vW .i64 i10 i2)))::p0)) (qMb b2 (qMc ((.i (qu .i64 c0 (vW .i64 i10 i3)))::p0))))) (.br b1 (.br b0 (qMc ((.i (qu .i64 c0 (vW .i64 i10 i4)))::p0)) (.br b1 (qMc ((.i (qu .i64 c0 (vW .i64 i10 i5)))::p0)) (qMb b2 (qMc ((.i (qu .i64 c0 (vW .i64 i10 i6)))::p0))))) (qMb b2 (.br b0 (qMc ((.i (qu .i64 c0 (vW .i64 i10 i7)))::p0)) (.br b1 (qMc ((.i (qu .i64 c0 (vW .i64 i10 i8)))::p0)) (qMb b2 (qMc ((.i (qu .i64 c0 (vW .i64 i10 i9)))::p0)))))))) (qMb b2 (.br b0 (.br b0 (qMc ((.i (qu .i64 c0 (vW .i64 i11 i1)))::p0)) (.br b1 (qMc ((.i (qu .i64 c0 (vW .i64 i11 i2)))::p0)) (qMb b2 (qMc ((.i (qu .i64 c0 (vW .i64 i11 i3)))::p0))))) (.br b1 (.br b0 (qMc ((.i (qu .i64 c0 (vW .i64 i11 i4)))::p0)) (.br b1 (qMc ((.i (qu .i64 c0 (vW .i64 i11 i5)))::p0)) (qMb b2 (qMc ((.i (qu .i64 c0 (vW .i64 i11 i6)))::p0))))) (qMb b2 (.br b0 (qMc ((.i (qu .i64 c0 (vW .i64 i11 i7)))::p0)) (.br b1 (qMc ((.i (qu .i64 c0 (vW .i64 i11 i8)))::p0)) (qMb b2 (qMc ((.i (qu .i64 c0 (vW .i64 i11 i9)))::p0))))))))))) (.br b1 (.br b0 (.br b0 (.br b0 (qMc ((.i (qu .i64 c0 (vW .i64 i12 i1)))::p0)) (.br b1 (qMc ((.i (qu .i64 c0 (vW .i64 i12 i2)))::p0)) (qMb b2 (qMc ((.i (qu .i64 c0 (vW .i64 i12 i3)))::p0))))) (.br b1 (.br b0 (qMc ((.i (qu .i64 c0 (vW .i64 i12 i4)))::p0)) (.br b1 (qMc ((.i (qu .i64 c0 (vW .i64 i12 i5)))::p0)) (qMb b2 (qMc ((.i (qu .i64 c0 (vW .i64 i12 i6)))::p0))))) (qMb b2 (.br b0 (qMc ((.i (qu .i64 c0 (vW .i64 i12 i7)))::p0)) (.br b1 (qMc ((.i (qu .i64 c0 (vW .i64 i12 i8)))::p0)) (qMb b2 (qMc ((.i (qu .i64 c0 (vW .i64 i12 i9)))::p0)))))))) (.br b1 (.br b0 (.br b0 (qMc ((.i (qu .i64 c0 (vW .i64 i13 i1)))::p0)) (.br b1 (qMc ((.i (qu .i64 c0 (vW .i64 i13 i2)))::p0)) (qMb b2 (qMc ((.i (qu .i64 c0 (vW .i64 i13 i3)))::p0))))) (.br b1 (.br b0 (qMc ((.i (qu .i64 c0 (vW .i64 i13 i4)))::p0)) (.br b1 (qMc ((.i (qu .i64 c0 (vW .i64 i13 i5)))::p0)) (qMb b2 (qMc ((.i (qu .i64 c0 (vW .i64 i13 i6)))::p0))))) (qMb b2 (.br b0 (qMc ((.i (qu .i64 c0 (vW .i64 i13 i7)))::p0)) (.br b1 (qMc ((.i (qu .i64 c0 (vW .i64 i13 i8)))::p0)) (qMb b2 (qMc ((.i (qu .i64 c0 (vW .i64 i13 i9)))::p0)))))))) (qMb b2 (.br b0 (.br b0 (qMc ((.i (qu .i64 c0 (vW .i64 i14 i1)))::p0)) (.br b1 (qMc ((.i (qu .i64 c0 (vW .i64 i14 i2)))::p0)) (qMb b2 (qMc ((.i (qu .i64 c0 (vW .i64 i14 i3)))::p0))))) (.br b1 (.br b0 (qMc ((.i (qu .i64 c0 (vW .i64 i14 i4)))::p0)) (.br b1 (qMc ((.i (qu .i64 c0 (vW .i64 i14 i5)))::p0)) (qMb b2 (qMc ((.i (qu .i64 c0 (vW .i64 i14 i6)))::p0))))) (qMb b2 (.br b0 (qMc ((.i (qu .i64 c0 (vW .i64 i14 i7)))::p0)) (.br b1 (qMc ((.i (qu .i64 c0 (vW .i64 i14 i8)))::p0)) (qMb b2 (qMc ((.i (qu .i64 c0 (vW .i64 i14 i9)))::p0))))))))))) (qMb b2 (.br b0 (.br b0 (.br b0 (qMc ((.i (qu .i64 c0 (vW .i64 i15 i1)))::p0)) (.br b1 (qMc ((.i (qu .i64 c0 (vW .i64 i15 i2)))::p0)) (qMb b2 (qMc ((.i (qu .i64 c0 (vW .i64 i15 i3)))::p0))))) (.br b1 (.br b0 (qMc ((.i (qu .i64 c0 (vW .i64 i15 i4)))::p0)) (.br b1 (qMc ((.i (qu .i64 c0 (vW .i64 i15 i5)))::p0)) (qMb b2 (qMc ((.i (qu .i64 c0 (vW .i64 i15 i6)))::p0))))) (qMb b2 (.br b0 (qMc ((.i (qu .i64 c0 (vW .i64 i15 i7)))::p0)) (.br b1 (qMc ((.i (qu .i64 c0 (vW .i64 i15 i8)))::p0)) (qMb b2 (qMc ((.i (qu .i64 c0 (vW .i64 i15 i9)))::p0)))))))) (.br b1 (.br b0 (.br b0 (qMc ((.i (qu .i64 c0 (vW .i64 i16 i1)))::p0)) (.br b1 (qMc ((.i (qu .i64 c0 (vW .i64 i16 i2)))::p0)) (qMb b2 (qMc ((.i (qu .i64 c0 (vW .i64 i16 i3)))::p0))))) (.br b1 (.br b0 (qMc ((.i (qu .i64 c0 (vW .i64 i16 i4)))::p0)) (.br b1 (qMc ((.i (qu .i64 c0 (vW .i64 i16 i5)))::p0)) (qMb b2 (qMc ((.i (qu .i64 c0 (vW .i64 i16 i6)))::p0))))) (qMb b2 (.br b0 (qMc ((.i (qu .i64 c0 (vW .i64 i16 i7)))::p0)) (.br b1 (qMc ((.i (qu .i64 c0 (vW .i64 i16 i8)))::p0)) (qMb b2 (qMc ((.i (qu .i64 c0 (vW .i64 i16 i9)))::p0)))))))) (qMb b2 (.br b0 (.br b0 (qMc ((.i (qu .i64 c0 (vW .i64 i17 i1)))::p0)) (.br b1 (qMc ((.i (qu .i64 c0 (vW .i64 i17 i2)))::p0)) (qMb b2 (qMc ((.i (qu .i64 c0 (vW .i64 i17 i3)))::p0))))) (.br b1 (.br b0 (qMc ((.i (qu .i64 c0 (vW .i64 i17 i4)))::p0)) (.br b1 (qMc ((.i (qu .i64 c0 (vW .i64 i17 i5)))::p0)) (qMb b2 (qMc ((.i (qu .i64 c0 (vW .i64 i17 i6)))::p0))))) (qMb b2 (.br b0 (qMc ((.i (qu .i64 c0 (vW .i64 i17 i7)))::p0)) (.br b1 (qMc ((.i (qu .i64 c0 (vW .i64 i17 i8)))::p0)) (qMb b2 (qMc ((.i (qu .i64 c0 (vW .i64 i17 i9)))::p0)))))))))))))) (.leaf (1,[.i c0])))):=by kernel_rfl
theorem qtJ:q15 [.i c0,.i c1,.i c2,.i c3,.i c4,.i c5,.i c6,.i c7,.i c8]=(let r0:=qJ [.i c0,.i c1,.i c2];qMa r0 (let r1:=qJ [.i c3,.i c4,.i c5];qMa r1 (let r2:=qJ [.i c6,.i c7,.i c8];qMa r2 (let r3:=qf q0q [.i 0,.i 0,.i (gI r0 0),.i (gI r0 1),.i (gI r0 2),.i (gI r1 0),.i (gI r1 1),.i (gI r1 2),.i (gI r2 0),.i (gI r2 1),.i (gI r2 2)];qMa r3 (qMc [.i (gI r3 0)]))))):=by kernel_rfl
theorem qzi:wE [.i c0]=(qMa (q4h [.i c0]) (qMc [.s (gS (q4h [.i c0]) 0)])):=by kernel_rfl
theorem qtO:jB [.i c0]=(qMa (wE [.i c0]) (qMc [.s (gS (wE [.i c0]) 0)])):=by kernel_rfl
theorem qun:vw [.i c0]=(.br (ile 0 c0) (qMc [.b (ile c0 16)]) (qMc [.b false])):=by kernel_rfl
theorem qtI:ka [.i c0,.i c1,.r a2,.i c3]=(qMb (inb (qu .i64 (vW .i64 c0 c3) c1) (qg a2)) (let r0:=jB [.i (cI a2 (qu .i64 (vW .i64 c0 c3) c1) 0)];qMa r0 (qMc [.s (gS r0 0),.r a2,.i c3]))):=by kernel_rfl
theorem qfm:uQ [.i c0,.i c1,.i c2,.i c3,.i c4,.i c5,.r a6,.i c7,.i c8,.i c9,.i c10,.i c11,.r a12]=(.br (ilt c5 c4) (let r0:=ka [.i c1,.i c5,.r a6,.i c7];qMa r0 (qMb (ile ((qg a12)+(qg [[.s (gS r0 0)]])) 8796093022208) (qMc [.i c0,.i c1,.i c2,.i c3,.i c4,.i (qu .i64 c5 1),.r (gR r0 1),.i (gI r0 2),.i c8,.i c9,.i c10,.i c11,.r (zR a12 [[.s (gS r0 0)]])]))) (.leaf (1,[.i c0,.i c2,.i c3,.r a6,.i c7,.i c8,.i c9,.i c10,.i c11,.r a12]))):=by kernel_rfl
theorem qhi:q0k [.i c0,.i c1,.i c2,.r a3,.i c4,.i c5,.i c6,.i c7,.i c8,.r a9]=(.br (ilt c2 c1) (let r0:=qf uQ [.i c0,.i c2,.i c1,.i c2,.i c0,.i 0,.r a3,.i c4,.i c5,.i c6,.i c7,.i c8,.r a9];qMa r0 (qMc [.i (gI r0 0),.i (gI r0 1),.i (qu .i64 (gI r0 2) 1),.r (gR r0 3),.i (gI r0 4),.i (gI r0 5),.i (gI r0 6),.i (gI r0 7),.i (gI r0 8),.r (gR r0 9)])) (.leaf (1,[.r a3,.i c4,.i c5,.i c6,.i c7,.i c8,.r a9]))):=by kernel_rfl
theorem qtF:q6o [.i c0,.i c1,.r a2,.i c3]=(let r0:=qf q0k [.i c1,.i c0,.i 0,.r a2,.i c3,.i 0,.i 0,.i c0,.i c1,.r []];qMa r0 (qMc [.i (gI r0 4),.i (gI r0 5),.r (gR r0 6),.r (gR r0 0),.i (gI r0 1)])):=by kernel_rfl
theorem qy1:qcs [.i c0,.i c1,.r a2]=(let r0:=vw [.i c0];qMa r0 (.br (not (gB r0 0)) (qMc [.i 0,.i 0,.r [],.i 2]) (let r1:=vw [.i c1];qMa r1 (.br (not (gB r1 0)) (qMc [.i 0,.i 0,.r [],.i 2]) (.br (ine (qg a2) (vW .i64 c0 c1)) (qMc [.i 0,.i 0,.r [],.i 8]) (let r2:=q6o [.i c0,.i c1,.r a2,.i c1];qMa r2 (qMc [.i (gI r2 0),.i (gI r2 1),.r (gR r2 2),.i 0]))))))):=by kernel_rfl
theorem qbY:wn [.s e0,.s e1]=(let r0:=vk [.s e0,.s e1];qMa r0 (.br (ile 0 (gI r0 0)) (qMb (q5S (gI r0 0) (qx e0)) (qMb (q5S 0 (gI r0 0)) (qMb (q5S (qx e0) (qx e0)) (qMb (q5S (qu .i64 (gI r0 0) (qx e1)) (qx e0)) (qMc [.s (qeG e0 0 (gI r0 0)),.s (qeG e0 (qu .i64 (gI r0 0) (qx e1)) (qx e0)),.b true]))))) (qMc [.s e0,.s [],.b false]))):=by kernel_rfl
theorem qtK:q74 [.s e0,.s e1]=(let r0:=wn [.s e0,.s e1];qMa r0 (qMc [.s (gS r0 0),.s (gS r0 1),.b (gB r0 2)])):=by kernel_rfl
theorem qyk:qZ [.s e0]=(let r0:=q74 [.s e0,.s [47]];qMa r0 (.br (not (gB r0 2)) (qMc [.s (gS r0 0),.s [49],.b (gB r0 2)]) (qMc [.s (gS r0 0),.s (gS r0 1),.b (gB r0 2)]))):=by kernel_rfl
theorem q6H:qL [.s e0,.s e1]=(.br (ile (qx e1) (qx e0)) (qMb (q5S (qx e1) (qx e0)) (qMb (q5S 0 (qx e1)) (qMc [.b (seq (qeG e0 0 (qx e1)) e1)]))) (qMc [.b false])):=by kernel_rfl
theorem q5R:zc [.s e0,.s e1]=(let r0:=qL [.s e0,.s e1];qMa r0 (.br (gB r0 0) (qMb (q5S (qx e0) (qx e0)) (qMb (q5S (qx e1) (qx e0)) (qMc [.s (qeG e0 (qx e1) (qx e0))]))) (qMc [.s e0]))):=by kernel_rfl
theorem qiz:zb [.s e0,.s e1]=(let r0:=zc [.s e0,.s e1];qMa r0 (qMc [.s (gS r0 0)])):=by kernel_rfl
theorem qtE:z7 [.s e0]=(let t0:=zb [.s e0,.s [45]];let s0:List UInt8:=(gS t0 0);let t1:TR:=(qMc [.i 3]);let t2:=q8Q [.s s0,.s [48,49,50,51,52,53,54,55,56,57]];let t3:TR:=(.br (ilt 1024 (qx s0)) (qMc [.i 11]) (qMc [.i 0]));(qMa t0 (.br (seq s0 []) t1 (qMa t2 (.br (not (seq (gS t2 0) [])) t1 (qMb (inb 0 (qx s0)) (.br (ieq (sat s0 0) 48) (.br (not (seq e0 [48])) t1 t3) t3))))))):=by kernel_rfl
theorem qkV:q6R [.r a0,.i c1,.i c2]=(.br (ilt c2 c1) (qMb (inb c2 (qg a0)) (let r0:=z7 [.s (cS a0 c2 0)];qMa r0 (.br (ine (gI r0 0) 0) (.leaf (2,[.i (gI r0 0)])) (qMc [.r a0,.i c1,.i (qu .i64 c2 1)])))) (.leaf (1,[]))):=by kernel_rfl
theorem qxF:wt [.r a0]=(let r0:=qf q6R [.r a0,.i (qg a0),.i 0];qMa r0 (.br (jIs r0 0) (qMc [.i 0]) (qMc [.i (gI r0 0)]))):=by kernel_rfl
theorem qw8:yD [.s e0]=(.br (seq e0 [48]) (qMc [.i 0]) (qMb (inb 0 (qx e0)) (.br (ieq (sat e0 0) 45) (qMc [.i (-1)]) (qMc [.i 1])))):=by kernel_rfl
theorem qtN:q6X [.s e0,.s e1]=(.br (ine (qx e0) (qx e1)) (.br (ilt (qx e0) (qx e1)) (qMc [.i (-1)]) (qMc [.i 1])) (let r0:=q3g [.s e0,.s e1];qMa r0 (qMc [.i (gI r0 0)]))):=by kernel_rfl
theorem qqT:u9 [.s e0,.s e1]=(let r0:=wt [.r [[.s e0],[.s e1]]];qMa r0 (.br (ine (gI r0 0) 0) (qMc [.i 0,.i (gI r0 0)]) (let r1:=yD [.s e0];qMa r1 (let r2:=yD [.s e1];qMa r2 (.br (ilt (gI r1 0) (gI r2 0)) (qMc [.i (-1),.i 0]) (qMa r2 (.br (ilt (gI r2 0) (gI r1 0)) (qMc [.i 1,.i 0]) (let r3:=zb [.s e0,.s [45]];qMa r3 (let r4:=zb [.s e1,.s [45]];qMa r4 (let r5:=q6X [.s (gS r3 0),.s (gS r4 0)];qMa r5 (qMc [.i (vW .i64 (gI r1 0) (gI r5 0)),.i 0]))))))))))):=by kernel_rfl
theorem qg6:j6 [.b d0,.i c1,.r a2]=(let i0:Int:=(wW .i64 c1 1);let t0:TR:=(.leaf (1,[.b d0,.i c1,.r a2]));(.br (ilt 0 c1) (qMb (inb i0 232) (qMb (inb i0 232) (.br (ieq (cI a2 i0 0) 0) (qMc [.b d0,.i i0,.r a2]) t0))) t0)):=by kernel_rfl
theorem qjG:qT [.b d0,.i c1,.r a2]=(let r0:=qf j6 [.b d0,.i c1,.r a2];qMa r0 (qMc [.b (gB r0 0),.i (gI r0 1),.r (gR r0 2)])):=by kernel_rfl
theorem qsh:q43 [.s e0,.b d1,.i c2,.r a3]=(let i0:Int:=(qx e0);let i1:Int:=(qxq 0 (wW .i64 i0 9));let t0:=jx [.s (qeG e0 i1 i0)];(.br (ilt 0 i0) (qMb (q5S i0 i0) (qMb (q5S i1 i0) (qMa t0 (qMb (inb c2 232) (qMb (inb c2 232) (qMb (q5S i1 i0) (qMb (q5S 0 i1) (qMc [.s (qeG e0 0 i1),.b d1,.i (qu .i64 c2 1),.r (qbu a3 c2 0 [.i (gI t0 0)])])))))))) (.leaf (1,[.b d1,.i c2,.r a3])))):=by kernel_rfl
theorem qwI:wy [.s e0]=(qMb (inb 0 (qx e0)) (let r0:=zb [.s e0,.s [45]];qMa r0 (let r1:=qf q43 [.s (gS r0 0),.b (ieq (sat e0 0) 45),.i 0,.r (q3K 232 [.i 0])];qMa r1 (let r2:=qT [.b (gB r1 0),.i (gI r1 1),.r (gR r1 2)];qMa r2 (qMc [.b (gB r2 0),.i (gI r2 1),.r (gR r2 2)]))))):=by kernel_rfl
theorem q9e:vS [.i c0,.i c1,.i c2,.i c3,.b d4,.i c5,.r a6,.b d7,.i c8,.r a9]=(let i0:Int:=(qu .i64 c3 c1);let b0:Bool:=(inb i0 232);let i1:Int:=(qu .i64 (cI a6 i0 0) c2);let i2:Int:=(qu .i64 i1 (vW .i64 c0 (cI a9 c3 0)));let i3:Int:=(qd4 .i64 i2 1000000000);let i4:Int:=(wW .i64 i2 (vW .i64 i3 1000000000));let p0:List PV:=[.b d7,.i c8,.r a9];let i5:Int:=(qxq c5 (qu .i64 i0 1));let i6:Int:=(qu .i64 c3 1);let i7:Int:=(qd4 .i64 i1 1000000000);let i8:Int:=(wW .i64 i1 (vW .i64 i7 1000000000));let t0:TR:=(qMb b0 (qMb b0 (.br (ilt c3 c8) (qMb (inb c3 232) (qMb (inb c3 232) (.br (ilt i4 0) (qMb b0 (qMb b0 (qMc ((.i c0)::(.i c1)::(.i (wW .i64 i3 1))::(.i i6)::(.b d4)::(.i i5)::(.r (qbu a6 i0 0 [.i (qu .i64 i4 1000000000)]))::p0)))) (qMb b0 (qMb b0 (qMc ((.i c0)::(.i c1)::(.i i3)::(.i i6)::(.b d4)::(.i i5)::(.r (qbu a6 i0 0 [.i i4]))::p0))))))) (.br (ilt i8 0) (qMb b0 (qMb b0 (qMc ((.i c0)::(.i c1)::(.i (wW .i64 i7 1))::(.i i6)::(.b d4)::(.i i5)::(.r (qbu a6 i0 0 [.i (qu .i64 i8 1000000000)]))::p0)))) (qMb b0 (qMb b0 (qMc ((.i c0)::(.i c1)::(.i i7)::(.i i6)::(.b d4)::(.i i5)::(.r (qbu a6 i0 0 [.i i8]))::p0))))))));(.br (ilt c3 c8) t0 (.br (ine c2 0) t0 (.leaf (1,((.b d4)::(.i c5)::(.r a6)::p0)))))):=by kernel_rfl
theorem qlT:qW [.i c0,.i c1,.b d2,.i c3,.r a4,.b d5,.i c6,.r a7]=(let r0:=qf vS [.i c0,.i c1,.i 0,.i 0,.b d2,.i c3,.r a4,.b d5,.i c6,.r a7];qMa r0 (let r1:=qT [.b (gB r0 0),.i (gI r0 1),.r (gR r0 2)];qMa r1 (qMc [.b (gB r1 0),.i (gI r1 1),.r (gR r1 2),.b (gB r0 3),.i (gI r0 4),.r (gR r0 5)]))):=by kernel_rfl
theorem qi4:jD [.i c0,.b d1,.i c2,.r a3,.b d4,.i c5,.r a6]=(let b0:Bool:=(inb c0 232);let p0:List PV:=[.b d1,.i c2,.r a3,.b d4,.i c5,.r a6];(.br (ile 0 c0) (qMb b0 (qMb b0 (qMb b0 (qMb b0 (.br (ine (cI a3 c0 0) (cI a6 c0 0)) (qMb b0 (qMb b0 (qMb b0 (qMb b0 (.leaf (2,((.i (wW .i64 (cI a3 c0 0) (cI a6 c0 0)))::p0))))))) (qMc ((.i (wW .i64 c0 1))::p0))))))) (.leaf (1,p0)))):=by kernel_rfl
theorem qkm:wU [.b d0,.i c1,.r a2,.b d3,.i c4,.r a5]=(.br (ine c1 c4) (qMc [.i (wW .i64 c1 c4),.b d0,.i c1,.r a2,.b d3,.i c4,.r a5]) (let r0:=qf jD [.i (wW .i64 c1 1),.b d0,.i c1,.r a2,.b d3,.i c4,.r a5];qMa r0 (.br (jIs r0 0) (qMc [.i 0,.b (gB r0 0),.i (gI r0 1),.r (gR r0 2),.b (gB r0 3),.i (gI r0 4),.r (gR r0 5)]) (qMc [.i (gI r0 0),.b (gB r0 1),.i (gI r0 2),.r (gR r0 3),.b (gB r0 4),.i (gI r0 5),.r (gR r0 6)])))):=by kernel_rfl
theorem qoT:q19 [.b d0,.i c1,.r a2,.b d3,.i c4,.r a5]=(let i0:Int:=(wW .i64 c4 1);let b0:Bool:=(ilt i0 0);let b1:Bool:=(ilt 1 c4);let p0:List PV:=[.b d0,.i c1,.r a2,.b d3,.i c4,.r a5];let t0:TR:=(qMc ((.i 1)::p0));let b2:Bool:=(ile c4 i0);let b3:Bool:=(inb i0 232);let i1:Int:=(cI a5 i0 0);let i2:Int:=(qu .i64 i1 1);let b4:Bool:=(ine i2 0);let b5:Bool:=(ine i1 0);let t1:TR:=(.br b0 (qMb b1 t0) (.br b2 (qMb b1 t0) (qMb b3 (qMb b3 (.br b1 (qMb b4 (.br (ilt 0 (qd4 .i64 0 i2)) (qMc ((.i (qmL (qd4 .i64 0 i2) 999999999))::p0)) t0)) (qMb b5 (.br (ilt 0 (qd4 .i64 0 i1)) (qMc ((.i (qmL (qd4 .i64 0 i1) 999999999))::p0)) t0)))))));let i3:Int:=(qu .i64 0 (cI a2 i0 0));let t2:TR:=(qMb b1 (.br (ilt 0 (qd4 .i64 i3 1)) (qMc ((.i (qmL (qd4 .i64 i3 1) 999999999))::p0)) t0));let t3:TR:=(.br b0 t1 (.br (ile c1 i0) t1 (qMb b3 (qMb b3 (.br b0 t2 (.br b2 t2 (qMb b3 (qMb b3 (.br b1 (qMb b4 (.br (ilt 0 (qd4 .i64 i3 i2)) (qMc ((.i (qmL (qd4 .i64 i3 i2) 999999999))::p0)) t0)) (qMb b5 (.br (ilt 0 (qd4 .i64 i3 i1)) (qMc ((.i (qmL (qd4 .i64 i3 i1) 999999999))::p0)) t0)))))))))));let i4:Int:=(vW .i64 (cI a2 c4 0) 1000000000);let i5:Int:=(qu .i64 i4 0);let t4:TR:=(qMb b1 (.br (ilt 0 (qd4 .i64 i5 1)) (qMc ((.i (qmL (qd4 .i64 i5 1) 999999999))::p0)) t0));let t5:TR:=(.br b0 t4 (.br b2 t4 (qMb b3 (qMb b3 (.br b1 (qMb b4 (.br (ilt 0 (qd4 .i64 i5 i2)) (qMc ((.i (qmL (qd4 .i64 i5 i2) 999999999))::p0)) t0)) (qMb b5 (.br (ilt 0 (qd4 .i64 i5 i1)) (qMc ((.i (qmL (qd4 .i64 i5 i1) 999999999))::p0)) t0)))))));let i6:Int:=(qu .i64 i4 (cI a2 i0 0));let t6:TR:=(qMb b1 (.br (ilt 0 (qd4 .i64 i6 1)) (qMc ((.i (qmL (qd4 .i64 i6 1) 999999999))::p0)) t0));(.br (ilt c4 0) t3 (.br (ile c1 c4) t3 (qMb (inb c4 232) (qMb (inb c4 232) (.br b0 t5 (.br (ile c1 i0) t5 (qMb b3 (qMb b3 (.br b0 t6 (.br b2 t6 (qMb b3 (qMb b3 (.br b1 (qMb b4 (.br (ilt 0 (qd4 .i64 i6 i2)) (qMc ((.i (qmL (qd4 .i64 i6 i2) 999999999))::p0)) t0)) (qMb b5 (.br (ilt 0 (qd4 .i64 i6 i1)) (qMc ((.i (qmL (qd4 .i64 i6 i1) 999999999))::p0)) t0)))))))))))))))):=by kernel_rfl
theorem qlQ:jT [.i c0,.i c1,.b d2,.i c3,.r a4,.b d5,.i c6,.r a7,.b d8,.i c9,.r a10,.b d11,.i c12,.r a13]=(let r0:=wU [.b d11,.i c12,.r a13,.b d5,.i c6,.r a7];qMa r0 (.br (ile 0 (gI r0 0)) (let r1:=q19 [.b (gB r0 1),.i (gI r0 2),.r (gR r0 3),.b (gB r0 4),.i (gI r0 5),.r (gR r0 6)];qMa r1 (let r2:=qW [.i (wW .i64 0 (gI r1 0)),.i 0,.b (gB r1 1),.i (gI r1 2),.r (gR r1 3),.b (gB r1 4),.i (gI r1 5),.r (gR r1 6)];qMa r2 (qMc [.i c0,.i (qu .i64 c1 (gI r1 0)),.b d2,.i c3,.r a4,.b (gB r2 3),.i (gI r2 4),.r (gR r2 5),.b d8,.i c9,.r a10,.b (gB r2 0),.i (gI r2 1),.r (gR r2 2)]))) (.leaf (1,[.i c0,.i c1,.b d2,.i c3,.r a4,.b (gB r0 4),.i (gI r0 5),.r (gR r0 6),.b d8,.i c9,.r a10,.b (gB r0 1),.i (gI r0 2),.r (gR r0 3)])))):=by kernel_rfl
theorem qmV:q0i [.i c0,.b d1,.i c2,.r a3,.b d4,.i c5,.r a6,.b d7,.i c8,.r a9,.b d10,.i c11,.r a12]=(.br (ile 0 c0) (qMb (q5S 232 232) (qMb (q5S 1 232) (qMb (q5S c11 232) (qMb (q5S 0 c11) (qMb (inb c0 232) (qMb (inb c0 232) (let r0:=qT [.b d10,.i (qu .i64 c11 1),.r (qbu (qmR a12 1 a12 0 (qmL (qzh c11 0) (qzh 232 1))) 0 0 [.i (cI a3 c0 0)])];qMa r0 (let r1:=qf jT [.i c0,.i 0,.b d1,.i c2,.r a3,.b d4,.i c5,.r a6,.b d7,.i c8,.r a9,.b (gB r0 0),.i (gI r0 1),.r (gR r0 2)];qMa r1 (qMb (inb (gI r1 0) 232) (qMb (inb (gI r1 0) 232) (qMc [.i (wW .i64 (gI r1 0) 1),.b (gB r1 2),.i (gI r1 3),.r (gR r1 4),.b (gB r1 5),.i (gI r1 6),.r (gR r1 7),.b (gB r1 8),.i (qxq (gI r1 9) (qu .i64 (gI r1 0) 1)),.r (qbu (gR r1 10) (gI r1 0) 0 [.i (gI r1 1)]),.b (gB r1 11),.i (gI r1 12),.r (gR r1 13)]))))))))))) (.leaf (1,[.b d1,.i c2,.r a3,.b d4,.i c5,.r a6,.b d7,.i c8,.r a9,.b d10,.i c11,.r a12]))):=by kernel_rfl
theorem qqy:ui [.b d0,.i c1,.r a2,.b d3,.i c4,.r a5]=(let r0:=qf q0i [.i (wW .i64 c1 1),.b d0,.i c1,.r a2,.b d3,.i c4,.r a5,.b false,.i 0,.r (q3K 232 [.i 0]),.b false,.i 0,.r (q3K 232 [.i 0])];qMa r0 (let r1:=qT [.b (gB r0 6),.i (gI r0 7),.r (gR r0 8)];qMa r1 (qMc [.b (gB r0 0),.i (gI r0 1),.r (gR r0 2),.b (gB r0 3),.i (gI r0 4),.r (gR r0 5),.b (gB r1 0),.i (gI r1 1),.r (gR r1 2),.b (gB r0 9),.i (gI r0 10),.r (gR r0 11)]))):=by kernel_rfl
theorem qsP:q1x [.i c0,.i c1]=(.br (ine c1 0) (qMb (ine c1 0) (qMc [.i c1,.i (qcW c0 c1)])) (.leaf (1,[.i c0]))):=by kernel_rfl
theorem qtG:q7c [.b d0,.i c1,.r a2,.b d3,.i c4,.r a5]=(let t0:=qf q1x [.i (cI a2 0 0),.i (cI a5 0 0)];let t1:=wE [.i (gI t0 0)];let t2:=ui [.b d0,.i c1,.r a2,.b d3,.i c4,.r a5];let t3:TR:=(qMa t2 (qMc [.b (gB t2 3),.i (gI t2 4),.r (gR t2 5),.b (gB t2 9),.i (gI t2 10),.r (gR t2 11)]));(.br (ilt 0 c4) (.br (ile c1 1) (.br (ile c4 1) (qMa t0 (qMa t1 (.leaf (2,[.s (gS t1 0),.i 0])))) t3) t3) (.leaf (1,[.b d0,.i c1,.r a2])))):=by kernel_rfl
theorem qyf:q2l [.s e0,.s e1]=(let r0:=wt [.r [[.s e0],[.s e1]]];qMa r0 (.br (ine (gI r0 0) 0) (qMc [.s [],.i (gI r0 0)]) (let r1:=wy [.s e0];qMa r1 (let r2:=wy [.s e1];qMa r2 (let r3:=qf q7c [.b (gB r1 0),.i (gI r1 1),.r (gR r1 2),.b (gB r2 0),.i (gI r2 1),.r (gR r2 2)];qMa r3 (.br (jIs r3 0) (let r4:=zl [.b false,.i (gI r3 1),.r (gR r3 2)];qMa r4 (qMc [.s (gS r4 0),.i 0])) (qMc [.s (gS r3 0),.i (gI r3 1)]))))))):=by kernel_rfl
theorem qud:zd [.s e0]=(let t0:=qZ [.s e0];let t1:=z7 [.s (gS t0 0)];let p0:List PV:=[.s (gS t0 1)];let t2:TR:=(qMc [.i 3]);let i0:Int:=(gI (z7 p0) 0);let t3:TR:=(qMc [.i (qxq (gI t1 0) i0)]);let t4:TR:=(qMc [.i 0]);let t5:=u9 [.s (gS t0 1),.s [49]];let t6:=q2l ((.s (gS t0 0))::p0);(qMa t0 (qMa t1 (qMa (z7 p0) (.br (ieq (gI t1 0) 3) t2 (.br (ieq i0 3) t2 (.br (ine (gI t1 0) 0) t3 (.br (ine i0 0) t3 (.br (not (gB t0 2)) t4 (qMa t5 (qMa t6 (.br (ine (gI t5 1) 0) t2 (.br (ine (gI t6 1) 0) t2 (.br (ile (gI t5 0) 0) t2 (.br (not (seq (gS t6 0) [49])) t2 t4))))))))))))))):=by kernel_rfl
theorem qcB:jX [.r a0,.i c1,.i c2]=(.br (ilt c2 c1) (qMb (inb c2 (qg a0)) (let r0:=zd [.s (cS a0 c2 0)];qMa r0 (.br (ine (gI r0 0) 0) (.leaf (2,[.i (gI r0 0)])) (qMc [.r a0,.i c1,.i (qu .i64 c2 1)])))) (.leaf (1,[]))):=by kernel_rfl
theorem qpB:j3 [.r a0]=(let r0:=qf jX [.r a0,.i (qg a0),.i 0];qMa r0 (.br (jIs r0 0) (qMc [.i 0]) (qMc [.i (gI r0 0)]))):=by kernel_rfl
theorem qsm:jp [.i c0,.i c1,.r a2]=(qMa (vw [.i c0]) (.br (not (gB (vw [.i c0]) 0)) (qMc [.i 2]) (qMa (vw [.i c1]) (.br (not (gB (vw [.i c1]) 0)) (qMc [.i 2]) (.br (ine (qg a2) (vW .i64 c0 c1)) (qMc [.i 8]) (qMa (j3 [.r a2]) (qMc [.i (gI (j3 [.r a2]) 0)]))))))):=by kernel_rfl
theorem qu0:yu [.s e0,.s e1]=(.br (ilt 9 (qx e0)) (qMc [.i 0,.i 0,.b false]) (.br (ilt 9 (qx e1)) (qMc [.i 0,.i 0,.b false]) (qMa (jx [.s e0]) (qMa (jx [.s e1]) (qMc [.i (gI (jx [.s e0]) 0),.i (gI (jx [.s e1]) 0),.b true]))))):=by kernel_rfl
theorem qtn:kT [.i c0]=(qMa (wE [.i c0]) (qMc [.s (gS (wE [.i c0]) 0),.i 0])):=by kernel_rfl
theorem qjn:yl [.i c0,.i c1,.b d2,.i c3,.r a4,.b d5,.i c6,.r a7,.b d8,.i c9,.r a10]=(.br (ilt c1 c0) (qMb (inb c1 232) (qMb (inb c1 232) (let r0:=qW [.i (cI a7 c1 0),.i c1,.b d8,.i c9,.r a10,.b d2,.i c3,.r a4];qMa r0 (qMc [.i c0,.i (qu .i64 c1 1),.b (gB r0 3),.i (gI r0 4),.r (gR r0 5),.b d5,.i c6,.r a7,.b (gB r0 0),.i (gI r0 1),.r (gR r0 2)])))) (.leaf (1,[.b d2,.i c3,.r a4,.b d5,.i c6,.r a7,.b d8,.i c9,.r a10]))):=by kernel_rfl
theorem qmc:kn [.b d0,.i c1,.r a2,.b d3,.i c4,.r a5]=(let r0:=qf yl [.i c4,.i 0,.b d0,.i c1,.r a2,.b d3,.i c4,.r a5,.b (not (beq d0 d3)),.i 0,.r (q3K 232 [.i 0])];qMa r0 (qMc [.b (gB r0 0),.i (gI r0 1),.r (gR r0 2),.b (gB r0 3),.i (gI r0 4),.r (gR r0 5),.b (gB r0 6),.i (gI r0 7),.r (gR r0 8)])):=by kernel_rfl
theorem qjB:wo [.b d0,.i c1,.r a2]=(let r0:=zl [.b d0,.i c1,.r a2];qMa r0 (let r1:=z7 [.s (gS r0 0)];qMa r1 (.br (ine (gI r1 0) 0) (qMc [.s [],.i (gI r1 0),.b (gB r0 1),.i (gI r0 2),.r (gR r0 3)]) (qMc [.s (gS r0 0),.i 0,.b (gB r0 1),.i (gI r0 2),.r (gR r0 3)])))):=by kernel_rfl
theorem qyr:q5q [.s e0,.s e1]=(let r0:=wt [.r [[.s e0],[.s e1]]];qMa r0 (.br (ine (gI r0 0) 0) (qMc [.s [],.i (gI r0 0)]) (let r1:=yu [.s e0,.s e1];qMa r1 (.br (gB r1 2) (let r2:=kT [.i (vW .i64 (gI r1 0) (gI r1 1))];qMa r2 (qMc [.s (gS r2 0),.i (gI r2 1)])) (let r2:=wy [.s e0];qMa r2 (let r3:=wy [.s e1];qMa r3 (let r4:=kn [.b (gB r2 0),.i (gI r2 1),.r (gR r2 2),.b (gB r3 0),.i (gI r3 1),.r (gR r3 2)];qMa r4 (let r5:=wo [.b (gB r4 6),.i (gI r4 7),.r (gR r4 8)];qMa r5 (qMc [.s (gS r5 0),.i (gI r5 1)]))))))))):=by kernel_rfl
theorem qcZ:zx [.s e0,.s e1,.i c2]=(.br (ine c2 0) (qMc [.s [48],.i c2]) (let r0:=q5q [.s e0,.s e1];qMa r0 (.br (ine (gI r0 1) 0) (qMc [.s [48],.i (gI r0 1)]) (qMc [.s (gS r0 0),.i (gI r0 1)])))):=by kernel_rfl
theorem qbS:jN [.s e0,.r a1,.i c2,.i c3,.i c4]=(.br (ilt c3 c2) (qMb (inb c3 (qg a1)) (let r0:=zx [.s e0,.s (cS a1 c3 0),.i c4];qMa r0 (qMc [.s (gS r0 0),.r a1,.i c2,.i (qu .i64 c3 1),.i (gI r0 1)]))) (.leaf (1,[.s e0,.i c4]))):=by kernel_rfl
theorem qpc:qw [.r a0,.i c1]=(let r0:=qf jN [.s [49],.r a0,.i (qg a0),.i 0,.i c1];qMa r0 (qMc [.s (gS r0 0),.i (gI r0 1)])):=by kernel_rfl
theorem quB:q2U [.s e0,.s e1,.s e2,.s e3,.i c4]=(let r0:=qw [.r [[.s e0],[.s e2]],.i c4];qMa r0 (let r1:=qw [.r [[.s e1],[.s e3]],.i (gI r0 1)];qMa r1 (qMc [.s (gS r0 0),.s (gS r1 0),.i (gI r1 1)]))):=by kernel_rfl
theorem qfP:q1l [.r a0,.i c1,.i c2]=(.br (ilt c2 c1) (qMb (inb c2 (qg a0)) (let r0:=zd [.s (cS a0 c2 0)];qMa r0 (.br (ine (gI r0 0) 0) (.leaf (2,[.i (gI r0 0)])) (qMc [.r a0,.i c1,.i (qu .i64 c2 1)])))) (.leaf (1,[]))):=by kernel_rfl
theorem qss:qG [.r a0]=(let r0:=qf q1l [.r a0,.i (qg a0),.i 0];qMa r0 (.br (jIs r0 0) (qMc [.i 0]) (qMc [.i (gI r0 0)]))):=by kernel_rfl
theorem qmY:wY [.b d0,.i c1,.r a2,.b d3,.i c4,.r a5]=(.br (beq d0 d3) (let r0:=qW [.i 1,.i 0,.b d0,.i c1,.r a2,.b d3,.i c4,.r a5];qMa r0 (qMc [.b (gB r0 0),.i (gI r0 1),.r (gR r0 2),.b (gB r0 3),.i (gI r0 4),.r (gR r0 5)])) (let r0:=wU [.b d0,.i c1,.r a2,.b d3,.i c4,.r a5];qMa r0 (.br (ile 0 (gI r0 0)) (let r1:=qW [.i (-1),.i 0,.b (gB r0 1),.i (gI r0 2),.r (gR r0 3),.b (gB r0 4),.i (gI r0 5),.r (gR r0 6)];qMa r1 (qMc [.b (gB r1 0),.i (gI r1 1),.r (gR r1 2),.b (gB r1 3),.i (gI r1 4),.r (gR r1 5)])) (let r1:=qW [.i (-1),.i 0,.b (gB r0 4),.i (gI r0 5),.r (gR r0 6),.b (gB r0 1),.i (gI r0 2),.r (gR r0 3)];qMa r1 (qMc [.b (gB r1 0),.i (gI r1 1),.r (gR r1 2),.b (gB r0 4),.i (gI r0 5),.r (gR r0 6)]))))):=by kernel_rfl
theorem qeC:q6b [.r a0,.i c1,.i c2,.b d3,.i c4,.r a5]=(.br (ilt c2 c1) (qMb (inb c2 (qg a0)) (let r0:=wy [.s (cS a0 c2 0)];qMa r0 (let r1:=wY [.b d3,.i c4,.r a5,.b (gB r0 0),.i (gI r0 1),.r (gR r0 2)];qMa r1 (qMc [.r a0,.i c1,.i (qu .i64 c2 1),.b (gB r1 0),.i (gI r1 1),.r (gR r1 2)])))) (.leaf (1,[.b d3,.i c4,.r a5]))):=by kernel_rfl
theorem qxJ:qcG [.r a0]=(let r0:=qf q6b [.r a0,.i (qg a0),.i 0,.b false,.i 0,.r (q3K 232 [.i 0])];qMa r0 (let r1:=wo [.b (gB r0 0),.i (gI r0 1),.r (gR r0 2)];qMa r1 (qMc [.s (gS r1 0),.i (gI r1 1)]))):=by kernel_rfl
theorem qxK:q2k [.s e0,.s e1]=(let r0:=wt [.r [[.s e0],[.s e1]]];qMa r0 (.br (ine (gI r0 0) 0) (qMc [.s [],.i (gI r0 0)]) (let r1:=yu [.s e0,.s e1];qMa r1 (.br (gB r1 2) (let r2:=kT [.i (qu .i64 (gI r1 0) (gI r1 1))];qMa r2 (qMc [.s (gS r2 0),.i (gI r2 1)])) (let r2:=qcG [.r [[.s e0],[.s e1]]];qMa r2 (qMc [.s (gS r2 0),.i (gI r2 1)])))))):=by kernel_rfl
theorem qoI:q1c [.s e0]=(let r0:=yD [.s e0];qMa r0 (.br (ieq (gI r0 0) 0) (qMc [.s e0]) (.br (ieq (gI r0 0) 1) (qMb (ile ((qx [45])+(qx e0)) 140737488355328) (qMc [.s (qg3 [45] e0)])) (qMb (q5S (qx e0) (qx e0)) (qMb (q5S 1 (qx e0)) (qMc [.s (qeG e0 1 (qx e0))])))))):=by kernel_rfl
theorem qyK:q84 [.s e0,.s e1]=(let r0:=wt [.r [[.s e0],[.s e1]]];qMa r0 (.br (ine (gI r0 0) 0) (qMc [.s [],.i (gI r0 0)]) (let r1:=q1c [.s e1];qMa r1 (let r2:=q2k [.s e0,.s (gS r1 0)];qMa r2 (qMc [.s (gS r2 0),.i (gI r2 1)]))))):=by kernel_rfl
theorem qd1:wI [.s e0,.s e1,.i c2]=(.br (ine c2 0) (qMc [.s [48],.i c2]) (let r0:=q84 [.s e0,.s e1];qMa r0 (.br (ine (gI r0 1) 0) (qMc [.s [48],.i (gI r0 1)]) (qMc [.s (gS r0 0),.i (gI r0 1)])))):=by kernel_rfl
theorem qps:vZ [.s e0,.s e1,.i c2]=(let r0:=wI [.s e0,.s e1,.i c2];qMa r0 (qMc [.s (gS r0 0),.i (gI r0 1)])):=by kernel_rfl
theorem qkp:ud [.s e0,.s e1]=(let r0:=qL [.s e0,.s e1];qMa r0 (qMc [.b (gB r0 0)])):=by kernel_rfl
theorem qsz:q1B [.s e0,.s e1]=(.br (seq e1 [49]) (qMc [.s e0]) (qMb (ile ((qx e0)+(qx [47])) 140737488355328) (qMb (ile ((qx (qg3 e0 [47]))+(qx e1)) 140737488355328) (qMc [.s (qg3 (qg3 e0 [47]) e1)])))):=by kernel_rfl
theorem qt6:q4s [.s e0,.s e1]=(let t0:=wt [.r [[.s e0],[.s e1]]];let t1:=yu [.s e0,.s e1];let i0:Int:=(gI t1 1);let i1:Int:=(qcW (gI t1 0) i0);let i2:Int:=(qd4 .i64 (gI t1 0) i0);let t2:=wE [.i (wW .i64 i2 1)];let t3:=wE [.i (qu .i64 i1 i0)];let t4:TR:=(qMa (wE [.i i2]) (qMa (wE [.i i1]) (qMc [.s (gS (wE [.i i2]) 0),.s (gS (wE [.i i1]) 0),.i 0])));let t5:=wy [.s e0];let t6:=wy [.s e1];let t7:=ui [.b (gB t5 0),.i (gI t5 1),.r (gR t5 2),.b (gB t6 0),.i (gI t6 1),.r (gR t6 2)];let b0:Bool:=(not (beq (gB t7 0) (gB t7 3)));let t8:=wY [.b true,.i (gI t7 7),.r (gR t7 8),.b true,.i 1,.r (qbu (q3K 232 [.i 0]) 0 0 [.i 1])];let t9:=wY [.b (gB t7 0),.i (gI t7 10),.r (gR t7 11),.b (gB t7 3),.i (gI t7 4),.r (gR t7 5)];let t10:=zl [.b (gB t8 0),.i (gI t8 1),.r (gR t8 2)];let t11:=zl [.b (gB t9 0),.i (gI t9 1),.r (gR t9 2)];let t12:=zl [.b b0,.i (gI t7 7),.r (gR t7 8)];let t13:=zl [.b (gB t7 0),.i (gI t7 10),.r (gR t7 11)];let t14:TR:=(qMa t12 (qMa t13 (qMc [.s (gS t12 0),.s (gS t13 0),.i 0])));(qMa t0 (.br (ine (gI t0 0) 0) (qMc [.s [],.s [],.i (gI t0 0)]) (.br (seq e1 [48]) (qMc [.s [],.s [],.i 10]) (qMa t1 (.br (gB t1 2) (qMb (ine i0 0) (qMb (ine i0 0) (.br (ine i1 0) (.br (not (beq (ilt i1 0) (ilt i0 0))) (qMa t2 (qMa t3 (qMc [.s (gS t2 0),.s (gS t3 0),.i 0]))) t4) t4))) (qMa t5 (qMa t6 (qMa t7 (.br (ilt 0 (gI t7 10)) (.br b0 (qMa t8 (qMa t9 (qMa t10 (qMa t11 (qMc [.s (gS t10 0),.s (gS t11 0),.i 0]))))) t14) t14)))))))))):=by kernel_rfl
theorem qyY:q80 [.s e0,.s e1]=(let r0:=q4s [.s e0,.s e1];qMa r0 (.br (ine (gI r0 2) 0) (qMc [.s [],.i (gI r0 2)]) (let r1:=z7 [.s (gS r0 0)];qMa r1 (.br (ine (gI r1 0) 0) (qMc [.s [],.i (gI r1 0)]) (qMc [.s (gS r0 0),.i 0]))))):=by kernel_rfl
theorem qcT:wR [.s e0,.s e1,.i c2]=(.br (ine c2 0) (qMc [.s [48],.i c2]) (let r0:=q2l [.s e0,.s e1];qMa r0 (.br (ine (gI r0 1) 0) (qMc [.s [48],.i (gI r0 1)]) (qMc [.s (gS r0 0),.i (gI r0 1)])))):=by kernel_rfl
theorem qd2:qU [.s e0,.s e1,.i c2]=(.br (ine c2 0) (qMc [.s [48],.i c2]) (let r0:=q80 [.s e0,.s e1];qMa r0 (.br (ine (gI r0 1) 0) (qMc [.s [48],.i (gI r0 1)]) (qMc [.s (gS r0 0),.i (gI r0 1)])))):=by kernel_rfl
theorem qkr:qX [.s e0,.s e1,.i c2]=(let r0:=wR [.s e0,.s e1,.i c2];qMa r0 (let r1:=ud [.s e1,.s [45]];qMa r1 (.br (gB r1 0) (let r2:=vZ [.s [48],.s (gS r0 0),.i (gI r0 1)];qMa r2 (.br (ine (gI r2 1) 0) (qMc [.s [],.i (gI r2 1)]) (let r3:=qU [.s e0,.s (gS r2 0),.i (gI r2 1)];qMa r3 (let r4:=qU [.s e1,.s (gS r2 0),.i (gI r3 1)];qMa r4 (let r5:=q1B [.s (gS r3 0),.s (gS r4 0)];qMa r5 (qMc [.s (gS r5 0),.i (gI r4 1)])))))) (.br (ine (gI r0 1) 0) (qMc [.s [],.i (gI r0 1)]) (let r2:=qU [.s e0,.s (gS r0 0),.i (gI r0 1)];qMa r2 (let r3:=qU [.s e1,.s (gS r0 0),.i (gI r2 1)];qMa r3 (let r4:=q1B [.s (gS r2 0),.s (gS r3 0)];qMa r4 (qMc [.s (gS r4 0),.i (gI r3 1)])))))))):=by kernel_rfl
theorem qek:wX [.s e0,.s e1]=(let r0:=qG [.r [[.s e0],[.s e1]]];qMa r0 (.br (ine (gI r0 0) 0) (qMc [.s [],.i (gI r0 0)]) (let r1:=qZ [.s e0];qMa r1 (let r2:=qZ [.s e1];qMa r2 (let r3:=q2U [.s (gS r1 0),.s (gS r1 1),.s (gS r2 0),.s (gS r2 1),.i 0];qMa r3 (.br (ine (gI r3 2) 0) (qMc [.s [],.i (gI r3 2)]) (.br (seq (gS r3 1) [48]) (qMc [.s [],.i 10]) (let r4:=qX [.s (gS r3 0),.s (gS r3 1),.i (gI r3 2)];qMa r4 (qMc [.s (gS r4 0),.i (gI r4 1)]))))))))):=by kernel_rfl
theorem qye:yh [.s e0,.s e1]=(let r0:=wX [.s e0,.s e1];qMa r0 (qMc [.s (gS r0 0),.i (gI r0 1)])):=by kernel_rfl
theorem qu9:q3p [.s e0,.s e1,.s e2,.s e3,.i c4]=(let r0:=qw [.r [[.s e0],[.s e3]],.i c4];qMa r0 (let r1:=qw [.r [[.s e1],[.s e2]],.i (gI r0 1)];qMa r1 (qMc [.s (gS r0 0),.s (gS r1 0),.i (gI r1 1)]))):=by kernel_rfl
theorem qdV:va [.s e0,.s e1]=(let r0:=qG [.r [[.s e0],[.s e1]]];qMa r0 (.br (ine (gI r0 0) 0) (qMc [.s [],.i (gI r0 0)]) (let r1:=qZ [.s e0];qMa r1 (let r2:=qZ [.s e1];qMa r2 (let r3:=q3p [.s (gS r1 0),.s (gS r1 1),.s (gS r2 0),.s (gS r2 1),.i 0];qMa r3 (.br (ine (gI r3 2) 0) (qMc [.s [],.i (gI r3 2)]) (.br (seq (gS r3 1) [48]) (qMc [.s [],.i 10]) (let r4:=qX [.s (gS r3 0),.s (gS r3 1),.i (gI r3 2)];qMa r4 (qMc [.s (gS r4 0),.i (gI r4 1)]))))))))):=by kernel_rfl
theorem qxR:q5l [.s e0,.s e1]=(let r0:=qG [.r [[.s e0],[.s e1]]];qMa r0 (.br (ine (gI r0 0) 0) (qMc [.s [],.i (gI r0 0)]) (.br (seq e1 [48]) (qMc [.s [],.i 10]) (let r1:=va [.s e0,.s e1];qMa r1 (qMc [.s (gS r1 0),.i (gI r1 1)]))))):=by kernel_rfl
theorem qtX:q3u [.s e0,.s e1,.s e2,.s e3,.i c4]=(let r0:=qw [.r [[.s e0],[.s e3]],.i c4];qMa r0 (let r1:=qw [.r [[.s e2],[.s e1]],.i (gI r0 1)];qMa r1 (let r2:=vZ [.s (gS r0 0),.s (gS r1 0),.i (gI r1 1)];qMa r2 (let r3:=qw [.r [[.s e1],[.s e3]],.i (gI r2 1)];qMa r3 (qMc [.s (gS r2 0),.s (gS r3 0),.i (gI r3 1)]))))):=by kernel_rfl
theorem qf3:v7 [.s e0,.s e1]=(let r0:=qG [.r [[.s e0],[.s e1]]];qMa r0 (.br (ine (gI r0 0) 0) (qMc [.s [],.i (gI r0 0)]) (let r1:=qZ [.s e0];qMa r1 (let r2:=qZ [.s e1];qMa r2 (let r3:=q3u [.s (gS r1 0),.s (gS r1 1),.s (gS r2 0),.s (gS r2 1),.i 0];qMa r3 (.br (ine (gI r3 2) 0) (qMc [.s [],.i (gI r3 2)]) (.br (seq (gS r3 1) [48]) (qMc [.s [],.i 10]) (let r4:=qX [.s (gS r3 0),.s (gS r3 1),.i (gI r3 2)];qMa r4 (qMc [.s (gS r4 0),.i (gI r4 1)]))))))))):=by kernel_rfl
theorem qy8:wu [.s e0,.s e1]=(let r0:=v7 [.s e0,.s e1];qMa r0 (qMc [.s (gS r0 0),.i (gI r0 1)])):=by kernel_rfl
theorem qcQ:wN [.s e0,.s e1,.i c2]=(.br (ine c2 0) (qMc [.s [48],.i c2]) (let r0:=q2k [.s e0,.s e1];qMa r0 (.br (ine (gI r0 1) 0) (qMc [.s [48],.i (gI r0 1)]) (qMc [.s (gS r0 0),.i (gI r0 1)])))):=by kernel_rfl
theorem qpy:q1g [.s e0,.s e1,.i c2]=(let r0:=wN [.s e0,.s e1,.i c2];qMa r0 (qMc [.s (gS r0 0),.i (gI r0 1)])):=by kernel_rfl
theorem quh:q33 [.s e0,.s e1,.s e2,.s e3,.i c4]=(let r0:=qw [.r [[.s e0],[.s e3]],.i c4];qMa r0 (let r1:=qw [.r [[.s e2],[.s e1]],.i (gI r0 1)];qMa r1 (let r2:=q1g [.s (gS r0 0),.s (gS r1 0),.i (gI r1 1)];qMa r2 (let r3:=qw [.r [[.s e1],[.s e3]],.i (gI r2 1)];qMa r3 (qMc [.s (gS r2 0),.s (gS r3 0),.i (gI r3 1)]))))):=by kernel_rfl
theorem qeR:vb [.s e0,.s e1]=(let r0:=qG [.r [[.s e0],[.s e1]]];qMa r0 (.br (ine (gI r0 0) 0) (qMc [.s [],.i (gI r0 0)]) (let r1:=qZ [.s e0];qMa r1 (let r2:=qZ [.s e1];qMa r2 (let r3:=q33 [.s (gS r1 0),.s (gS r1 1),.s (gS r2 0),.s (gS r2 1),.i 0];qMa r3 (.br (ine (gI r3 2) 0) (qMc [.s [],.i (gI r3 2)]) (.br (seq (gS r3 1) [48]) (qMc [.s [],.i 10]) (let r4:=qX [.s (gS r3 0),.s (gS r3 1),.i (gI r3 2)];qMa r4 (qMc [.s (gS r4 0),.i (gI r4 1)]))))))))):=by kernel_rfl
theorem qz7:ua [.s e0,.s e1]=(let r0:=vb [.s e0,.s e1];qMa r0 (qMc [.s (gS r0 0),.i (gI r0 1)])):=by kernel_rfl
theorem qkv:wV [.s e0,.i c1,.i c2]=(let t0:TR:=(.br (ine c2 0) (qMc [.s [48],.i c2]) (qMc [.s e0,.i c2]));(.br (ine c1 0) (.br (ieq c2 0) (.br (ine c1 0) (qMc [.s [48],.i c1]) (qMc [.s e0,.i c1])) t0) t0)):=by kernel_rfl
theorem qmI:ki [.s e0,.s e1,.i c2]=(let r0:=ua [.s e0,.s e1];qMa r0 (let r1:=wV [.s (gS r0 0),.i (gI r0 1),.i c2];qMa r1 (qMc [.s (gS r1 0),.i (gI r1 1)]))):=by kernel_rfl
theorem qm7:kh [.s e0,.s e1,.i c2]=(let r0:=yh [.s e0,.s e1];qMa r0 (let r1:=wV [.s (gS r0 0),.i (gI r0 1),.i c2];qMa r1 (qMc [.s (gS r1 0),.i (gI r1 1)]))):=by kernel_rfl
theorem qsl:q4i [.i c0,.i c1,.r a2,.i c3,.i c4]=(qMb (inb (qu .i64 (vW .i64 c3 c1) c4) (qg a2)) (qMc [.s (cS a2 (qu .i64 (vW .i64 c3 c1) c4) 0)])):=by kernel_rfl
theorem qdj:yQ [.r a0,.i c1,.s e2,.i c3,.i c4,.r a5,.i c6,.i c7,.i c8,.i c9,.r a10,.i c11,.r a12]=(.br (ilt c7 c6) (qMb (inb c7 (qg a5)) (let r0:=q4i [.i c8,.i c9,.r a10,.i c1,.i c7];qMa r0 (let r1:=kh [.s (gS r0 0),.s (cS a5 c7 0),.i c11];qMa r1 (let r2:=ki [.s e2,.s (gS r1 0),.i (gI r1 1)];qMa r2 (qMc [.r a0,.i c1,.s (gS r2 0),.i c3,.i c4,.r a5,.i c6,.i (qu .i64 c7 1),.i c8,.i c9,.r a10,.i (gI r2 1),.r a12]))))) (.leaf (1,[.r a0,.s e2,.i c3,.i c4,.i c8,.i c9,.r a10,.i c11,.r a12]))):=by kernel_rfl
theorem qdw:yW [.r a0,.i c1,.i c2,.i c3,.i c4,.r a5,.i c6,.r a7]=(.br (ilt c2 c1) (let r0:=qf yQ [.r a0,.i c2,.s [48],.i c1,.i c2,.r a0,.i (qg a0),.i 0,.i c3,.i c4,.r a5,.i c6,.r a7];qMa r0 (qMb (ile ((qg (gR r0 8))+(qg [[.s (gS r0 1)]])) 8796093022208) (qMc [.r (gR r0 0),.i (gI r0 2),.i (qu .i64 (gI r0 3) 1),.i (gI r0 4),.i (gI r0 5),.r (gR r0 6),.i (gI r0 7),.r (zR (gR r0 8) [[.s (gS r0 1)]])]))) (.leaf (1,[.i c6,.r a7]))):=by kernel_rfl
theorem qsW:q4j [.i c0,.i c1,.r a2,.r a3]=(let r0:=jp [.i c0,.i c1,.r a2];qMa r0 (.br (ine (gI r0 0) 0) (qMc [.r [],.i (gI r0 0)]) (.br (ine (qg a3) c1) (qMc [.r [],.i 8]) (let r1:=j3 [.r a3];qMa r1 (.br (ine (gI r1 0) 0) (qMc [.r [],.i (gI r1 0)]) (let r2:=qf yW [.r a3,.i c0,.i 0,.i c0,.i c1,.r a2,.i 0,.r []];qMa r2 (.br (ine (gI r2 0) 0) (qMc [.r [],.i (gI r2 0)]) (qMc [.r (gR r2 1),.i 0])))))))):=by kernel_rfl
theorem qjf:q1y [.s e0,.r a1,.i c2,.i c3]=(.br (ilt c3 c2) (qMb (inb c3 (qg a1)) (let r0:=ua [.s e0,.s (cS a1 c3 0)];qMa r0 (.br (ine (gI r0 1) 0) (.leaf (2,[.s [],.i (gI r0 1)])) (qMc [.s (gS r0 0),.r a1,.i c2,.i (qu .i64 c3 1)])))) (.leaf (1,[.s e0]))):=by kernel_rfl
theorem qyv:qc9 [.r a0]=(.br (ilt 4096 (qg a0)) (qMc [.s [],.i 5]) (let r0:=qG [.r a0];qMa r0 (.br (ine (gI r0 0) 0) (qMc [.s [],.i (gI r0 0)]) (let r1:=qf q1y [.s [48],.r a0,.i (qg a0),.i 0];qMa r1 (.br (jIs r1 0) (qMc [.s (gS r1 0),.i 0]) (qMc [.s (gS r1 0),.i (gI r1 1)])))))):=by kernel_rfl
theorem uH:qR [.r a0,.s e1,.r a2,.i c3,.i c4]=(.br (ilt c4 c3) (qMb (inb c4 (qg a2)) (qMb (inb c4 (qg a0)) (let r0:=yh [.s (cS a2 c4 0),.s (cS a0 c4 0)];qMa r0 (.br (ine (gI r0 1) 0) (.leaf (2,[.s [],.i (gI r0 1)])) (let r1:=ua [.s e1,.s (gS r0 0)];qMa r1 (.br (ine (gI r1 1) 0) (.leaf (2,[.s [],.i (gI r1 1)])) (qMc [.r a0,.s (gS r1 0),.r a2,.i c3,.i (qu .i64 c4 1)]))))))) (.leaf (1,[.s e1]))):=by kernel_rfl
theorem q7y:qC [.r a0,.r a1]=(let r0:=qf qR [.r a1,.s [48],.r a0,.i (qg a0),.i 0];qMa r0 (.br (jIs r0 0) (qMc [.s (gS r0 0),.i 0]) (qMc [.s (gS r0 0),.i (gI r0 1)]))):=by kernel_rfl
theorem qfl:uX [.i c0,.i c1,.i c2,.i c3,.s e4,.s e5,.s e6,.r a7]=(let t0:=jB [.i (qtB [c0,c1,c2] c3)];let p0:List PV:=[.s (gS t0 0)];let t1:=wu ((.s e6)::p0);let i0:Int:=(qu .i64 c3 1);let t2:=wu ((.s e5)::p0);let t3:=wu ((.s e4)::p0);(.br (ilt c3 3) (qMb (inb c3 3) (.br (ieq c3 2) (qMa t0 (qMa t1 (.br (ine (gI t1 1) 0) (.leaf (2,[.s [],.i (gI t1 1)])) (qMb (ile ((qg a7)+(qg [[.s (gS t1 0)]])) 8796093022208) (qMc [.i c0,.i c1,.i c2,.i i0,.s e4,.s e5,.s e6,.r (zR a7 [[.s (gS t1 0)]])]))))) (.br (ieq c3 1) (qMa t0 (qMa t2 (.br (ine (gI t2 1) 0) (.leaf (2,[.s [],.i (gI t2 1)])) (qMb (ile ((qg a7)+(qg [[.s (gS t2 0)]])) 8796093022208) (qMc [.i c0,.i c1,.i c2,.i i0,.s e4,.s e5,.s e6,.r (zR a7 [[.s (gS t2 0)]])]))))) (qMb (ieq c3 0) (qMa t0 (qMa t3 (.br (ine (gI t3 1) 0) (.leaf (2,[.s [],.i (gI t3 1)])) (qMb (ile ((qg a7)+(qg [[.s (gS t3 0)]])) 8796093022208) (qMc [.i c0,.i c1,.i c2,.i i0,.s e4,.s e5,.s e6,.r (zR a7 [[.s (gS t3 0)]])]))))))))) (.leaf (1,[.r a7])))):=by kernel_rfl
theorem qsu:vu [.s e0,.s e1,.s e2,.i c3,.i c4,.i c5]=(let r0:=qJ [.i c3,.i c4,.i c5];qMa r0 (let r1:=qf uX [.i (gI r0 0),.i (gI r0 1),.i (gI r0 2),.i 0,.s e0,.s e1,.s e2,.r []];qMa r1 (.br (jIs r1 0) (let r2:=qC [.r (gR r1 0),.r (gR r1 0)];qMa r2 (qMc [.s (gS r2 0),.i (gI r2 1)])) (qMc [.s (gS r1 0),.i (gI r1 1)])))):=by kernel_rfl
theorem qah:jk [.r a0,.i c1,.i c2,.i c3,.i c4,.i c5,.i c6,.s e7,.s e8,.s e9,.s e10,.r a11,.r a12]=(.br (ilt c6 c5) (qMb (inb 0 (qg a0)) (qMb (inb (qu .i64 c2 1) (qg a0)) (qMb (inb (qu .i64 c6 1) (qg a0)) (let r0:=q15 [.i (cI a0 0 0),.i (cI a0 0 1),.i (cI a0 0 2),.i (cI a0 (qu .i64 c2 1) 0),.i (cI a0 (qu .i64 c2 1) 1),.i (cI a0 (qu .i64 c2 1) 2),.i (cI a0 (qu .i64 c6 1) 0),.i (cI a0 (qu .i64 c6 1) 1),.i (cI a0 (qu .i64 c6 1) 2)];qMa r0 (qMb (ile ((qg a11)+(qg [[.i (vW .i64 2 (gI r0 0))]])) 17592186044416) (qMc [.r a0,.i c1,.i c2,.i c3,.i c4,.i c5,.i (qu .i64 c6 1),.s e7,.s e8,.s e9,.s e10,.r (zR a11 [[.i (vW .i64 2 (gI r0 0))]]),.r a12])))))) (.leaf (1,[.r a0,.i c1,.i c2,.i c3,.i c4,.s e7,.s e8,.s e9,.s e10,.r a11,.r a12]))):=by kernel_rfl
theorem qcq:jM [.r a0,.i c1,.i c2,.i c3,.s e4,.s e5,.s e6,.s e7,.r a8,.r a9]=(let p0:List PV:=[.s e4,.s e5,.s e6,.s e7,.r a8,.r a9];let t0:=qf jk ((.r a0)::(.i c1)::(.i c3)::(.i c2)::(.i c3)::(.i c1)::(.i 0)::p0);let l0:R:=(gR t0 0);let i0:Int:=(qu .i64 (gI t0 2) 1);let t1:=q15 [.i (cI l0 0 0),.i (cI l0 0 1),.i (cI l0 0 2),.i (cI l0 i0 0),.i (cI l0 i0 1),.i (cI l0 i0 2),.i (cI l0 i0 0),.i (cI l0 i0 1),.i (cI l0 i0 2)];let t2:=jB [.i (gI t1 0)];(.br (ilt c3 c2) (qMa t0 (qMb (inb 0 (qg l0)) (qMb (inb i0 (qg l0)) (qMb (inb i0 (qg l0)) (qMa t1 (qMa t2 (qMb (ile ((qg (gR t0 10))+(qg [[.s (gS t2 0)]])) 8796093022208) (qMc [.r l0,.i (gI t0 1),.i (gI t0 3),.i (qu .i64 (gI t0 4) 1),.s (gS t0 5),.s (gS t0 6),.s (gS t0 7),.s (gS t0 8),.r (gR t0 9),.r (zR (gR t0 10) [[.s (gS t2 0)]])])))))))) (.leaf (1,((.r a0)::(.i c1)::p0))))):=by kernel_rfl
theorem qao:jg [.r a0,.i c1,.i c2,.r a3,.i c4,.i c5,.s e6,.s e7,.s e8,.s e9,.r a10,.s e11,.s e12,.s e13,.s e14,.r a15]=(.br (ilt c5 c4) (qMb (inb c5 (qg a3)) (let r0:=qJ [.i (cI a3 c5 0),.i (cI a3 c5 1),.i (cI a3 c5 2)];qMa r0 (qMb (inb c1 3) (let r1:=jB [.i (qtB [(gI r0 0),(gI r0 1),(gI r0 2)] c1)];qMa r1 (qMb (ile ((qg a15)+(qg [[.s (gS r1 0)]])) 8796093022208) (qMc [.r a0,.i c1,.i c2,.r a3,.i c4,.i (qu .i64 c5 1),.s e6,.s e7,.s e8,.s e9,.r a10,.s e11,.s e12,.s e13,.s e14,.r (zR a15 [[.s (gS r1 0)]])])))))) (.leaf (1,[.r a0,.i c1,.i c2,.s e6,.s e7,.s e8,.s e9,.r a10,.s e11,.s e12,.s e13,.s e14,.r a15]))):=by kernel_rfl
theorem qai:jd [.r a0,.i c1,.s e2,.s e3,.s e4,.s e5,.r a6,.s e7,.s e8,.s e9,.s e10]=(let t0:=qf jg [.r a0,.i c1,.i c1,.r a0,.i (qg a0),.i 0,.s e2,.s e3,.s e4,.s e5,.r a6,.s e7,.s e8,.s e9,.s e10,.r []];let l0:R:=(gR t0 7);let t1:=qC [.r l0,.r (gR t0 12)];let b0:Bool:=(ine (gI t1 1) 0);let t2:TR:=(.leaf (2,[.b false,.i (gI t1 1),.s [],.s [],.s [],.s []]));let i0:Int:=(qu .i64 (gI t0 2) 1);let p0:List PV:=[.s (gS t0 10),.s (gS t0 11)];(.br (ilt c1 3) (qMa t0 (qMa t1 (.br (ieq (gI t0 1) 2) (.br b0 t2 (qMc [.r (gR t0 0),.i i0,.s (gS t0 3),.s (gS t0 4),.s (gS t0 5),.s (gS t0 6),.r l0,.s (gS t0 8),.s (gS t0 9),.s (gS t1 0),.s (gS t0 11)])) (.br (ieq (gI t0 1) 1) (.br b0 t2 (qMc ((.r (gR t0 0))::(.i i0)::(.s (gS t0 3))::(.s (gS t0 4))::(.s (gS t0 5))::(.s (gS t0 6))::(.r l0)::(.s (gS t0 8))::(.s (gS t1 0))::p0))) (qMb (ieq (gI t0 1) 0) (.br b0 t2 (qMc ((.r (gR t0 0))::(.i i0)::(.s (gS t0 3))::(.s (gS t0 4))::(.s (gS t0 5))::(.s (gS t0 6))::(.r l0)::(.s (gS t1 0))::(.s (gS t0 9))::p0)))))))) (.leaf (1,[.r a0,.s e2,.s e3,.s e4,.s e5,.r a6,.s e7,.s e8,.s e9,.s e10])))):=by kernel_rfl
theorem qfw:zS [.r a0]=(let r0:=qf jM [.r a0,.i (wW .i64 (qg a0) 1),.i (wW .i64 (qg a0) 1),.i 0,.s [],.s [],.s [],.s [],.r [],.r []];qMa r0 (let r1:=qcs [.i (gI r0 1),.i (gI r0 1),.r (gR r0 6)];qMa r1 (.br (ine (gI r1 3) 0) (qMc [.s [],.s [],.s [],.s [],.r [],.b false,.i (gI r1 3)]) (let r2:=ye [.i (gI r1 0),.i (gI r1 1),.r (gR r1 2)];qMa r2 (.br (ieq (gI r2 3) 14) (qMc [.s [],.s [],.s [],.s [],.r [],.b false,.i 0]) (.br (ine (gI r2 3) 0) (qMc [.s [],.s [],.s [],.s [],.r [],.b false,.i (gI r2 3)]) (let r3:=q4j [.i (gI r2 0),.i (gI r2 1),.r (gR r2 2),.r (gR r0 7)];qMa r3 (.br (ine (gI r3 1) 0) (qMc [.s [],.s [],.s [],.s [],.r [],.b false,.i (gI r3 1)]) (let r4:=qc9 [.r (gR r3 0)];qMa r4 (.br (ine (gI r4 1) 0) (qMc [.s [],.s [],.s [],.s [],.r [],.b false,.i (gI r4 1)]) (let r5:=wu [.s [49],.s (gS r4 0)];qMa r5 (.br (ine (gI r5 1) 0) (qMc [.s [],.s [],.s [],.s [],.r [],.b false,.i (gI r5 1)]) (qMb (ile ((qg [[.s (gS r5 0)]])+(qg (gR r3 0))) 8796093022208) (let r6:=qf jd [.r (gR r0 0),.i 0,.s (gS r0 2),.s (gS r0 3),.s (gS r0 4),.s (gS r0 5),.r (zR [[.s (gS r5 0)]] (gR r3 0)),.s [],.s [],.s [],.s []];qMa r6 (.br (jIs r6 0) (qMb (inb 0 (qg (gR r6 0))) (let r7:=vu [.s (gS r6 6),.s (gS r6 7),.s (gS r6 8),.i (cI (gR r6 0) 0 0),.i (cI (gR r6 0) 0 1),.i (cI (gR r6 0) 0 2)];qMa r7 (qMc [.s (gS r6 6),.s (gS r6 7),.s (gS r6 8),.s (gS r7 0),.r (gR r6 5),.b true,.i (gI r7 1)]))) (qMc [.s (gS r6 2),.s (gS r6 3),.s (gS r6 4),.s (gS r6 5),.r [],.b (gB r6 0),.i (gI r6 1)])))))))))))))))):=by kernel_rfl
theorem qbR:jL [.r a0,.r a1,.i c2,.i c3,.r a4]=(.br (ilt c3 c2) (qMb (inb c3 (qg a1)) (qMb (inb (cI a1 c3 0) (qg a0)) (qMb (ile ((qg a4)+(qg [[.i (cI a0 (cI a1 c3 0) 0),.i (cI a0 (cI a1 c3 0) 1),.i (cI a0 (cI a1 c3 0) 2)]])) 5864062014805) (qMc [.r a0,.r a1,.i c2,.i (qu .i64 c3 1),.r (zR a4 [[.i (cI a0 (cI a1 c3 0) 0),.i (cI a0 (cI a1 c3 0) 1),.i (cI a0 (cI a1 c3 0) 2)]])])))) (.leaf (1,[.r a4]))):=by kernel_rfl
theorem qpi:q1b [.r a0,.r a1]=(let r0:=qf jL [.r a0,.r a1,.i (qg a1),.i 0,.r []];qMa r0 (qMc [.r (gR r0 0)])):=by kernel_rfl
theorem qup:q7m [.s e0]=(let r0:=zd [.s e0];qMa r0 (.br (ine (gI r0 0) 0) (qMc [.s [],.s [],.i (gI r0 0)]) (let r1:=qZ [.s e0];qMa r1 (qMc [.s (gS r1 0),.s (gS r1 1),.i 0])))):=by kernel_rfl
theorem qx0:q9j [.s e0]=(let r0:=z7 [.s e0];qMa r0 (.br (ine (gI r0 0) 0) (qMc [.i 0,.i (gI r0 0)]) (let r1:=yD [.s e0];qMa r1 (qMc [.i (gI r1 0),.i 0])))):=by kernel_rfl
theorem qwH:q5O [.s e0]=(let r0:=q7m [.s e0];qMa r0 (.br (ine (gI r0 2) 0) (qMc [.i 0,.i (gI r0 2)]) (let r1:=q9j [.s (gS r0 0)];qMa r1 (qMc [.i (gI r1 0),.i (gI r1 1)])))):=by kernel_rfl
theorem qd0:zg [.s e0]=(qMa (q5O [.s e0]) (qMc [.b (ilt (gI (q5O [.s e0]) 0) 0)])):=by kernel_rfl
theorem qB:qj [.r a0,.i c1,.i c2,.r a3,.r a4]=(.br (ilt c2 c1) (qMb (inb c2 (qg a0)) (let r0:=zg [.s (cS a0 c2 0)];qMa r0 (.br (gB r0 0) (.leaf (2,[.i c2,.r a3,.r a4])) (qMc [.r a0,.i c1,.i (qu .i64 c2 1),.r a3,.r a4])))) (.leaf (1,[.r a3,.r a4]))):=by kernel_rfl
theorem vX:qo [.r a0]=(let r0:=qf qj [.r a0,.i (qg a0),.i 0,.r a0,.r a0];qMa r0 (.br (jIs r0 0) (qMc [.b false]) (qMc [.b (ile 0 (gI r0 0))]))):=by kernel_rfl
theorem qfH:vD [.s e0,.s e1,.s e2,.s e3,.r a4]=(let r0:=qo [.r a4];qMa r0 (qMc [.b (not (gB r0 0))])):=by kernel_rfl
theorem qqF:uk [.s e0,.s e1]=(let r0:=qG [.r [[.s e0],[.s e1]]];qMa r0 (.br (ine (gI r0 0) 0) (qMc [.i 0,.i (gI r0 0)]) (let r1:=qZ [.s e0];qMa r1 (let r2:=qZ [.s e1];qMa r2 (let r3:=qw [.r [[.s (gS r1 0)],[.s (gS r2 1)]],.i 0];qMa r3 (let r4:=qw [.r [[.s (gS r2 0)],[.s (gS r1 1)]],.i (gI r3 1)];qMa r4 (.br (ine (gI r4 1) 0) (qMc [.i 0,.i (gI r4 1)]) (let r5:=u9 [.s (gS r3 0),.s (gS r4 0)];qMa r5 (qMc [.i (gI r5 0),.i (gI r5 1)]))))))))):=by kernel_rfl
theorem yA:z6 [.r a0,.i c1,.i c2,.s e3,.s e4,.s e5,.s e6,.r a7]=(.br (ilt c2 c1) (qMb (inb c2 (qg a0)) (let r0:=vu [.s e3,.s e4,.s e5,.i (cI a0 c2 0),.i (cI a0 c2 1),.i (cI a0 c2 2)];qMa r0 (.br (ine (gI r0 1) 0) (.leaf (2,[.b false,.i (gI r0 1)])) (let r1:=uk [.s (gS r0 0),.s e6];qMa r1 (.br (ine (gI r1 1) 0) (.leaf (2,[.b false,.i (gI r1 1)])) (.br (ilt 0 (gI r1 0)) (.leaf (2,[.b false,.i (gI r1 1)])) (qMc [.r a0,.i c1,.i (qu .i64 c2 1),.s e3,.s e4,.s e5,.s e6,.r a7]))))))) (.leaf (1,[]))):=by kernel_rfl
theorem qcV:wK [.s e0,.s e1,.s e2,.s e3,.r a4,.r a5]=(let r0:=qf z6 [.r a5,.i (qg a5),.i 0,.s e0,.s e1,.s e2,.s e3,.r a4];qMa r0 (.br (jIs r0 0) (qMc [.b true,.i 0]) (qMc [.b (gB r0 0),.i (gI r0 1)]))):=by kernel_rfl
theorem qap:zf [.r a0,.r a1]=(let t0:=q1b [.r a0,.r a1];let t1:=zS [.r (gR t0 0)];let t2:TR:=(qMc [.s [],.s [],.s [],.s [],.r [],.b false,.i (gI t1 6)]);let t3:=vD [.s (gS t1 0),.s (gS t1 1),.s (gS t1 2),.s (gS t1 3),.r (gR t1 4)];let t4:=wK [.s (gS t1 0),.s (gS t1 1),.s (gS t1 2),.s (gS t1 3),.r (gR t1 4),.r a0];(qMa t0 (qMa t1 (.br (ine (gI t1 6) 0) t2 (.br (not (gB t1 5)) t2 (qMa t3 (.br (not (gB t3 0)) t2 (qMa t4 (qMc [.s (gS t1 0),.s (gS t1 1),.s (gS t1 2),.s (gS t1 3),.r (gR t1 4),.b (gB t4 0),.i (gI t4 1)]))))))))):=by kernel_rfl
theorem q13:qO [.r a0,.i c1,.i c2,.i c3,.i c4,.i c5,.r a6,.s e7,.s e8,.s e9,.s e10,.i c11,.i c12,.i c13,.r a14,.r a15]=(.br (ilt c1 c12) (let r0:=wD [.r a0];qMa r0 (qMb (ile ((qg (gR r0 0))+(qg [[.i c1]])) 17592186044416) (qMb (ile ((qg a15)+(qg [[.l (zR (gR r0 0) [[.i c1]])]])) 5864062014805) (let r1:=zf [.r a6,.r (zR (gR r0 0) [[.i c1]])];qMa r1 (.br (ine (gI r1 6) 0) .fail (.br (gB r1 5) (.leaf (2,[.r a6,.s (gS r1 0),.s (gS r1 1),.s (gS r1 2),.s (gS r1 3),.r (gR r1 4),.i 0,.i c12,.i c13,.r (zR (gR r0 0) [[.i c1]])])) (qMc [.r a0,.i (qu .i64 c1 1),.i c2,.i c3,.i c4,.i c5,.r a6,.s e7,.s e8,.s e9,.s e10,.i c11,.i c12,.i c13,.r a14,.r (zR a15 [[.l (zR (gR r0 0) [[.i c1]])]])]))))))) (.leaf (1,[.i c2,.i c3,.i c4,.i c5,.r a6,.s e7,.s e8,.s e9,.s e10,.i c11,.i c12,.i c13,.r a14,.r a15]))):=by kernel_rfl
theorem q1O:v8 [.i c0,.i c1,.i c2,.i c3,.r a4,.s e5,.s e6,.s e7,.s e8,.i c9,.i c10,.i c11,.r a12,.r a13]=(let l0:R:=(cR a12 c3 0);let i0:Int:=(qg l0);let p0:List PV:=[.i c0,.i c1,.i c2,.i c3,.r a4,.s e5,.s e6,.s e7,.s e8,.i c9,.i c10,.i c11,.r a12,.r a13];let t0:=qf qO ((.r l0)::(.i (qu .i64 (cI l0 (wW .i64 i0 1) 0) 1))::p0);let t1:=qf qO ((.r l0)::(.i 0)::p0);(.br (ilt c3 c2) (qMb (inb c3 (qg a12)) (.br (ilt 0 i0) (qMb (inb (wW .i64 i0 1) i0) (qMa t0 (.br (jIs t0 0) (qMc [.i (gI t0 0),.i (gI t0 1),.i (gI t0 2),.i (qu .i64 (gI t0 3) 1),.r (gR t0 4),.s (gS t0 5),.s (gS t0 6),.s (gS t0 7),.s (gS t0 8),.i (gI t0 9),.i (gI t0 10),.i (gI t0 11),.r (gR t0 12),.r (gR t0 13)]) (.leaf (2,[.r (gR t0 0),.s (gS t0 1),.s (gS t0 2),.s (gS t0 3),.s (gS t0 4),.r (gR t0 5),.i (gI t0 6),.i (gI t0 7),.i (gI t0 8),.r (gR t0 9)]))))) (qMa t1 (.br (jIs t1 0) (qMc [.i (gI t1 0),.i (gI t1 1),.i (gI t1 2),.i (qu .i64 (gI t1 3) 1),.r (gR t1 4),.s (gS t1 5),.s (gS t1 6),.s (gS t1 7),.s (gS t1 8),.i (gI t1 9),.i (gI t1 10),.i (gI t1 11),.r (gR t1 12),.r (gR t1 13)]) (.leaf (2,[.r (gR t1 0),.s (gS t1 1),.s (gS t1 2),.s (gS t1 3),.s (gS t1 4),.r (gR t1 5),.i (gI t1 6),.i (gI t1 7),.i (gI t1 8),.r (gR t1 9)])))))) (.leaf (1,[.i c0,.i c1,.r a4,.s e5,.s e6,.s e7,.s e8,.i c9,.i c10,.i c11,.r a13])))):=by kernel_rfl
theorem q1I:vh [.i c0,.i c1,.r a2,.s e3,.s e4,.s e5,.s e6,.i c7,.i c8,.i c9,.r a10]=(.br (ilt c1 c0) (let r0:=qf v8 [.i c0,.i c1,.i (qg a10),.i 0,.r a2,.s e3,.s e4,.s e5,.s e6,.i c7,.i c8,.i c9,.r a10,.r []];qMa r0 (.br (jIs r0 0) (qMc [.i (gI r0 0),.i (qu .i64 (gI r0 1) 1),.r (gR r0 2),.s (gS r0 3),.s (gS r0 4),.s (gS r0 5),.s (gS r0 6),.i (gI r0 7),.i (gI r0 8),.i (gI r0 9),.r (gR r0 10)]) (.leaf (2,[.r (gR r0 0),.s (gS r0 1),.s (gS r0 2),.s (gS r0 3),.s (gS r0 4),.r (gR r0 5),.i (gI r0 6),.i (gI r0 7),.i (gI r0 8),.r (gR r0 9)])))) (.leaf (1,[.r a2,.s e3,.s e4,.s e5,.s e6,.i c7,.i c8,.i c9]))):=by kernel_rfl
theorem qqB:vM [.r a0,.i c1]=(let r0:=qf vh [.i c1,.i 0,.r a0,.s [],.s [],.s [],.s [],.i 0,.i (qg a0),.i c1,.r [[.l []]]];qMa r0 (.br (jIs r0 0) (qMc [.s [],.s [],.s [],.s [],.r [],.r [],.i 6]) (qMc [.s (gS r0 1),.s (gS r0 2),.s (gS r0 3),.s (gS r0 4),.r (gR r0 5),.r (gR r0 9),.i (gI r0 6)]))):=by kernel_rfl
theorem qbH:jY [.r a0,.i c1,.i c2,.r a3]=(.br (ilt c2 c1) (qMb (inb c2 (qg a0)) (qMb (ile ((qg a3)+(qg [[.i (cI a0 c2 0),.i (cI a0 c2 1),.i 0]])) 5864062014805) (qMc [.r a0,.i c1,.i (qu .i64 c2 1),.r (zR a3 [[.i (cI a0 c2 0),.i (cI a0 c2 1),.i 0]])]))) (.leaf (1,[.r a3]))):=by kernel_rfl
theorem qpq:wT [.r a0]=(let r0:=qf jY [.r a0,.i (qg a0),.i 0,.r []];qMa r0 (qMc [.r (gR r0 0)])):=by kernel_rfl
theorem q0F:wF [.s e0,.s e1,.s e2,.s e3,.r a4]=(qMc [.s e0,.s e1]):=by kernel_rfl
theorem qfu:zV [.r a0]=(let r0:=jw [.r a0];qMa r0 (.br (ine (gI r0 0) 0) (qMc [.s [],.s [],.s [],.r [],.i (gI r0 0)]) (let r1:=wT [.r a0];qMa r1 (let r2:=vM [.r (gR r1 0),.i 3];qMa r2 (.br (ine (gI r2 6) 0) (qMc [.s [],.s [],.s [],.r [],.i (gI r2 6)]) (let r3:=wF [.s (gS r2 0),.s (gS r2 1),.s (gS r2 2),.s (gS r2 3),.r (gR r2 4)];qMa r3 (qMc [.s (gS r3 0),.s (gS r3 1),.s (gS r2 3),.r (gR r2 5),.i 0]))))))):=by kernel_rfl
theorem quD:uY [.i c0,.i c1,.i c2]=(qMa (qY [.i c0]) (.br (gB (qY [.i c0]) 0) (qMa (qY [.i c1]) (.br (gB (qY [.i c1]) 0) (qMa (qY [.i c2]) (qMc [.b (gB (qY [.i c2]) 0)])) (qMc [.b false]))) (qMc [.b false]))):=by kernel_rfl
theorem q5A:zu [.r a0,.i c1,.i c2]=(.br (ilt c2 c1) (qMb (inb c2 (qg a0)) (let r0:=uY [.i (cI a0 c2 0),.i (cI a0 c2 1),.i (cI a0 c2 2)];qMa r0 (.br (not (gB r0 0)) (.leaf (2,[.i 2])) (qMc [.r a0,.i c1,.i (qu .i64 c2 1)])))) (.leaf (1,[]))):=by kernel_rfl
theorem qib:jH [.r a0]=(let r0:=qf zu [.r a0,.i (qg a0),.i 0];qMa r0 (.br (jIs r0 0) (qMc [.i 0]) (qMc [.i (gI r0 0)]))):=by kernel_rfl
theorem qcP:wM [.r a0]=(.br (ilt 64 (qg a0)) (qMc [.i 5]) (let r0:=jH [.r a0];qMa r0 (qMc [.i (gI r0 0)]))):=by kernel_rfl
theorem qks:um [.r a0]=(let r0:=wM [.r a0];qMa r0 (qMc [.i (gI r0 0)])):=by kernel_rfl
theorem qsI:kC [.r a0]=(let r0:=um [.r a0];qMa r0 (.br (ine (gI r0 0) 0) (qMc [.i (gI r0 0)]) (let r1:=kF [.i (qg a0)];qMa r1 (qMc [.i (gI r1 0)])))):=by kernel_rfl
theorem qfg:zX [.r a0]=(let r0:=kC [.r a0];qMa r0 (.br (ine (gI r0 0) 0) (qMc [.s [],.s [],.s [],.s [],.r [],.i (gI r0 0)]) (let r1:=vM [.r a0,.i 4];qMa r1 (.br (ine (gI r1 6) 0) (qMc [.s [],.s [],.s [],.s [],.r [],.i (gI r1 6)]) (qMc [.s (gS r1 0),.s (gS r1 1),.s (gS r1 2),.s (gS r1 3),.r (gR r1 5),.i 0]))))):=by kernel_rfl
theorem qtt:yL [.i c0,.i c1]=(qMb (ieq c1 0) (qMc [.r [[.l []]]])):=by kernel_rfl
theorem qnV(y0:Int)(y1:R)(y2:Int)(y3:R)(y4 y5:Int)(y6:R):yY [.i y0,.r y1,.i y2,.r y3,.i y4,.i y5,.r y6]=(.br (ilt y2 y0) (qMb (ile ((qg [])+(qg y1)) 17592186044416) (qMb (ile ((qg (zR [] y1))+(qg [[.i y2]])) 17592186044416) (qMb (ile ((qg y6)+(qg [[.l (zR (zR [] y1) [[.i y2]])]])) 5864062014805) (qMc [.i y0,.r y1,.i (qu .i64 y2 1),.r y3,.i y4,.i y5,.r (zR y6 [[.l (zR (zR [] y1) [[.i y2]])]])])))) (.leaf (1,[.i y0,.r y3,.i y4,.i y5,.r y6]))):=by kernel_rfl
theorem qp1(y0:Int)(y1:R)(y2 y3:Int)(y4:R):q1a [.i y0,.r y1,.i y2,.i y3,.r y4]=(.br (ilt y3 y2) (qMb (inb y3 (qg y1)) (.br (ilt 0 (qg (cR y1 y3 0))) (qMb (inb (wW .i64 (qg (cR y1 y3 0)) 1) (qg (cR y1 y3 0))) (let r0:=qf yY [.i y0,.r (cR y1 y3 0),.i (qu .i64 (cI (cR y1 y3 0) (wW .i64 (qg (cR y1 y3 0)) 1) 0) 1),.r y1,.i y2,.i y3,.r y4];qMa r0 (qMc [.i (gI r0 0),.r (gR r0 1),.i (gI r0 2),.i (qu .i64 (gI r0 3) 1),.r (gR r0 4)]))) (let r0:=qf yY [.i y0,.r (cR y1 y3 0),.i 0,.r y1,.i y2,.i y3,.r y4];qMa r0 (qMc [.i (gI r0 0),.r (gR r0 1),.i (gI r0 2),.i (qu .i64 (gI r0 3) 1),.r (gR r0 4)])))) (.leaf (1,[.r y4]))):=by kernel_rfl
theorem qs2:kz [.i c0,.i c1]=(.br (ieq c1 0) (qMc [.r [[.l []]]]) (let r0:=yL [.i c0,.i (wW .i64 c1 1)];qMa r0 (let r1:=qf q1a [.i c0,.r (gR r0 0),.i (qg (gR r0 0)),.i 0,.r []];qMa r1 (qMc [.r (gR r1 0)])))):=by kernel_rfl
theorem qoc(y0:Int)(y1:R)(y2:Int)(y3:R)(y4 y5:Int)(y6:R):yX [.i y0,.r y1,.i y2,.r y3,.i y4,.i y5,.r y6]=(.br (ilt y2 y0) (qMb (ile ((qg [])+(qg y1)) 17592186044416) (qMb (ile ((qg (zR [] y1))+(qg [[.i y2]])) 17592186044416) (qMb (ile ((qg y6)+(qg [[.l (zR (zR [] y1) [[.i y2]])]])) 5864062014805) (qMc [.i y0,.r y1,.i (qu .i64 y2 1),.r y3,.i y4,.i y5,.r (zR y6 [[.l (zR (zR [] y1) [[.i y2]])]])])))) (.leaf (1,[.i y0,.r y3,.i y4,.i y5,.r y6]))):=by kernel_rfl
theorem qoD(y0:Int)(y1:R)(y2 y3:Int)(y4:R):q1f [.i y0,.r y1,.i y2,.i y3,.r y4]=(.br (ilt y3 y2) (qMb (inb y3 (qg y1)) (.br (ilt 0 (qg (cR y1 y3 0))) (qMb (inb (wW .i64 (qg (cR y1 y3 0)) 1) (qg (cR y1 y3 0))) (let r0:=qf yX [.i y0,.r (cR y1 y3 0),.i (qu .i64 (cI (cR y1 y3 0) (wW .i64 (qg (cR y1 y3 0)) 1) 0) 1),.r y1,.i y2,.i y3,.r y4];qMa r0 (qMc [.i (gI r0 0),.r (gR r0 1),.i (gI r0 2),.i (qu .i64 (gI r0 3) 1),.r (gR r0 4)]))) (let r0:=qf yX [.i y0,.r (cR y1 y3 0),.i 0,.r y1,.i y2,.i y3,.r y4];qMa r0 (qMc [.i (gI r0 0),.r (gR r0 1),.i (gI r0 2),.i (qu .i64 (gI r0 3) 1),.r (gR r0 4)])))) (.leaf (1,[.r y4]))):=by kernel_rfl
theorem qrQ:kD [.i c0,.i c1]=(.br (ieq c1 0) (qMc [.r [[.l []]]]) (let r0:=kz [.i c0,.i (wW .i64 c1 1)];qMa r0 (let r1:=qf q1f [.i c0,.r (gR r0 0),.i (qg (gR r0 0)),.i 0,.r []];qMa r1 (qMc [.r (gR r1 0)])))):=by kernel_rfl
theorem qnP(y0:Int)(y1:R)(y2:Int)(y3:R)(y4 y5:Int)(y6:R):yR [.i y0,.r y1,.i y2,.r y3,.i y4,.i y5,.r y6]=(.br (ilt y2 y0) (qMb (ile ((qg [])+(qg y1)) 17592186044416) (qMb (ile ((qg (zR [] y1))+(qg [[.i y2]])) 17592186044416) (qMb (ile ((qg y6)+(qg [[.l (zR (zR [] y1) [[.i y2]])]])) 5864062014805) (qMc [.i y0,.r y1,.i (qu .i64 y2 1),.r y3,.i y4,.i y5,.r (zR y6 [[.l (zR (zR [] y1) [[.i y2]])]])])))) (.leaf (1,[.i y0,.r y3,.i y4,.i y5,.r y6]))):=by kernel_rfl
theorem qp7(y0:Int)(y1:R)(y2 y3:Int)(y4:R):q1h [.i y0,.r y1,.i y2,.i y3,.r y4]=(.br (ilt y3 y2) (qMb (inb y3 (qg y1)) (.br (ilt 0 (qg (cR y1 y3 0))) (qMb (inb (wW .i64 (qg (cR y1 y3 0)) 1) (qg (cR y1 y3 0))) (let r0:=qf yR [.i y0,.r (cR y1 y3 0),.i (qu .i64 (cI (cR y1 y3 0) (wW .i64 (qg (cR y1 y3 0)) 1) 0) 1),.r y1,.i y2,.i y3,.r y4];qMa r0 (qMc [.i (gI r0 0),.r (gR r0 1),.i (gI r0 2),.i (qu .i64 (gI r0 3) 1),.r (gR r0 4)]))) (let r0:=qf yR [.i y0,.r (cR y1 y3 0),.i 0,.r y1,.i y2,.i y3,.r y4];qMa r0 (qMc [.i (gI r0 0),.r (gR r0 1),.i (gI r0 2),.i (qu .i64 (gI r0 3) 1),.r (gR r0 4)])))) (.leaf (1,[.r y4]))):=by kernel_rfl
theorem qso:kU [.i c0,.i c1]=(.br (ieq c1 0) (qMc [.r [[.l []]]]) (let r0:=kD [.i c0,.i (wW .i64 c1 1)];qMa r0 (let r1:=qf q1h [.i c0,.r (gR r0 0),.i (qg (gR r0 0)),.i 0,.r []];qMa r1 (qMc [.r (gR r1 0)])))):=by kernel_rfl
theorem qpJ(y0:Int)(y1:R)(y2:Int)(y3:R)(y4 y5:Int)(y6:R):uS [.i y0,.r y1,.i y2,.r y3,.i y4,.i y5,.r y6]=(.br (ilt y2 y0) (qMb (ile ((qg [])+(qg y1)) 17592186044416) (qMb (ile ((qg (zR [] y1))+(qg [[.i y2]])) 17592186044416) (qMb (ile ((qg y6)+(qg [[.l (zR (zR [] y1) [[.i y2]])]])) 5864062014805) (qMc [.i y0,.r y1,.i (qu .i64 y2 1),.r y3,.i y4,.i y5,.r (zR y6 [[.l (zR (zR [] y1) [[.i y2]])]])])))) (.leaf (1,[.i y0,.r y3,.i y4,.i y5,.r y6]))):=by kernel_rfl
theorem qqN(y0:Int)(y1:R)(y2 y3:Int)(y4:R):q2z [.i y0,.r y1,.i y2,.i y3,.r y4]=(.br (ilt y3 y2) (qMb (inb y3 (qg y1)) (.br (ilt 0 (qg (cR y1 y3 0))) (qMb (inb (wW .i64 (qg (cR y1 y3 0)) 1) (qg (cR y1 y3 0))) (let r0:=qf uS [.i y0,.r (cR y1 y3 0),.i (qu .i64 (cI (cR y1 y3 0) (wW .i64 (qg (cR y1 y3 0)) 1) 0) 1),.r y1,.i y2,.i y3,.r y4];qMa r0 (qMc [.i (gI r0 0),.r (gR r0 1),.i (gI r0 2),.i (qu .i64 (gI r0 3) 1),.r (gR r0 4)]))) (let r0:=qf uS [.i y0,.r (cR y1 y3 0),.i 0,.r y1,.i y2,.i y3,.r y4];qMa r0 (qMc [.i (gI r0 0),.r (gR r0 1),.i (gI r0 2),.i (qu .i64 (gI r0 3) 1),.r (gR r0 4)])))) (.leaf (1,[.r y4]))):=by kernel_rfl
theorem qtS:q6l [.i c0,.i c1]=(.br (ieq c1 0) (qMc [.r [[.l []]]]) (let r0:=kU [.i c0,.i (wW .i64 c1 1)];qMa r0 (let r1:=qf q2z [.i c0,.r (gR r0 0),.i (qg (gR r0 0)),.i 0,.r []];qMa r1 (qMc [.r (gR r1 0)])))):=by kernel_rfl
theorem qqR:q2D [.s e0,.i c1]=(.br (ilt c1 (qx e0)) (qMb (inb c1 (qx e0)) (.br (ieq (sat e0 c1) 47) (.leaf (2,[.i c1])) (qMc [.s e0,.i (qu .i64 c1 1)]))) (.leaf (1,[]))):=by kernel_rfl
theorem qtT:q6h [.s e0]=(let r0:=qf q2D [.s e0,.i 0];qMa r0 (.br (jIs r0 0) (qMc [.i (-1)]) (qMc [.i (gI r0 0)]))):=by kernel_rfl
theorem quu:yw [.s e0]=(let r0:=q6h [.s e0];qMa r0 (.br (ilt (gI r0 0) 0) (qMc [.s e0,.s [49]]) (qMb (q5S (gI r0 0) (qx e0)) (qMb (q5S 0 (gI r0 0)) (qMb (q5S (qx e0) (qx e0)) (qMb (q5S (qu .i64 (gI r0 0) 1) (qx e0)) (qMc [.s (qeG e0 0 (gI r0 0)),.s (qeG e0 (qu .i64 (gI r0 0) 1) (qx e0))]))))))):=by kernel_rfl
theorem qwj:qy [.s e0]=(.br (not (seq e0 [])) (qMb (inb 0 (qx e0)) (.br (ieq (sat e0 0) 45) (qMb (q5S (qx e0) (qx e0)) (qMb (q5S 1 (qx e0)) (qMc [.s (qeG e0 1 (qx e0))]))) (qMc [.s e0]))) (qMc [.s e0])):=by kernel_rfl
theorem quj:qz [.s e0]=(qMb (inb 0 (qx e0)) (qMc [.b (ieq (sat e0 0) 45)])):=by kernel_rfl
theorem qsX:za [.s e0,.b d1]=(.br d1 (.br (not (seq e0 [48])) (qMb (ile ((qx [45])+(qx e0)) 140737488355328) (qMc [.s (qg3 [45] e0)])) (qMc [.s e0])) (qMc [.s e0])):=by kernel_rfl
theorem qta:zU [.s e0]=(let r0:=qy [.s e0];qMa r0 (let r1:=qz [.s e0];qMa r1 (let r2:=za [.s (gS r0 0),.b (not (gB r1 0))];qMa r2 (qMc [.s (gS r2 0)])))):=by kernel_rfl
theorem quy(y0:Int)(y1:qMd):qaQ [.i y0,.s y1]=(.br (ilt 9 y0) (qMb (ile ((qx (qoV [[.i (q3r .u8 (qu .i64 48 (qcW y0 10)))]]))+(qx y1)) 140737488355328) (qMc [.i (qd4 .i64 y0 10),.s (qg3 (qoV [[.i (q3r .u8 (qu .i64 48 (qcW y0 10)))]]) y1)])) (.leaf (1,[.i y0,.s y1]))):=by kernel_rfl
theorem qyZ:q57 [.i c0]=(let t0:=qf qaQ [.i c0,.s []];let s0:List UInt8:=(qoV [[.i (q3r .u8 (qu .i64 48 (gI t0 0)))]]);let t1:TR:=(.br (ilt c0 0) .fail (qMa t0 (qMb (ile ((qx s0)+(qx (gS t0 1))) 140737488355328) (qMc [.s (qg3 s0 (gS t0 1))]))));(.br (ieq c0 (wW .i64 0 c0)) (.br (ine c0 0) (qMc [.s [45,57,50,50,51,51,55,50,48,51,54,56,53,52,55,55,53,56,48,56]]) t1) t1)):=by kernel_rfl
theorem qx5(y0:Int)(y1:qMd):qdB [.i y0,.s y1]=(.br (ilt 9 y0) (qMb (ile ((qx (qoV [[.i (q3r .u8 (qu .i64 48 (qcW y0 10)))]]))+(qx y1)) 140737488355328) (qMc [.i (qd4 .i64 y0 10),.s (qg3 (qoV [[.i (q3r .u8 (qu .i64 48 (qcW y0 10)))]]) y1)])) (.leaf (1,[.i y0,.s y1]))):=by kernel_rfl
theorem qsU:zJ [.i c0]=(let i0:Int:=(wW .i64 0 c0);let t0:=zU [.s (gS (q57 [.i i0]) 0)];let t1:=qf qdB [.i c0,.s []];let s0:List UInt8:=(qoV [[.i (q3r .u8 (qu .i64 48 (gI t1 0)))]]);let t2:TR:=(.br (ilt c0 0) (qMa (q57 [.i i0]) (qMa t0 (qMc [.s (gS t0 0)]))) (qMa t1 (qMb (ile ((qx s0)+(qx (gS t1 1))) 140737488355328) (qMc [.s (qg3 s0 (gS t1 1))]))));(.br (ieq c0 i0) (.br (ine c0 0) (qMc [.s [45,57,50,50,51,51,55,50,48,51,54,56,53,52,55,55,53,56,48,56]]) t2) t2)):=by kernel_rfl
theorem qfI:uT [.s e0,.i c1,.s e2,.i c3]=(.br (ilt c3 (qx e2)) (qMb (inb c3 (qx e2)) (qMc [.s e0,.i (qu .i64 (vW .i64 10 c1) (q3r .i64 (wW .u8 (sat e2 c3) 48))),.s e2,.i (qu .i64 c3 1)])) (.leaf (1,[.s e0,.i c1]))):=by kernel_rfl
theorem qte:yG [.s e0]=(let r0:=qy [.s e0];qMa r0 (let r1:=qf uT [.s e0,.i 0,.s (gS r0 0),.i 0];qMa r1 (let r2:=qz [.s (gS r1 0)];qMa r2 (.br (gB r2 0) (qMc [.i (wW .i64 0 (gI r1 1))]) (qMc [.i (gI r1 1)]))))):=by kernel_rfl
theorem qtH:vF [.s e0,.s e1]=(qMa (qy [.s e0]) (.br (ilt 18 (qx (gS (qy [.s e0]) 0))) (qMc [.i 0,.i 0,.b false]) (qMa (qy [.s e1]) (.br (ilt 18 (qx (gS (qy [.s e1]) 0))) (qMc [.i 0,.i 0,.b false]) (qMa (yG [.s e0]) (qMa (yG [.s e1]) (qMc [.i (gI (yG [.s e0]) 0),.i (gI (yG [.s e1]) 0),.b true]))))))):=by kernel_rfl
theorem qth:q4g [.s e0]=(.br (ilt 1 (qx e0)) (qMb (inb 0 (qx e0)) (.br (ieq (sat e0 0) 48) (qMb (q5S (qx e0) (qx e0)) (qMb (q5S 1 (qx e0)) (qMc [.s (qeG e0 1 (qx e0))]))) (.leaf (1,[.s e0])))) (.leaf (1,[.s e0]))):=by kernel_rfl
theorem qwR:yE [.s e0]=(let r0:=qf q4g [.s e0];qMa r0 (qMc [.s (gS r0 0)])):=by kernel_rfl
theorem qjM:q1p [.s e0,.i c1,.i c2,.r a3]=(.br (ilt c2 c1) (qMb (inb c2 (qg a3)) (qMc [.s e0,.i c1,.i (qu .i64 c2 1),.r (qbu a3 c2 0 [.i 48])])) (.leaf (1,[.s e0,.i c1,.r a3]))):=by kernel_rfl
theorem qvZ:q5N [.s e0,.i c1]=(let t0:=qf q1p [.s e0,.i c1,.i 0,.r (q3K c1 [.i 0])];let i0:Int:=(qg (gR t0 2));let i1:Int:=(wW .i64 (gI t0 1) (qx (gS t0 0)));(qMb (ieq c1 c1) (qMb (q5S c1 140737488355328) (qMa t0 (qMb (ilt 0 i0) (qMb (q5S i1 i0) (qMb (ile (qx (gS t0 0)) (qzh i0 i1)) (qMc [.s (qoV (qzd (gR t0 2) i1 (gS t0 0)))])))))))):=by kernel_rfl
theorem qsH:q4d [.i c0,.i c1,.i c2,.b d3]=(let i0:Int:=(q3r .i64 (wW .u8 c0 48));let i1:Int:=(q3r .i64 (wW .u8 c1 48));let i2:Int:=(qu .i64 (qu .i64 i0 i1) c2);let i3:Int:=(qu .i64 48 i2);let i4:Int:=(wW .i64 (wW .i64 i0 i1) c2);let i5:Int:=(qu .i64 48 i4);(.br d3 (.br (ilt 9 i2) (qMc [.i (q3r .u8 (wW .i64 i3 10)),.i 1]) (.br (ilt i2 0) (qMc [.i (q3r .u8 (qu .i64 i3 10)),.i 1]) (qMc [.i (q3r .u8 i3),.i 0]))) (.br (ilt 9 i4) (qMc [.i (q3r .u8 (wW .i64 i5 10)),.i 1]) (.br (ilt i4 0) (qMc [.i (q3r .u8 (qu .i64 i5 10)),.i 1]) (qMc [.i (q3r .u8 i5),.i 0]))))):=by kernel_rfl
theorem qqP:q0z [.s e0,.s e1,.b d2,.i c3,.i c4,.r a5]=(.br (ile 0 c4) (qMb (inb c4 (qx e0)) (qMb (inb c4 (qx e1)) (let r0:=q4d [.i (sat e0 c4),.i (sat e1 c4),.i c3,.b d2];qMa r0 (qMb (inb c4 (qg a5)) (qMc [.s e0,.s e1,.b d2,.i (gI r0 1),.i (wW .i64 c4 1),.r (qbu a5 c4 0 [.i (gI r0 0)])]))))) (.leaf (1,[.r a5]))):=by kernel_rfl
theorem quA:yx [.s e0,.s e1,.b d2]=(let i0:Int:=(qu .i64 (qxq (qx e0) (qx e1)) 1);let t0:=q5N [.s e0,.i i0];let t1:=q5N [.s e1,.i i0];let t2:=qf q0z [.s (gS t0 0),.s (gS t1 0),.b d2,.i 0,.i (wW .i64 i0 1),.r (q3K i0 [.i 0])];let t3:=yE [.s (qoV (gR t2 0))];(qMa t0 (qMa t1 (qMb (ieq i0 i0) (qMb (q5S i0 140737488355328) (qMa t2 (qMa t3 (qMc [.s (gS t3 0)])))))))):=by kernel_rfl
theorem qxj:q2B [.s e0,.s e1]=(.br (ilt (qx e0) (qx e1)) (qMc [.b true]) (.br (ieq (qx e0) (qx e1)) (qMc [.b (slt e0 e1)]) (qMc [.b false]))):=by kernel_rfl
theorem qxf:q2o [.s e0,.s e1]=(let r0:=vF [.s e0,.s e1];qMa r0 (.br (gB r0 2) (let r1:=zJ [.i (qu .i64 (gI r0 0) (gI r0 1))];qMa r1 (qMc [.s (gS r1 0)])) (let r1:=qy [.s e0];qMa r1 (let r2:=qy [.s e1];qMa r2 (let r3:=qz [.s e0];qMa r3 (let r4:=qz [.s e1];qMa r4 (.br (beq (gB r3 0) (gB r4 0)) (let r5:=yx [.s (gS r1 0),.s (gS r2 0),.b true];qMa r5 (qMa r3 (let r6:=za [.s (gS r5 0),.b (gB r3 0)];qMa r6 (qMc [.s (gS r6 0)])))) (let r5:=q2B [.s (gS r1 0),.s (gS r2 0)];qMa r5 (.br (gB r5 0) (let r6:=yx [.s (gS r2 0),.s (gS r1 0),.b false];qMa r6 (qMa r4 (let r7:=za [.s (gS r6 0),.b (gB r4 0)];qMa r7 (qMc [.s (gS r7 0)])))) (let r6:=yx [.s (gS r1 0),.s (gS r2 0),.b false];qMa r6 (qMa r3 (let r7:=za [.s (gS r6 0),.b (gB r3 0)];qMa r7 (qMc [.s (gS r7 0)]))))))))))))):=by kernel_rfl
theorem quE:vQ [.s e0,.s e1]=(let r0:=zU [.s e1];qMa r0 (let r1:=q2o [.s e0,.s (gS r0 0)];qMa r1 (qMc [.s (gS r1 0)]))):=by kernel_rfl
theorem qu1:q0M [.s e0,.s e1]=(let r0:=vQ [.s e0,.s e1];qMa r0 (.br (seq (gS r0 0) [48]) (qMc [.i 0]) (let r1:=qz [.s (gS r0 0)];qMa r1 (.br (gB r1 0) (qMc [.i (-1)]) (qMc [.i 1]))))):=by kernel_rfl
theorem qoi:yT [.s e0,.s e1,.i c2,.i c3,.r a4]=(let i0:Int:=(qu .i64 (qu .i64 c2 c3) 1);(.br (ilt c3 (qx e1)) (qMb (inb i0 (qg a4)) (qMb (inb c2 (qx e0)) (qMb (inb c3 (qx e1)) (qMb (inb i0 (qg a4)) (qMc [.s e0,.s e1,.i c2,.i (qu .i64 c3 1),.r (qbu a4 i0 0 [.i (qu .i64 (cI a4 i0 0) (vW .i64 (q3r .i64 (wW .u8 (sat e0 c2) 48)) (q3r .i64 (wW .u8 (sat e1 c3) 48))))])]))))) (.leaf (1,[.s e0,.s e1,.i c2,.r a4])))):=by kernel_rfl
theorem qnR:yP [.s e0,.s e1,.i c2,.r a3]=(.br (ilt c2 (qx e0)) (let r0:=qf yT [.s e0,.s e1,.i c2,.i 0,.r a3];qMa r0 (qMc [.s (gS r0 0),.s (gS r0 1),.i (qu .i64 (gI r0 2) 1),.r (gR r0 3)])) (.leaf (1,[.r a3]))):=by kernel_rfl
theorem qm2:ya [.i c0,.i c1,.r a2,.r a3]=(.br (ile 0 c1) (qMb (inb c1 (qg a2)) (qMb (inb c1 (qg a3)) (qMc [.i (qd4 .i64 (qu .i64 c0 (cI a2 c1 0)) 10),.i (wW .i64 c1 1),.r a2,.r (qbu a3 c1 0 [.i (q3r .u8 (qu .i64 48 (qcW (qu .i64 c0 (cI a2 c1 0)) 10)))])]))) (.leaf (1,[.r a3]))):=by kernel_rfl
theorem qqK:q2S [.s e0,.s e1]=(let i0:Int:=(qu .i64 (qx e0) (qx e1));let t0:=qf yP [.s e0,.s e1,.i 0,.r (q3K i0 [.i 0])];let i1:Int:=(qg (gR t0 0));let t1:=qf ya [.i 0,.i (wW .i64 i1 1),.r (gR t0 0),.r (q3K i1 [.i 0])];let t2:=yE [.s (qoV (gR t1 0))];(qMb (ieq i0 i0) (qMb (q5S i0 17592186044416) (qMa t0 (qMb (ieq i1 i1) (qMb (q5S i1 140737488355328) (qMa t1 (qMa t2 (qMc [.s (gS t2 0)]))))))))):=by kernel_rfl
theorem qtU:wS [.s e0,.s e1]=(let p0:List PV:=[.s e1];let t0:=vF ((.s e0)::p0);let t1:=zJ [.i (vW .i64 (gI t0 0) (gI t0 1))];let t2:=q2S [.s (gS (qy [.s e0]) 0),.s (gS (qy p0) 0)];let t3:=za [.s (gS t2 0),.b (not (beq (gB (qz [.s e0]) 0) (gB (qz p0) 0)))];let t4:TR:=(qMa (qy [.s e0]) (qMa (qy p0) (qMa t2 (qMa (qz [.s e0]) (qMa (qz p0) (qMa t3 (qMc [.s (gS t3 0)])))))));(qMa t0 (.br (gB t0 2) (.br (ile (qu .i64 (qx e0) (qx e1)) 18) (qMa t1 (qMc [.s (gS t1 0)])) t4) t4))):=by kernel_rfl
theorem qm1:jQ [.s e0,.s e1,.s e2,.s e3,.i c4,.i c5]=(let r0:=q2B [.s e3,.s e1];qMa r0 (.br (not (gB r0 0)) (let r1:=yx [.s e3,.s e1,.b false];qMa r1 (qMc [.s e0,.s e1,.s e2,.s (gS r1 0),.i c4,.i (qu .u8 c5 1)])) (.leaf (1,[.s e0,.s e1,.s e2,.s e3,.i c4,.i c5])))):=by kernel_rfl
theorem qo3:q09 [.s e0,.s e1,.s e2,.s e3,.i c4]=(.br (ilt c4 (qx e0)) (qMb (q5S (qu .i64 c4 1) (qx e0)) (qMb (q5S c4 (qu .i64 c4 1)) (qMb (ile ((qx e3)+(qx (qeG e0 c4 (qu .i64 c4 1)))) 140737488355328) (let r0:=yE [.s (qg3 e3 (qeG e0 c4 (qu .i64 c4 1)))];qMa r0 (let r1:=qf jQ [.s e0,.s e1,.s e2,.s (gS r0 0),.i c4,.i 48];qMa r1 (qMb (ile ((qx (gS r1 2))+(qx (qoV [[.i (gI r1 5)]]))) 140737488355328) (qMc [.s (gS r1 0),.s (gS r1 1),.s (qg3 (gS r1 2) (qoV [[.i (gI r1 5)]])),.s (gS r1 3),.i (qu .i64 (gI r1 4) 1)]))))))) (.leaf (1,[.s e2,.s e3]))):=by kernel_rfl
theorem qqE:q2N [.s e0,.s e1]=(let r0:=qf q09 [.s e0,.s e1,.s [],.s [48],.i 0];qMa r0 (let r1:=yE [.s (gS r0 0)];qMa r1 (qMc [.s (gS r1 0),.s (gS r0 1)]))):=by kernel_rfl
theorem qsY:vq [.s e0,.s e1]=(let p0:List PV:=[.s e1];let t0:=vF ((.s e0)::p0);let i0:Int:=(gI t0 1);let i1:Int:=(qcW (gI t0 0) i0);let i2:Int:=(qu .i64 i1 i0);let t1:=zJ [.i (qd4 .i64 (wW .i64 (gI t0 0) i2) i0)];let t2:=zJ [.i (qd4 .i64 (wW .i64 (gI t0 0) i1) i0)];let t3:TR:=(qMb (ine i0 0) (qMa t2 (qMa (zJ [.i i1]) (qMc [.s (gS t2 0),.s (gS (zJ [.i i1]) 0)]))));let t4:=q2N [.s (gS (qy [.s e0]) 0),.s (gS (qy p0) 0)];let t5:=qz [.s e0];let b0:Bool:=(not (beq (gB t5 0) (gB (qz p0) 0)));let t6:=za [.s (gS t4 0),.b b0];let t7:=vQ [.s (gS t6 0),.s [49]];let t8:=wS ((.s (gS t7 0))::p0);let t9:=vQ [.s e0,.s (gS t8 0)];let t10:=wS ((.s (gS t6 0))::p0);let t11:=vQ [.s e0,.s (gS t10 0)];let t12:TR:=(qMa t10 (qMa t11 (qMc [.s (gS t6 0),.s (gS t11 0)])));(qMa t0 (.br (gB t0 2) (qMb (ine i0 0) (.br (ine i1 0) (.br (not (beq (ilt i1 0) (ilt i0 0))) (qMb (ine i0 0) (qMa t1 (qMa (zJ [.i i2]) (qMc [.s (gS t1 0),.s (gS (zJ [.i i2]) 0)])))) t3) t3)) (qMa (qy [.s e0]) (qMa (qy p0) (qMa t4 (qMa t5 (qMa (qz p0) (qMa t6 (.br (not (seq (gS t4 1) [48])) (qMa t5 (qMa (qz p0) (.br b0 (qMa t7 (qMa t8 (qMa t9 (qMc [.s (gS t7 0),.s (gS t9 0)])))) t12))) t12)))))))))):=by kernel_rfl
theorem qn8:yS [.i c0,.i c1]=(.br (ilt 0 c1) (qMb (ine c1 0) (qMc [.i c1,.i (qcW c0 c1)])) (.leaf (1,[.i c0]))):=by kernel_rfl
theorem qoQ:q1e [.s e0,.s e1]=(.br (not (seq e1 [48])) (let r0:=vF [.s e0,.s e1];qMa r0 (.br (gB r0 2) (let r1:=qf yS [.i (gI r0 0),.i (gI r0 1)];qMa r1 (let r2:=zJ [.i (gI r1 0)];qMa r2 (.leaf (2,[.s (gS r2 0)])))) (let r1:=vq [.s e0,.s e1];qMa r1 (qMc [.s e1,.s (gS r1 1)])))) (.leaf (1,[.s e0]))):=by kernel_rfl
theorem qrH:q3Y [.s e0,.s e1]=(let r0:=qy [.s e0];qMa r0 (let r1:=za [.s (gS r0 0),.b false];qMa r1 (let r2:=qy [.s e1];qMa r2 (let r3:=za [.s (gS r2 0),.b false];qMa r3 (let r4:=qf q1e [.s (gS r1 0),.s (gS r3 0)];qMa r4 (.br (jIs r4 0) (qMc [.s (gS r4 0)]) (qMc [.s (gS r4 0)]))))))):=by kernel_rfl
theorem qqG:zn [.s e0,.s e1]=(let r0:=yw [.s e0];qMa r0 (let r1:=yw [.s e1];qMa r1 (let r2:=wS [.s (gS r0 0),.s (gS r1 1)];qMa r2 (let r3:=wS [.s (gS r1 0),.s (gS r0 1)];qMa r3 (let r4:=wS [.s (gS r0 1),.s (gS r1 1)];qMa r4 (let r5:=wS [.s (gS r0 0),.s (gS r1 0)];qMa r5 (let r6:=wS [.s (gS r0 1),.s (gS r1 0)];qMa r6 (qMc [.r [[.s (gS r2 0)],[.s (gS r3 0)],[.s (gS r4 0)],[.s (gS r5 0)],[.s (gS r6 0)]]])))))))):=by kernel_rfl
theorem quv:q0Y [.s e0,.s e1]=(let r0:=zn [.s e0,.s e1];qMa r0 (qMb (inb 0 (qg (gR r0 0))) (qMb (inb 1 (qg (gR r0 0))) (let r1:=q0M [.s (cS (gR r0 0) 0 0),.s (cS (gR r0 0) 1 0)];qMa r1 (qMc [.i (gI r1 0)]))))):=by kernel_rfl
theorem qfX:uW [.r a0,.r a1,.i c2,.r a3]=(.br (ilt c2 (qg a1)) (qMb (inb c2 (qg a1)) (qMb (inb (cI a1 c2 0) (qg a0)) (qMb (ile ((qg a3)+(qg [[.i (cI a0 (cI a1 c2 0) 0),.i (cI a0 (cI a1 c2 0) 1),.i (cI a0 (cI a1 c2 0) 2)]])) 5864062014805) (qMc [.r a0,.r a1,.i (qu .i64 c2 1),.r (zR a3 [[.i (cI a0 (cI a1 c2 0) 0),.i (cI a0 (cI a1 c2 0) 1),.i (cI a0 (cI a1 c2 0) 2)]])])))) (.leaf (1,[.r a3]))):=by kernel_rfl
theorem qsT:js [.r a0,.r a1]=(let r0:=qf uW [.r a0,.r a1,.i 0,.r []];qMa r0 (qMc [.r (gR r0 0)])):=by kernel_rfl
theorem qys:q8j [.r a0]=(.br (ile (qg a0) 8) (qMc [.b true]) (.br (ilt 64 (qg a0)) (qMc [.b (ilt (qg a0) 128)]) (qMc [.b false]))):=by kernel_rfl
theorem u4:zk [.r a0,.i c1]=(let t0:=zS [.r a0];let t1:TR:=(qMc [.s (gS t0 0),.s (gS t0 1),.s (gS t0 2),.s (gS t0 3),.r (gR t0 4),.i (gI t0 6)]);(.br (ilt c1 (qg a0)) (qMc [.s [],.s [],.s [],.s [],.r [],.i 5]) (qMa t0 (.br (ieq (gI t0 6) 0) (.br (not (gB t0 5)) (qMc [.s (gS t0 0),.s (gS t0 1),.s (gS t0 2),.s (gS t0 3),.r (gR t0 4),.i 10]) t1) t1)))):=by kernel_rfl
theorem qfr:zT [.r a0]=(let r0:=jw [.r a0];qMa r0 (.br (ine (gI r0 0) 0) (qMc [.s [],.s [],.s [],.i (gI r0 0)]) (let r1:=wT [.r a0];qMa r1 (let r2:=zk [.r (gR r1 0),.i 3];qMa r2 (.br (ine (gI r2 5) 0) (qMc [.s [],.s [],.s [],.i (gI r2 5)]) (let r3:=wF [.s (gS r2 0),.s (gS r2 1),.s (gS r2 2),.s (gS r2 3),.r (gR r2 4)];qMa r3 (qMc [.s (gS r3 0),.s (gS r3 1),.s (gS r2 3),.i 0]))))))):=by kernel_rfl
theorem vA:qM [.r a0,.r a1,.i c2,.i c3]=(.br (ilt c3 c2) (qMb (inb c3 (qg a0)) (qMb (inb c3 (qg a1)) (.br (not (seq (cS a0 c3 0) (cS a1 c3 0))) (.leaf (2,[.b false])) (qMc [.r a0,.r a1,.i c2,.i (qu .i64 c3 1)])))) (.leaf (1,[]))):=by kernel_rfl
theorem q7P:z8 [.r a0,.r a1]=(.br (ine (qg a0) (qg a1)) (qMc [.b false]) (let r0:=qf qM [.r a0,.r a1,.i (qg a0),.i 0];qMa r0 (.br (jIs r0 0) (qMc [.b true]) (qMc [.b (gB r0 0)])))):=by kernel_rfl
theorem q9c:vV [.r a0,.r a1,.r a2,.i c3,.r a4,.i c5,.i c6]=(.br (ilt c6 c5) (qMb (inb c6 (qg a4)) (let r0:=zd [.s (cS a4 c6 0)];qMa r0 (.br (ine (gI r0 0) 0) (.leaf (2,[.b false,.i (gI r0 0)])) (qMc [.r a0,.r a1,.r a2,.i c3,.r a4,.i c5,.i (qu .i64 c6 1)])))) (.leaf (1,[.r a0,.r a1,.r a2,.i c3]))):=by kernel_rfl
theorem q7z:wZ [.r a0,.r a1,.r a2,.i c3,.r a4,.i c5,.i c6]=(let i0:Int:=(cI a4 c6 0);let t0:TR:=(.leaf (2,[.b false,.i 2]));let t1:TR:=(qMc [.r a0,.r a1,.r a2,.i c3,.r a4,.i c5,.i (qu .i64 c6 1)]);(.br (ilt c6 c5) (qMb (inb c6 (qg a4)) (.br (ilt i0 0) t0 (.br (ile (qg a0) i0) t0 (.br (ilt 0 c6) (qMb (inb (wW .i64 c6 1) (qg a2)) (.br (ile i0 (cI a2 (wW .i64 c6 1) 0)) (.leaf (2,[.b false,.i 9])) t1)) t1)))) (.leaf (1,[.r a0,.r a1,.r a2,.i c3])))):=by kernel_rfl
theorem qmn:jO [.r a0,.r a1,.r a2,.i c3]=(let t0:=qf vV [.r a0,.r a1,.r a2,.i c3,.r a1,.i (qg a1),.i 0];let l0:R:=(gR t0 2);let t1:=qf wZ [.r (gR t0 0),.r (gR t0 1),.r l0,.i (gI t0 3),.r l0,.i (qg l0),.i 0];let t2:=zf [.r (gR t1 0),.r (gR t1 2)];let t3:TR:=(qMc [.b false,.i (gI t2 6)]);let i0:Int:=(wW .i64 (gI t1 3) 1);let s0:List UInt8:=(cS [[.s (gS t2 0),.s (gS t2 1),.s (gS t2 2),.s (gS t2 3),.l (gR t2 4)]] 0 3);let l1:R:=(qxn [[.s (gS t2 0)],[.s (gS t2 1)],[.s (gS t2 2)]] 0 i0);let t4:=z8 [.r (zR l1 [[.s s0]]),.r (gR t1 1)];(qMa t0 (.br (jIs t0 0) (.br (ieq (qg l0) 0) (qMc [.b false,.i 13]) (.br (ilt (gI t0 3) (qg l0)) (qMc [.b false,.i 5]) (qMa t1 (.br (jIs t1 0) (qMa t2 (.br (ine (gI t2 6) 0) t3 (.br (not (gB t2 5)) t3 (qMb (q5S i0 3) (qMb (q5S 0 i0) (qMb (ieq i0 i0) (qMb (ilt 0 (qg [[.s s0]])) (qMb (ile ((qg l1)+(qg [[.s s0]])) 8796093022208) (qMa t4 (qMc [.b (gB t4 0),.i 0])))))))))) (qMc [.b (gB t1 0),.i (gI t1 1)]))))) (qMc [.b (gB t0 0),.i (gI t0 1)])))):=by kernel_rfl
theorem qgc:wG [.r a0,.s e1,.s e2,.s e3,.r a4]=(let r0:=jw [.r a0];qMa r0 (.br (ine (gI r0 0) 0) (qMc [.b false,.i (gI r0 0)]) (let r1:=wT [.r a0];qMa r1 (let r2:=jO [.r (gR r1 0),.r [[.s e1],[.s e2],[.s e3]],.r a4,.i 3];qMa r2 (qMc [.b (gB r2 0),.i (gI r2 1)]))))):=by kernel_rfl
theorem qzn:q1q [.i c0,.i c1]=(qMc [.i c0,.i c1]):=by kernel_rfl
theorem q3R:zI [.r a0,.r a1,.i c2,.i c3]=(.br (ilt c3 c2) (qMb (inb c3 (qg a0)) (qMb (inb c3 (qg a1)) (.br (ine (cI a0 c3 0) (cI a1 c3 0)) (.leaf (2,[.b false])) (qMc [.r a0,.r a1,.i c2,.i (qu .i64 c3 1)])))) (.leaf (1,[]))):=by kernel_rfl
theorem qh8:wB [.r a0,.r a1]=(.br (ine (qg a0) (qg a1)) (qMc [.b false]) (let r0:=qf zI [.r a0,.r a1,.i (qg a0),.i 0];qMa r0 (.br (jIs r0 0) (qMc [.b true]) (qMc [.b (gB r0 0)])))):=by kernel_rfl
theorem qub  : zZ []=(let t0:=q1q [.i 0,.i 0];let t1:=q1q [.i 4,.i 0];let t2:=q1q [.i 0,.i 2];let t3:=zT [.r [[.i (gI t0 0),.i (gI t0 1)],[.i (gI t1 0),.i (gI t1 1)],[.i (gI t2 0),.i (gI t2 1)]]];let t4:=q1q [.i 6,.i 0];let t5:=q1q [.i 3,.i 5];let t6:=zV [.r [[.i (gI t0 0),.i (gI t0 1)],[.i (gI t4 0),.i (gI t4 1)],[.i (gI t5 0),.i (gI t5 1)]]];let t7:=zX [.r [[.i 0,.i 0,.i 0],[.i 2,.i 0,.i 0],[.i 0,.i 2,.i 0],[.i 0,.i 0,.i 2]]];let t8:=q1q [.i 3,.i 1];let t9:=wG [.r [[.i (gI t0 0),.i (gI t0 1)],[.i (gI t4 0),.i (gI t4 1)],[.i (gI t8 0),.i (gI t8 1)]],.s [51],.s [48],.s [57],.r [[.i 0],[.i 1]]];let t10:=wB [.r (gR t6 3),.r [[.i 0],[.i 1],[.i 2]]];let t11:=wB [.r (gR t7 4),.r [[.i 1],[.i 2],[.i 3]]];let t12:TR:=(qMc [.b false]);(qMa t0 (qMa t1 (qMa t2 (qMa t3 (qMa t0 (qMa t4 (qMa t5 (qMa t6 (qMa t7 (qMa t0 (qMa t4 (qMa t8 (qMa t9 (.br (ieq (qu .i64 (qu .i64 (qu .i64 (gI t3 3) (gI t6 4)) (gI t7 5)) (gI t9 1)) 0) (.br (qlN (seq (gS t3 0) [50]) (qlN (seq (gS t3 1) [49]) true)) (.br (seq (gS t3 2) [53]) (.br (qlN (seq (gS t6 0) [51]) (qlN (seq (gS t6 1) [56,47,53]) true)) (.br (seq (gS t6 2) [50,56,57,47,50,53]) (qMa t10 (.br (gB t10 0) (.br (qlN (seq (gS t7 0) [50,47,51]) (qlN (seq (gS t7 1) [50,47,51]) (qlN (seq (gS t7 2) [50,47,51]) true))) (.br (seq (gS t7 3) [56,47,51]) (qMa t11 (.br (gB t11 0) (qMc [.b (gB t9 0)]) t12)) t12) t12) t12)) t12) t12) t12) t12) t12))))))))))))))):=by kernel_rfl
theorem qfM:uN [.r a0,.i c1,.r a2]=(.br (ilt c1 (qg a0)) (qMb (inb c1 (qg a0)) (qMb (inb c1 (qg a0)) (qMb (ile ((qg a2)+(qg [[.i (cI a0 c1 0),.i (cI a0 c1 1),.i 0]])) 5864062014805) (qMc [.r a0,.i (qu .i64 c1 1),.r (zR a2 [[.i (cI a0 c1 0),.i (cI a0 c1 1),.i 0]])])))) (.leaf (1,[.r a2]))):=by kernel_rfl
theorem qt3:kV [.r a0]=(let r0:=qf uN [.r a0,.i 0,.r []];qMa r0 (qMc [.r (gR r0 0)])):=by kernel_rfl
theorem qzr:ji [.i c0]=(.br (ile (-100000) c0) (qMc [.b (ile c0 100000)]) (qMc [.b false])):=by kernel_rfl
theorem qtP:q3v [.i c0,.i c1]=(qMa (ji [.i c0]) (.br (gB (ji [.i c0]) 0) (qMa (ji [.i c1]) (qMc [.b (gB (ji [.i c1]) 0)])) (qMc [.b false]))):=by kernel_rfl
theorem qhU:un [.r a0,.i c1]=(.br (ilt c1 (qg a0)) (qMb (inb c1 (qg a0)) (let r0:=q3v [.i (cI a0 c1 0),.i (cI a0 c1 1)];qMa r0 (.br (not (gB r0 0)) (.leaf (2,[.i 2])) (qMc [.r a0,.i (qu .i64 c1 1)])))) (.leaf (1,[]))):=by kernel_rfl
theorem quq:q6g [.r a0]=(.br (ilt 64 (qg a0)) (qMc [.i 5]) (let r0:=qf un [.r a0,.i 0];qMa r0 (.br (jIs r0 0) (qMc [.i 0]) (qMc [.i (gI r0 0)])))):=by kernel_rfl
theorem qx4:q2E [.r a0]=(let r0:=q6g [.r a0];qMa r0 (.br (ine (gI r0 0) 0) (qMc [.i (gI r0 0)]) (.br (ieq (qg a0) 0) (qMc [.i 13]) (qMc [.i 0])))):=by kernel_rfl
theorem qu8:wg [.i c0]=(qMa (zJ [.i c0]) (qMc [.s (gS (zJ [.i c0]) 0)])):=by kernel_rfl
theorem qrV:wQ [.s e0,.s e1]=(let r0:=q3Y [.s e0,.s e1];qMa r0 (let r1:=qz [.s e1];qMa r1 (.br (gB r1 0) (let r2:=zU [.s (gS r0 0)];qMa r2 (let r3:=vq [.s e0,.s (gS r2 0)];qMa r3 (let r4:=vq [.s e1,.s (gS r2 0)];qMa r4 (.br (seq (gS r4 0) [49]) (qMc [.s (gS r3 0)]) (qMb (ile ((qx (gS r3 0))+(qx [47])) 140737488355328) (qMb (ile ((qx (qg3 (gS r3 0) [47]))+(qx (gS r4 0))) 140737488355328) (qMc [.s (qg3 (qg3 (gS r3 0) [47]) (gS r4 0))]))))))) (let r2:=vq [.s e0,.s (gS r0 0)];qMa r2 (let r3:=vq [.s e1,.s (gS r0 0)];qMa r3 (.br (seq (gS r3 0) [49]) (qMc [.s (gS r2 0)]) (qMb (ile ((qx (gS r2 0))+(qx [47])) 140737488355328) (qMb (ile ((qx (qg3 (gS r2 0) [47]))+(qx (gS r3 0))) 140737488355328) (qMc [.s (qg3 (qg3 (gS r2 0) [47]) (gS r3 0))]))))))))):=by kernel_rfl
theorem quF:zC [.s e0,.s e1]=(let r0:=zn [.s e0,.s e1];qMa r0 (qMb (inb 3 (qg (gR r0 0))) (qMb (inb 2 (qg (gR r0 0))) (let r1:=wQ [.s (cS (gR r0 0) 3 0),.s (cS (gR r0 0) 2 0)];qMa r1 (qMc [.s (gS r1 0)]))))):=by kernel_rfl
theorem quf:vG [.s e0,.s e1]=(let r0:=zn [.s e0,.s e1];qMa r0 (qMb (inb 0 (qg (gR r0 0))) (qMb (inb 1 (qg (gR r0 0))) (let r1:=vQ [.s (cS (gR r0 0) 0 0),.s (cS (gR r0 0) 1 0)];qMa r1 (qMb (inb 2 (qg (gR r0 0))) (let r2:=wQ [.s (gS r1 0),.s (cS (gR r0 0) 2 0)];qMa r2 (qMc [.s (gS r2 0)]))))))):=by kernel_rfl
theorem qwh:zO [.s e0,.s e1]=(let r0:=zn [.s e0,.s e1];qMa r0 (qMb (inb 0 (qg (gR r0 0))) (qMb (inb 1 (qg (gR r0 0))) (let r1:=q2o [.s (cS (gR r0 0) 0 0),.s (cS (gR r0 0) 1 0)];qMa r1 (qMb (inb 2 (qg (gR r0 0))) (let r2:=wQ [.s (gS r1 0),.s (cS (gR r0 0) 2 0)];qMa r2 (qMc [.s (gS r2 0)]))))))):=by kernel_rfl
theorem qjy:q1v [.s e0,.i c1,.i c2,.i c3,.i c4,.s e5,.s e6,.s e7]=(let t0:=wg [.i (qtB [c1,c2,c3] c4)];let p0:List PV:=[.s (gS t0 0)];let t1:=vG ((.s e7)::p0);let t2:=zC [.s (gS t1 0),.s (gS t1 0)];let t3:=zO [.s e0,.s (gS t2 0)];let p1:List PV:=[.i c1,.i c2,.i c3,.i (qu .i64 c4 1),.s e5,.s e6,.s e7];let t4:=vG ((.s e6)::p0);let t5:=zC [.s (gS t4 0),.s (gS t4 0)];let t6:=zO [.s e0,.s (gS t5 0)];let t7:=vG ((.s e5)::p0);let t8:=zC [.s (gS t7 0),.s (gS t7 0)];let t9:=zO [.s e0,.s (gS t8 0)];(.br (ilt c4 3) (qMb (inb c4 3) (.br (ieq c4 2) (qMa t0 (qMa t1 (qMa t2 (qMa t3 (qMc ((.s (gS t3 0))::p1)))))) (.br (ieq c4 1) (qMa t0 (qMa t4 (qMa t5 (qMa t6 (qMc ((.s (gS t6 0))::p1)))))) (qMb (ieq c4 0) (qMa t0 (qMa t7 (qMa t8 (qMa t9 (qMc ((.s (gS t9 0))::p1)))))))))) (.leaf (1,[.s e0])))):=by kernel_rfl
theorem qvW:yF [.s e0,.s e1,.s e2,.i c3,.i c4,.i c5]=(let r0:=qf q1v [.s [48],.i c3,.i c4,.i c5,.i 0,.s e0,.s e1,.s e2];qMa r0 (qMc [.s (gS r0 0)])):=by kernel_rfl
theorem qvU:q5G [.i c0,.i c1,.i c2,.i c3,.i c4,.i c5]=(qMc [.i (wW .i64 c0 c3),.i (wW .i64 c1 c4),.i (wW .i64 c2 c5)]):=by kernel_rfl
theorem qlO:wA [.i c0,.i c1,.i c2,.i c3,.i c4,.i c5]=(qMc [.i (qu .i64 (qu .i64 (vW .i64 c0 c3) (vW .i64 c1 c4)) (vW .i64 c2 c5))]):=by kernel_rfl
theorem q7o:jh [.r a0,.i c1,.i c2,.r a3]=(.br (ilt c2 (qg a0)) (qMb (inb c2 (qg a0)) (qMb (inb c1 (qg (cR a0 c2 0))) (.br (not (seq (cS (cR a0 c2 0) c1 0) [48])) (qMb (inb c2 (qg a0)) (qMb (inb c1 (qg a0)) (qMb (inb c1 (qg a3)) (qMb (inb c2 (qg (qbu a3 c1 0 [.l (cR a0 c2 0)]))) (.leaf (2,[.b true,.r (qbu (qbu a3 c1 0 [.l (cR a0 c2 0)]) c2 0 [.l (cR a0 c1 0)])])))))) (qMc [.r a0,.i c1,.i (qu .i64 c2 1),.r a3])))) (.leaf (1,[]))):=by kernel_rfl
theorem qqO:q2w [.r a0,.i c1]=(qMb (ile ((qg [])+(qg a0)) 5864062014805) (let r0:=qf jh [.r a0,.i c1,.i c1,.r (zR [] a0)];qMa r0 (.br (jIs r0 0) (qMc [.r [],.b false]) (qMc [.r (gR r0 1),.b (gB r0 0)])))):=by kernel_rfl
theorem qAl:qfU [.s e0,.s e1]=(let r0:=zn [.s e0,.s e1];qMa r0 (qMb (inb 0 (qg (gR r0 0))) (qMb (inb 4 (qg (gR r0 0))) (let r1:=wQ [.s (cS (gR r0 0) 0 0),.s (cS (gR r0 0) 4 0)];qMa r1 (qMc [.s (gS r1 0)]))))):=by kernel_rfl
theorem qhK:q0a [.r a0,.s e1,.i c2]=(.br (ilt c2 (qg a0)) (qMb (inb c2 (qg a0)) (let r0:=zO [.s e1,.s (cS a0 c2 0)];qMa r0 (qMc [.r a0,.s (gS r0 0),.i (qu .i64 c2 1)]))) (.leaf (1,[.s e1]))):=by kernel_rfl
theorem qut:q3d [.r a0]=(let r0:=qf q0a [.r a0,.s [48],.i 0];qMa r0 (qMc [.s (gS r0 0)])):=by kernel_rfl
theorem qbs:jZ [.r a0,.i c1,.i c2,.r a3,.i c4,.i c5,.i c6,.r a7]=(.br (ilt c2 (qg a0)) (qMb (inb c2 (qg a0)) (qMb (inb 0 (qg a0)) (let r0:=q5G [.i (cI a0 c2 0),.i (cI a0 c2 1),.i (cI a0 c2 2),.i (cI a0 0 0),.i (cI a0 0 1),.i (cI a0 0 2)];qMa r0 (let r1:=wA [.i c4,.i c5,.i c6,.i (gI r0 0),.i (gI r0 1),.i (gI r0 2)];qMa r1 (let r2:=wg [.i (vW .i64 2 (gI r1 0))];qMa r2 (qMb (ile ((qg a7)+(qg [[.s (gS r2 0)]])) 8796093022208) (qMc [.r a0,.i c1,.i (qu .i64 c2 1),.r a3,.i c4,.i c5,.i c6,.r (zR a7 [[.s (gS r2 0)]])]))))))) (.leaf (1,[.r a0,.i c1,.r a3,.i c4,.i c5,.i c6,.r a7]))):=by kernel_rfl
theorem qdi:yZ [.r a0,.i c1,.r a2]=(.br (ilt c1 (qg a0)) (qMb (inb c1 (qg a0)) (qMb (inb 0 (qg a0)) (let r0:=q5G [.i (cI a0 c1 0),.i (cI a0 c1 1),.i (cI a0 c1 2),.i (cI a0 0 0),.i (cI a0 0 1),.i (cI a0 0 2)];qMa r0 (let r1:=qf jZ [.r a0,.i c1,.i 1,.r a2,.i (gI r0 0),.i (gI r0 1),.i (gI r0 2),.r []];qMa r1 (let r2:=wA [.i (gI r1 3),.i (gI r1 4),.i (gI r1 5),.i (gI r1 3),.i (gI r1 4),.i (gI r1 5)];qMa r2 (let r3:=wg [.i (gI r2 0)];qMa r3 (qMb (ile ((qg (gR r1 6))+(qg [[.s (gS r3 0)]])) 8796093022208) (qMb (ile ((qg (gR r1 2))+(qg [[.l (zR (gR r1 6) [[.s (gS r3 0)]])]])) 5864062014805) (qMc [.r (gR r1 0),.i (qu .i64 (gI r1 1) 1),.r (zR (gR r1 2) [[.l (zR (gR r1 6) [[.s (gS r3 0)]])]])]))))))))) (.leaf (1,[.r a2]))):=by kernel_rfl
theorem q76:zA [.i c0,.r a1,.i c2,.i c3,.r a4,.r a5]=(qMb (inb c2 (qg a1)) (.br (ilt c3 (qg (cR a1 c2 0))) (qMb (inb c0 (qg a1)) (qMb (inb c3 (qg (cR a1 c0 0))) (qMb (inb c0 (qg a1)) (qMb (inb c0 (qg (cR a1 c0 0))) (let r0:=qfU [.s (cS (cR a1 c0 0) c3 0),.s (cS (cR a1 c0 0) c0 0)];qMa r0 (.br (ine c2 c0) (qMb (inb c2 (qg a1)) (qMb (inb c3 (qg (cR a1 c2 0))) (qMb (inb c2 (qg a1)) (qMb (inb c0 (qg (cR a1 c2 0))) (let r1:=zC [.s (cS (cR a1 c2 0) c0 0),.s (gS r0 0)];qMa r1 (let r2:=vG [.s (cS (cR a1 c2 0) c3 0),.s (gS r1 0)];qMa r2 (qMb (ile ((qg a5)+(qg [[.s (gS r2 0)]])) 8796093022208) (qMc [.i c0,.r a1,.i c2,.i (qu .i64 c3 1),.r a4,.r (zR a5 [[.s (gS r2 0)]])])))))))) (qMb (ile ((qg a5)+(qg [[.s (gS r0 0)]])) 8796093022208) (qMc [.i c0,.r a1,.i c2,.i (qu .i64 c3 1),.r a4,.r (zR a5 [[.s (gS r0 0)]])])))))))) (.leaf (1,[.i c0,.r a1,.i c2,.r a4,.r a5])))):=by kernel_rfl
theorem q7u:wC [.i c0,.r a1,.i c2,.r a3]=(.br (ilt c2 (qg a1)) (let r0:=qf zA [.i c0,.r a1,.i c2,.i 0,.r a3,.r []];qMa r0 (qMb (ile ((qg (gR r0 3))+(qg [[.l (gR r0 4)]])) 5864062014805) (qMc [.i (gI r0 0),.r (gR r0 1),.i (qu .i64 (gI r0 2) 1),.r (zR (gR r0 3) [[.l (gR r0 4)]])]))) (.leaf (1,[.i c0,.r a3]))):=by kernel_rfl
theorem qi0:zP [.i c0,.r a1]=(.br (ilt c0 (qg a1)) (let r0:=q2w [.r a1,.i c0];qMa r0 (.br (not (gB r0 1)) (.leaf (2,[.b false])) (let r1:=qf wC [.i c0,.r (gR r0 0),.i 0,.r []];qMa r1 (qMc [.i (qu .i64 (gI r1 0) 1),.r (gR r1 1)])))) (.leaf (1,[.r a1]))):=by kernel_rfl
theorem q7d:wH [.i c0,.r a1,.r a2]=(.br (ilt c0 (qg a1)) (qMb (inb c0 (qg a1)) (qMb (inb (qg a1) (qg (cR a1 c0 0))) (qMb (ile ((qg a2)+(qg [[.s (cS (cR a1 c0 0) (qg a1) 0)]])) 8796093022208) (qMc [.i (qu .i64 c0 1),.r a1,.r (zR a2 [[.s (cS (cR a1 c0 0) (qg a1) 0)]])])))) (.leaf (1,[.r a2]))):=by kernel_rfl
theorem qhw:vJ [.r a0]=(let r0:=qf yZ [.r a0,.i 1,.r []];qMa r0 (let r1:=qf zP [.i 0,.r (gR r0 0)];qMa r1 (.br (jIs r1 0) (let r2:=qf wH [.i 0,.r (gR r1 0),.r []];qMa r2 (let r3:=q3d [.r (gR r2 0)];qMa r3 (let r4:=vG [.s [49],.s (gS r3 0)];qMa r4 (qMb (ile ((qg [[.s (gS r4 0)]])+(qg (gR r2 0))) 8796093022208) (qMc [.r (zR [[.s (gS r4 0)]] (gR r2 0)),.b true]))))) (.br (not (gB r1 0)) (qMc [.r [],.b false]) (let r2:=q3d [.r []];qMa r2 (let r3:=vG [.s [49],.s (gS r2 0)];qMa r3 .fail)))))):=by kernel_rfl
theorem qfo:uM [.r a0,.r a1,.i c2,.i c3,.i c4,.i c5,.i c6,.s e7,.s e8,.s e9,.s e10,.s e11,.s e12]=(.br (ilt c6 3) (qMb (inb c6 3) (.br (ieq c6 2) (qMb (inb c2 (qg a1)) (let r0:=wg [.i (qtB [c3,c4,c5] c6)];qMa r0 (let r1:=zC [.s (cS a1 c2 0),.s (gS r0 0)];qMa r1 (let r2:=zO [.s e12,.s (gS r1 0)];qMa r2 (.br (ieq c6 2) (qMc [.r a0,.r a1,.i c2,.i c3,.i c4,.i c5,.i (qu .i64 c6 1),.s e7,.s e8,.s e9,.s e10,.s e11,.s (gS r2 0)]) (.br (ieq c6 1) (qMc [.r a0,.r a1,.i c2,.i c3,.i c4,.i c5,.i (qu .i64 c6 1),.s e7,.s e8,.s e9,.s e10,.s (gS r2 0),.s e12]) (qMb (ieq c6 0) (qMc [.r a0,.r a1,.i c2,.i c3,.i c4,.i c5,.i (qu .i64 c6 1),.s e7,.s e8,.s e9,.s (gS r2 0),.s e11,.s e12])))))))) (.br (ieq c6 1) (qMb (inb c2 (qg a1)) (let r0:=wg [.i (qtB [c3,c4,c5] c6)];qMa r0 (let r1:=zC [.s (cS a1 c2 0),.s (gS r0 0)];qMa r1 (let r2:=zO [.s e11,.s (gS r1 0)];qMa r2 (.br (ieq c6 2) (qMc [.r a0,.r a1,.i c2,.i c3,.i c4,.i c5,.i (qu .i64 c6 1),.s e7,.s e8,.s e9,.s e10,.s e11,.s (gS r2 0)]) (.br (ieq c6 1) (qMc [.r a0,.r a1,.i c2,.i c3,.i c4,.i c5,.i (qu .i64 c6 1),.s e7,.s e8,.s e9,.s e10,.s (gS r2 0),.s e12]) (qMb (ieq c6 0) (qMc [.r a0,.r a1,.i c2,.i c3,.i c4,.i c5,.i (qu .i64 c6 1),.s e7,.s e8,.s e9,.s (gS r2 0),.s e11,.s e12])))))))) (qMb (ieq c6 0) (qMb (inb c2 (qg a1)) (let r0:=wg [.i (qtB [c3,c4,c5] c6)];qMa r0 (let r1:=zC [.s (cS a1 c2 0),.s (gS r0 0)];qMa r1 (let r2:=zO [.s e10,.s (gS r1 0)];qMa r2 (.br (ieq c6 2) (qMc [.r a0,.r a1,.i c2,.i c3,.i c4,.i c5,.i (qu .i64 c6 1),.s e7,.s e8,.s e9,.s e10,.s e11,.s (gS r2 0)]) (.br (ieq c6 1) (qMc [.r a0,.r a1,.i c2,.i c3,.i c4,.i c5,.i (qu .i64 c6 1),.s e7,.s e8,.s e9,.s e10,.s (gS r2 0),.s e12]) (qMb (ieq c6 0) (qMc [.r a0,.r a1,.i c2,.i c3,.i c4,.i c5,.i (qu .i64 c6 1),.s e7,.s e8,.s e9,.s (gS r2 0),.s e11,.s e12])))))))))))) (.leaf (1,[.r a0,.r a1,.i c2,.s e7,.s e8,.s e9,.s e10,.s e11,.s e12]))):=by kernel_rfl
theorem qfY:uR [.r a0,.r a1,.i c2,.s e3,.s e4,.s e5,.s e6,.s e7,.s e8]=(.br (ilt c2 (qg a0)) (qMb (inb c2 (qg a0)) (qMb (inb c2 (qg a0)) (qMb (inb c2 (qg a0)) (let r0:=qf uM [.r a0,.r a1,.i c2,.i (cI a0 c2 0),.i (cI a0 c2 1),.i (cI a0 c2 2),.i 0,.s e3,.s e4,.s e5,.s e6,.s e7,.s e8];qMa r0 (qMc [.r (gR r0 0),.r (gR r0 1),.i (qu .i64 (gI r0 2) 1),.s (gS r0 3),.s (gS r0 4),.s (gS r0 5),.s (gS r0 6),.s (gS r0 7),.s (gS r0 8)]))))) (.leaf (1,[.s e3,.s e4,.s e5,.s e6,.s e7,.s e8]))):=by kernel_rfl
theorem qto:q4e [.r a0,.r a1]=(let r0:=qf uR [.r a0,.r a1,.i 0,.s [],.s [],.s [],.s [48],.s [48],.s [48]];qMa r0 (qMc [.s (gS r0 3),.s (gS r0 4),.s (gS r0 5)])):=by kernel_rfl
theorem qnk:zq [.r a0]=(let r0:=vJ [.r a0];qMa r0 (.br (not (gB r0 1)) (qMc [.s [],.s [],.s [],.s [],.b false]) (let r1:=q4e [.r a0,.r (gR r0 0)];qMa r1 (qMb (inb 0 (qg a0)) (let r2:=yF [.s (gS r1 0),.s (gS r1 1),.s (gS r1 2),.i (cI a0 0 0),.i (cI a0 0 1),.i (cI a0 0 2)];qMa r2 (qMc [.s (gS r1 0),.s (gS r1 1),.s (gS r1 2),.s (gS r2 0),.b true])))))):=by kernel_rfl
theorem qs6:q41 [.r a0]=(let r0:=q2E [.r a0];qMa r0 (.br (ine (gI r0 0) 0) (qMc [.s [],.s [],.s [],.i (gI r0 0)]) (.br (ilt 3 (qg a0)) (qMc [.s [],.s [],.s [],.i 5]) (let r1:=kV [.r a0];qMa r1 (let r2:=zq [.r (gR r1 0)];qMa r2 (.br (not (gB r2 4)) (qMc [.s [],.s [],.s [],.i 10]) (qMc [.s (gS r2 0),.s (gS r2 1),.s (gS r2 3),.i 0]))))))):=by kernel_rfl
theorem qrT:kW [.s e0]=(let r0:=yw [.s e0];qMa r0 (let r1:=q0M [.s (gS r0 0),.s [48]];qMa r1 (qMc [.i (gI r1 0)]))):=by kernel_rfl
theorem qfz:uP [.r a0,.b d1,.i c2]=(.br (ilt c2 (qg a0)) (.br d1 (qMb (inb c2 (qg a0)) (qMa (kW [.s (cS a0 c2 0)]) (qMc [.r a0,.b (ile 0 (gI (kW [.s (cS a0 c2 0)]) 0)),.i (qu .i64 c2 1)]))) (qMc [.r a0,.b false,.i (qu .i64 c2 1)])) (.leaf (1,[.b d1]))):=by kernel_rfl
theorem qrq:q3W [.r a0]=(let r0:=vJ [.r a0];qMa r0 (let r1:=qf uP [.r (gR r0 0),.b (gB r0 1),.i 0];qMa r1 (qMc [.b (gB r1 0)]))):=by kernel_rfl
theorem q5h:vE [.r a0,.s e1,.i c2,.s e3,.s e4,.s e5]=(.br (ilt c2 (qg a0)) (qMb (inb c2 (qg a0)) (let r0:=yF [.s e3,.s e4,.s e5,.i (cI a0 c2 0),.i (cI a0 c2 1),.i (cI a0 c2 2)];qMa r0 (let r1:=q0Y [.s (gS r0 0),.s e1];qMa r1 (.br (ilt 0 (gI r1 0)) (.leaf (2,[.b false])) (qMc [.r a0,.s e1,.i (qu .i64 c2 1),.s e3,.s e4,.s e5]))))) (.leaf (1,[]))):=by kernel_rfl
theorem qph:q1j [.r a0,.s e1,.s e2,.s e3,.s e4]=(let r0:=qf vE [.r a0,.s e4,.i 0,.s e1,.s e2,.s e3];qMa r0 (.br (jIs r0 0) (qMc [.b true]) (qMc [.b (gB r0 0)]))):=by kernel_rfl
theorem qfV:q1i [.r a0,.r a1]=(let r0:=js [.r a0,.r a1];qMa r0 (let r1:=zq [.r (gR r0 0)];qMa r1 (.br (gB r1 4) (let r2:=q3W [.r (gR r0 0)];qMa r2 (.br (gB r2 0) (let r3:=q1j [.r a0,.s (gS r1 0),.s (gS r1 1),.s (gS r1 2),.s (gS r1 3)];qMa r3 (qMc [.b (gB r3 0)])) (qMc [.b false]))) (qMc [.b false])))):=by kernel_rfl
theorem qae:q0A [.r a0,.i c1,.i c2,.r a3,.i c4,.i c5]=(.br (ilt c5 c4) (qMb (inb c5 (qg a3)) (let r0:=q1i [.r a0,.r (cR a3 c5 0)];qMa r0 (.br (gB r0 0) (.leaf (2,[.r (cR a3 c5 0)])) (qMc [.r a0,.i c1,.i c2,.r a3,.i c4,.i (qu .i64 c5 1)])))) (.leaf (1,[.r a0,.i c1,.i c2]))):=by kernel_rfl
theorem q9y:q0c [.r a0,.i c1,.i c2]=(.br (ile c2 c1) (let r0:=q6l [.i (qg a0),.i c2];qMa r0 (let r1:=qf q0A [.r a0,.i c1,.i c2,.r (gR r0 0),.i (qg (gR r0 0)),.i 0];qMa r1 (.br (jIs r1 0) (qMc [.r (gR r1 0),.i (gI r1 1),.i (qu .i64 (gI r1 2) 1)]) (.leaf (2,[.r (gR r1 0)]))))) (.leaf (1,[]))):=by kernel_rfl
theorem qu5:yC [.r a0,.i c1]=(let r0:=qf q0c [.r a0,.i c1,.i 1];qMa r0 (.br (jIs r0 0) (qMc [.r []]) (qMc [.r (gR r0 0)]))):=by kernel_rfl
theorem qiL:q1t [.r a0]=(let r0:=q2E [.r a0];qMa r0 (.br (ine (gI r0 0) 0) (qMc [.s [],.s [],.s [],.r [],.i (gI r0 0)]) (let r1:=kV [.r a0];qMa r1 (let r2:=yC [.r (gR r1 0),.i 3];qMa r2 (qMa r1 (let r3:=js [.r (gR r1 0),.r (gR r2 0)];qMa r3 (let r4:=zq [.r (gR r3 0)];qMa r4 (qMc [.s (gS r4 0),.s (gS r4 1),.s (gS r4 3),.r (gR r2 0),.i 0])))))))):=by kernel_rfl
theorem qcj:jP [.r a0,.r a1,.i c2]=(.br (ilt c2 (qg a0)) (qMb (inb c2 (qg a0)) (qMb (inb c2 (qg a1)) (.br (ine (cI a0 c2 0) (cI a1 c2 0)) (.leaf (2,[.b false])) (qMc [.r a0,.r a1,.i (qu .i64 c2 1)])))) (.leaf (1,[]))):=by kernel_rfl
theorem qoY:yf [.r a0,.r a1]=(.br (ine (qg a0) (qg a1)) (qMc [.b false]) (let r0:=qf jP [.r a0,.r a1,.i 0];qMa r0 (.br (jIs r0 0) (qMc [.b true]) (qMc [.b (gB r0 0)])))):=by kernel_rfl
theorem qgy:j8 [.r a0]=(let p0:List PV:=[.r a0];let t0:=zT p0;let t1:=q41 p0;let t2:=zV p0;let t3:=q1t p0;let t4:=yf [.r (gR t2 3),.r (gR t3 3)];let t5:TR:=(qMc [.b false]);(qMa (q8j p0) (.br (not (gB (q8j p0) 0)) (qMa (zZ []) (qMc [.b (gB (zZ []) 0)])) (qMa t0 (qMa t1 (qMa t2 (qMa t3 (qMa (zZ []) (.br (gB (zZ []) 0) (.br (qlN (seq (gS t0 0) (gS t1 0)) (qlN (seq (gS t0 1) (gS t1 1)) true)) (.br (seq (gS t0 2) (gS t1 2)) (.br (ieq (gI t0 3) (gI t1 3)) (.br (qlN (seq (gS t2 0) (gS t3 0)) (qlN (seq (gS t2 1) (gS t3 1)) true)) (.br (seq (gS t2 2) (gS t3 2)) (qMa t4 (.br (gB t4 0) (qMc [.b (ieq (gI t2 4) (gI t3 4))]) t5)) t5) t5) t5) t5) t5) t5))))))))):=by kernel_rfl
theorem qpm:uO [.r a0]=(.br (ile (qg a0) 6) (qMc [.b true]) (.br (ilt 64 (qg a0)) (qMc [.b (ilt (qg a0) 128)]) (qMc [.b false]))):=by kernel_rfl
theorem qoo:yO [.i c0,.i c1,.i c2]=(qMa (ji [.i c0]) (.br (gB (ji [.i c0]) 0) (qMa (ji [.i c1]) (.br (gB (ji [.i c1]) 0) (qMa (ji [.i c2]) (qMc [.b (gB (ji [.i c2]) 0)])) (qMc [.b false]))) (qMc [.b false]))):=by kernel_rfl
theorem q8X:ww [.r a0,.i c1]=(.br (ilt c1 (qg a0)) (qMb (inb c1 (qg a0)) (let r0:=yO [.i (cI a0 c1 0),.i (cI a0 c1 1),.i (cI a0 c1 2)];qMa r0 (.br (not (gB r0 0)) (.leaf (2,[.i 2])) (qMc [.r a0,.i (qu .i64 c1 1)])))) (.leaf (1,[]))):=by kernel_rfl
theorem qlI:kj [.r a0]=(.br (ilt 64 (qg a0)) (qMc [.i 5]) (let r0:=qf ww [.r a0,.i 0];qMa r0 (.br (jIs r0 0) (qMc [.i 0]) (qMc [.i (gI r0 0)])))):=by kernel_rfl
theorem qwg:q2j [.r a0]=(let r0:=kj [.r a0];qMa r0 (.br (ine (gI r0 0) 0) (qMc [.i (gI r0 0)]) (.br (ieq (qg a0) 0) (qMc [.i 13]) (qMc [.i 0])))):=by kernel_rfl
theorem qi5:jI [.r a0]=(let r0:=kC [.r a0];qMa r0 (.br (ine (gI r0 0) 0) (qMc [.s [],.s [],.s [],.s [],.i (gI r0 0)]) (let r1:=zk [.r a0,.i 4];qMa r1 (.br (ine (gI r1 5) 0) (qMc [.s [],.s [],.s [],.s [],.i (gI r1 5)]) (qMc [.s (gS r1 0),.s (gS r1 1),.s (gS r1 2),.s (gS r1 3),.i 0]))))):=by kernel_rfl
theorem qkt:uo [.r a0]=(let r0:=q2j [.r a0];qMa r0 (.br (ine (gI r0 0) 0) (qMc [.s [],.s [],.s [],.s [],.i (gI r0 0)]) (.br (ilt 4 (qg a0)) (qMc [.s [],.s [],.s [],.s [],.i 5]) (let r1:=zq [.r a0];qMa r1 (.br (not (gB r1 4)) (qMc [.s [],.s [],.s [],.s [],.i 10]) (qMc [.s (gS r1 0),.s (gS r1 1),.s (gS r1 2),.s (gS r1 3),.i 0])))))):=by kernel_rfl
theorem qix:q1s [.r a0]=(let r0:=q2j [.r a0];qMa r0 (.br (ine (gI r0 0) 0) (qMc [.s [],.s [],.s [],.s [],.r [],.i (gI r0 0)]) (let r1:=yC [.r a0,.i 4];qMa r1 (let r2:=js [.r a0,.r (gR r1 0)];qMa r2 (let r3:=zq [.r (gR r2 0)];qMa r3 (qMc [.s (gS r3 0),.s (gS r3 1),.s (gS r3 2),.s (gS r3 3),.r (gR r1 0),.i 0])))))):=by kernel_rfl
theorem qgu:ja [.r a0]=(let p0:List PV:=[.r a0];let t0:=jI p0;let t1:=uo p0;let t2:=zX p0;let t3:=q1s p0;let t4:=yf [.r (gR t2 4),.r (gR t3 4)];let t5:TR:=(qMc [.b false]);(qMa (uO p0) (.br (not (gB (uO p0) 0)) (qMa (zZ []) (qMc [.b (gB (zZ []) 0)])) (qMa t0 (qMa t1 (qMa t2 (qMa t3 (qMa (zZ []) (.br (gB (zZ []) 0) (.br (qlN (seq (gS t0 0) (gS t1 0)) (qlN (seq (gS t0 1) (gS t1 1)) (qlN (seq (gS t0 2) (gS t1 2)) true))) (.br (seq (gS t0 3) (gS t1 3)) (.br (ieq (gI t0 4) (gI t1 4)) (.br (qlN (seq (gS t2 0) (gS t3 0)) (qlN (seq (gS t2 1) (gS t3 1)) (qlN (seq (gS t2 2) (gS t3 2)) true))) (.br (seq (gS t2 3) (gS t3 3)) (qMa t4 (.br (gB t4 0) (qMc [.b (ieq (gI t2 5) (gI t3 5))]) t5)) t5) t5) t5) t5) t5) t5))))))))):=by kernel_rfl
end Go.Eng

namespace Go.Eng
variable {n:Nat}
theorem qKu {α:Type}(b:Bool)(t e:Tree α):(Tree.br b t e).run=if b=true then t.run else e.run:=by cases b<;>rfl
theorem qHN {α:Type}(a:α):(Tree.leaf a).run=some a:=rfl
theorem qGS {α:Type}:(Tree.fail:Tree α).run=none:=rfl
theorem qV {x y:Int}(h:-9223372036854775808<=x+y/\x+y<=9223372036854775807):qu .i64 x y=x+y:=by unfold qu IntKind.wrap;simp[IntKind.signed,IntKind.bits];omega
theorem wj {x y:Int}(h:-9223372036854775808<=x-y/\x-y<=9223372036854775807):wW .i64 x y=x-y:=by unfold wW IntKind.wrap;simp[IntKind.signed,IntKind.bits];omega
theorem q8p {x y:Int}(h:-9223372036854775808<=x*y/\x*y<=9223372036854775807):vW .i64 x y=x*y:=by unfold vW IntKind.wrap;simp[IntKind.signed,IntKind.bits];omega
theorem qFU (x y:Int):(ieq x y=true)=(x=y):=by simp[ieq]
theorem qJ4 (x y:Int):(ine x y=true)=(x≠y):=by simp[ine]
theorem qJy (x y:Int):(ilt x y=true)=(x<y):=by simp[ilt]
theorem qE8 (x y:Int):(ile x y=true)=(x<=y):=by simp[ile]
theorem qJi (x y:Bool):(Go.Eng.beq x y=true)=(x=y):=by simp[Go.Eng.beq]
theorem qLp {a b A B:Int}(h1:-A<=a)(h2:a<=A)(h3:-B<=b)(h4:b<=B):-(A*B)<=a*b/\a*b<=A*B:=by have e1:=qO8 (show 0<=A-a by omega) (show 0<=B-b by omega);have e2:=qO8 (show 0<=A+a by omega) (show 0<=B+b by omega);have e3:=qO8 (show 0<=A-a by omega) (show 0<=B+b by omega);have e4:=qO8 (show 0<=A+a by omega) (show 0<=B-b by omega);simp only[Int.sub_mul,Int.mul_sub,Int.add_mul,Int.mul_add] at e1 e2 e3 e4;omega
theorem qzK {x:Int}(h:-9223372036854775807<=x/\x<=9223372036854775807):wW .i64 0 x=-x:=by rw[wj (by omega)];omega
theorem qw5 {x:Int}(h:-9223372036854775808<=x/\x<=9223372036854775807):q3r .i64 x=x:=by unfold q3r IntKind.wrap;simp[IntKind.signed,IntKind.bits];omega
theorem qH7 (b:Bool):((!b)=true)=¬(b=true):=by cases b<;>simp
theorem qGI (x y:Bool):(qlN x y=true)=(x=true/\y=true):=by simp[qlN]
theorem qKJ (i n:Int):(inb i n=true)=(0<=i/\i<n):=by simp[inb]
theorem qIJ (i n:Int):(q5S i n=true)=(0<=i/\i<=n):=by simp[q5S]
theorem STD:(∀(α:Type) (b:Bool) (t e:Tree α),(Tree.br b t e).run=if b=true then t.run else e.run)/\(∀(α:Type) (a:α),(Tree.leaf a).run=some a)/\(∀(α:Type),(Tree.fail:Tree α).run=none) /\(∀R:TR,okR R=R.run.isSome)/\(∀(α:Type) (a:α),(some a).isSome=true)/\(∀(R:TR) (i:Nat),gI R i=(pR R i).toI)/\(∀(R:TR) (i:Nat),gB R i=(pR R i).toB)/\(∀(R:TR) (i:Nat),gS R i=(pR R i).toS)/\(∀(R:TR) (i:Nat),gR R i=(pR R i).toR) /\(∀(R:TR) (i:Nat),pR R i=R.run.elim (.i 0) fun r=>r.2.getD i (.i 0))/\(∀(α β:Type) (b:β) (f:α->β) (a:α),(some a).elim b f=f a) /\(∀(a:PV) (l:List PV) (d:PV),(a::l).getD 0 d=a)/\(∀(a:PV) (l:List PV) (d:PV) (n:Nat),(a::l).getD (n+1) d=l.getD n d) /\(∀n,(PV.i n).toI=n)/\(∀b,(PV.b b).toB=b)/\(∀s,(PV.s s).toS=s)/\(∀l,(PV.r l).toR=l) /\(∀(α:Type) (h:Decidable True) (a b:α),@ite α True h a b=a)/\(∀(α:Type) (h:Decidable False) (a b:α),@ite α False h a b=b)/\((false=true)=False)/\((true=false)=False)/\((true=true)=True) /\(∀x y,(ieq x y=true)=(x=y))/\(∀x y,(ine x y=true)=(x≠y))/\(∀x y,(ilt x y=true)=(x<y))/\(∀x y,(ile x y=true)=(x<=y))/\(∀x y,(Go.Eng.beq x y=true)=(x=y)) /\(∀x y,(qlN x y=true)=(x=true/\y=true))/\(∀b:Bool,((!b)=true)=¬(b=true))/\(∀i n,(inb i n=true)=(0<=i/\i<n))/\(∀i n,(q5S i n=true)=(0<=i/\i<=n)) /\(∀(p:Prop) (_:Decidable p),(decide p=true)=p)/\(∀(α:Type) (a b:α),(a≠b)=¬(a=b))/\(¬True)=False/\(¬False)=True:=
 ⟨fun _=>qKu,fun _=>qHN,fun _=>qGS,fun _=>rfl,fun _ _=>rfl,fun _ _=>rfl,fun _ _=>rfl,fun _ _=>rfl,fun _ _=>rfl,fun R i=>by unfold pR;cases R.run<;>rfl,fun _ _ _ _ _=>rfl,
  fun _ _ _=>rfl,fun _ _ _ _=>rfl,fun _=>rfl,fun _=>rfl,fun _=>rfl,fun _=>rfl,fun _ _ _ _=>by simp,fun _ _ _ _=>by simp,by simp,by simp,by simp,qFU,qJ4,qJy,qE8,qJi,
  qGI,qH7,qKJ,qIJ,fun _ _=>by simp,fun _ _ _=>rfl,by simp,by simp⟩
theorem zw {R:TR}{j:Nat}{ps:List PV}(h:R.run=some (j,ps))(i:Nat):(jIs R i=true)=(j=i):=by simp[jIs,jR,h]
theorem run_bind {α β:Type}(t:Tree α)(f:α->Tree β):(t.bind f).run=t.run.bind fun a=>(f a).run:=by
 induction t with
 | leaf a=>rfl
 | br b t e iht ihe=>cases b<;>simp[Tree.bind,Tree.run,iht,ihe]
 | fail=>rfl
theorem qwG {S:List PV->TR}{ps qs:List PV}(h:(S ps).run=some (0,qs)):(qol S (n+1) ps).run=(qol S n qs).run:=by simp[qol,run_bind,h]
theorem qo8 {S:List PV->TR}{n j:Nat}{ps qs:List PV}(h:(S ps).run=some (j+1,qs)):(qol S (n+1) ps).run=some (j,qs):=by simp[qol,run_bind,h,Tree.run]
noncomputable def qcX{α:Type}(f:Nat->Option α):Nat->Nat->Option α
 | _,0=>none
 | i,k+1=>match f i with
  | some a=>some a
  | none=>qcX f (i+1) k
theorem quP{S:List PV->TR}(st:Nat->List PV)(f:Nat->Option (Nat×List PV))(fin:Nat×List PV)(n:Nat)
  (h1:∀i,i<n->f i=none->(S (st i)).run=some (0,st (i+1))) (h2:∀i r,i<n->f i=some r->(S (st i)).run=some (r.1+1,r.2))
  (h3:(S (st n)).run=some (fin.1+1,fin.2)):∀(k i m:Nat),i+k=n->k<m->(qol S m (st i)).run=some ((qcX f i k).getD fin)
 | 0,i,m,hi,hm=>by
  obtain⟨m,rfl⟩:∃m',m=m'+1:=⟨m-1,by omega⟩;have:i=n:=by omega
  subst this;rw[qo8 h3];rfl
 | k+1,i,m,hi,hm=>by
  obtain⟨m,rfl⟩:∃m',m=m'+1:=⟨m-1,by omega⟩;cases hf:f i with
  | none=>
   rw[qwG (h1 i (by omega) hf),quP st f fin n h1 h2 h3 k (i+1) m (by omega) (by omega)];simp[qcX,hf]
  | some r=>
   rw[qo8 (h2 i r (by omega) hf)];simp[qcX,hf]
theorem q0h {S:List PV->TR}(st:Nat->List PV)(f:Nat->Option (Nat×List PV))(fin:Nat×List PV)(n:Nat)(hn:n<9223372036854775808)(h1:∀i,i<n->f i=none->(S (st i)).run=some (0,st (i+1))) (h2:∀i r,i<n->f i=some r->(S (st i)).run=some (r.1+1,r.2))(h3:(S (st n)).run=some (fin.1+1,fin.2)):(qf S (st 0)).run=some ((qcX f 0 n).getD fin):=quP st f fin n h1 h2 h3 n 0 qpY (by omega) (Nat.lt_trans hn (by unfold qpY;decide))
theorem qA {S:List PV->TR}(st:Nat->List PV)(fin:Nat×List PV)(n:Nat)(hn:n<9223372036854775808)(h1:∀i,i<n->(S (st i)).run=some (0,st (i+1))) (h3:(S (st n)).run=some (fin.1+1,fin.2)):(qf S (st 0)).run=some fin:=by
 have h:=q0h st (fun _=>none) fin n hn (fun i hi _=>h1 i hi) (fun i r _ h=>by cases h) h3;have e:∀k i,qcX (fun _=>(none:Option (Nat×List PV))) i k=none:=by
  intro k;induction k with
  | zero=>intro i;rfl
  | succ k ih=>intro i;simp[qcX,ih]
 rw[e] at h;exact h
theorem qig{α:Type}{f:Nat->Option α}:∀{k i:Nat},qcX f i k=none->∀j,i<=j->j<i+k->f j=none
 | 0,i,_,j,h1,h2=>by omega
 | k+1,i,h,j,h1,h2=>by
  simp only[qcX] at h;cases hf:f i with
  | some a=>rw[hf] at h;cases h
  | none=>
   rw[hf] at h;rcases qNO h1 with rfl|h1
   ·exact hf
   ·exact qig h j h1 (by omega)
theorem qvh{α:Type}{f g:Nat->Option α}:∀{k i:Nat},(∀j,i<=j->j<i+k->f j=g j)->qcX f i k=qcX g i k
 | 0,i,_=>rfl
 | k+1,i,h=>by
  simp only[qcX];rw[h i (by omega) (by omega),qvh (fun j h1 h2=>h j (by omega) (by omega))]
theorem qvV{α β:Type}(g:α->β){f:Nat->Option α}:∀{k i:Nat},qcX (fun j=>(f j).map g) i k=(qcX f i k).map g
 | 0,i=>rfl
 | k+1,i=>by
  simp only[qcX];cases f i with
  | some a=>rfl
  | none=>exact qvV g
theorem jJ {i n:Nat}(h:i<n)(hn:n<9223372036854775808):qu .i64 (i:Int) 1=((i+1:Nat):Int):=by rw[qV (by omega)];omega
theorem qFh {α:Type}(n:Nat):∀i,qcX (fun _=>(none:Option α)) i n=none:=by
 induction n with
 | zero=>intro i;rfl
 | succ n ih=>intro i;simp[qcX,ih]
noncomputable def pick(p:Nat->Bool):Nat->R
 | 0=>[]
 | n+1=>if p n then zR (pick p n) [[.i (n:Int)]] else pick p n
noncomputable def qmx(f:Nat->Int)(i:Nat):Option Int:=if f i=0 then none else some (f i)
theorem qEk {f:Nat->Int}(h:qcX (qmx f) 0 n=none)(i:Nat)(hi:i<n):f i=0:=by
 have:=qig h i (by omega) (by omega);unfold qmx at this;split at this
 ·assumption
 ·cases this
theorem qrh{f:Nat->Int}:∀{k i:Nat} {e:Int},qcX (qmx f) i k=some e->e≠0
 | 0,i,e,h=>by cases h
 | k+1,i,e,h=>by
  simp only[qcX] at h;unfold qmx at h;by_cases h0:f i=0
  ·rw[if_pos h0] at h;exact qrh h
  ·rw[if_neg h0] at h;simp at h;omega
noncomputable def q1n(e:Nat->Int)(n:Nat):Int:=(qcX (qmx e) 0 n).getD 0
theorem qmg {e:Nat->Int}(h:q1n e n=0)(i:Nat)(hi:i<n):e i=0:=by
 unfold q1n at h;cases hs:qcX (qmx e) 0 n with
 | none=>exact qEk hs i hi
 | some x=>rw[hs] at h;exact absurd h (qrh hs)
theorem qFo {e:Nat->Int}(h:∀i,i<n->e i=0):q1n e n=0:=by unfold q1n;rw[qvh (g:=fun _=>none) (fun j _ hj=>by unfold qmx;rw[if_pos (h j (by omega))]),qFh];rfl
theorem qre {S:List PV->TR}(st:Nat->List PV)(e:Nat->Int)(caps fin:List PV)(n:Nat)(hn:n<9223372036854775808)(h:∀i,i<n->(S (st i)).run=if e i=0 then some (0,st (i+1)) else some (2,.i (e i)::caps)) (h3:(S (st n)).run=some (1,fin)) :(qf S (st 0)).run=some (if q1n e n=0 then (0,fin) else (1,.i (q1n e n)::caps)):=by
 have key:=q0h st (fun i=>(qmx e i).map fun x=>(1,PV.i x::caps)) (0,fin) n hn (fun i hi hf=>by
  rw[h i hi];unfold qmx at hf;split at hf
  ·rename_i h0;rw[if_pos h0]
  ·simp at hf) (fun i r hi hf=>by
  rw[h i hi];unfold qmx at hf;split at hf
  ·simp at hf
  ·rename_i h0;simp at hf;rw[if_neg h0,<-hf]) h3
 rw[key,qvV];unfold q1n;cases hs:qcX (qmx e) 0 n with
 | none=>simp
 | some x=>simp[qrh hs]
theorem qvo {l:R}{i:Nat}(h:i<l.length):(i:Int)<qg l:=by unfold qg;omega
theorem qoF (l:R):¬((l.length:Int)<qg l):=by unfold qg;omega
theorem qbZ (i:Nat):(0:Int)<=(i:Int):=by omega
end Go.Eng

namespace Go.Eng
variable {n:Nat}
noncomputable def dch(d:Nat):UInt8:=UInt8.ofNat (48+d)
noncomputable def dv(c:UInt8):Nat:=c.toNat-48
noncomputable def q7x(s:qMd):Prop:=∀c,c∈s->48<=c.toNat/\c.toNat<=57
noncomputable def val(s:qMd):Nat:=s.foldl (fun a c=>10*a+dv c) 0
noncomputable def tNf:Nat->Nat->List UInt8
 | 0,_=>[]
 | f+1,n=>if n<10 then [dch n] else tNf f (n/10)++[dch (n%10)]
noncomputable def tN(n:Nat):List UInt8:=tNf (n+1) n
noncomputable def tI(n:Int):List UInt8:=if n<0 then 45::tN n.natAbs else tN n.natAbs
theorem q2v {d:Nat}(h:d<10):(dch d).toNat=48+d:=by unfold dch;rw[UInt8.toNat_ofNat'];omega
theorem qqb {d:Nat}(h:d<10):dv (dch d)=d:=by unfold dv;rw[q2v h];omega
theorem qHW {c:UInt8}(h1:48<=c.toNat)(h2:c.toNat<=57):dch (dv c)=c:=by apply qOh.1;rw[q2v (by unfold dv;omega)];unfold dv;omega
theorem qnU (s:qMd)(c:UInt8):val (s++[c])=10*val s+dv c:=by simp[val,List.foldl_append]
theorem qsv:∀(t:qMd) (a:Nat),t.foldl (fun a c=>10*a+dv c) a=a*10^t.length+val t
 | [],a=>by simp[val]
 | c::t,a=>by
  have h1:=qsv t (10*a+dv c);have h2:=qsv t (10*0+dv c);have h3:val (c::t)=t.foldl (fun a c=>10*a+dv c) (10*0+dv c):=rfl;rw[h3,h2,qO3,h1,qMH,qNC];grind
theorem qwb (s t:qMd):val (s++t)=val s*10^t.length+val t:=by
 have h:val (s++t)=t.foldl (fun a c=>10*a+dv c) (val s):=by simp[val,List.foldl_append]
 rw[h,qsv]
theorem q6p (c:UInt8)(t:qMd):val (c::t)=dv c*10^t.length+val t:=by have:=qwb [c] t;simpa[val] using this
theorem qgN:val []=0:=rfl
theorem qzB (c:UInt8):val [c]=dv c:=by simp[val]
theorem qrk:q7x []:=fun c h=>by cases h
theorem q0g {c:UInt8}{s:qMd}:q7x (c::s)↔(48<=c.toNat/\c.toNat<=57)/\q7x s:=by unfold q7x;simp
theorem qaF {s t:qMd}:q7x (s++t)↔q7x s/\q7x t:=by unfold q7x;simp only[qMD];exact⟨fun h=>⟨fun c hc=>h c (.inl hc),fun c hc=>h c (.inr hc)⟩,fun h c hc=>hc.elim (h.1 c) (h.2 c)⟩
theorem qD0 {c:UInt8}(h:48<=c.toNat/\c.toNat<=57):dv c<10:=by unfold dv;omega
theorem q7E:∀{s:qMd},q7x s->val s<10^s.length
 | [],_=>by simp[val]
 | c::s,h=>by
  obtain⟨h1,h2⟩:=q0g.1 h;have ih:=q7E h2;have hd:=qD0 h1;rw[q6p,qMH,qNC];have:dv c*10^s.length<=9*10^s.length:=qME _ (by omega);omega
theorem qwO {d:Nat}(h:d<10):q7x [dch d]:=by intro c hc;simp at hc;subst hc;rw[q2v h];omega
theorem qIk:∀(f g n:Nat),n<f->n<g->tNf f n=tNf g n
 | 0,_,n,h,_=>by omega
 | _,0,n,_,h=>by omega
 | f+1,g+1,n,h1,h2=>by
  unfold tNf;by_cases h:n<10
  ·rw[if_pos h,if_pos h]
  ·rw[if_neg h,if_neg h,qIk f g (n/10) (by omega) (by omega)]
theorem qz4 (h:n<10):tN n=[dch n]:=by unfold tN tNf;rw[if_pos h]
theorem qAw (h:10<=n):tN n=tN (n/10)++[dch (n%10)]:=by
 have:tN n=tNf n (n/10)++[dch (n%10)]:=by show tNf (n+1) n=_;rw[tNf,if_neg (by omega)]
 rw[this,qIk n (n/10+1) (n/10) (by omega) (by omega)];rfl
theorem qvL (n:Nat):q7x (tN n)/\tN n≠[]/\val (tN n)=n:=by
 induction n using Nat.strongRecOn with
 | _ n ih=>
  by_cases h:n<10
  ·rw[qz4 h];exact⟨qwO h,by simp,by rw[qzB,qqb h]⟩
  ·rw[qAw (by omega)];obtain⟨h1,h2,h3⟩:=ih (n/10) (by omega);refine⟨qaF.2 ⟨h1,qwO (by omega)⟩,by simp,?_⟩;rw[qnU,h3,qqb (by omega)];omega
theorem zQ (n:Nat):q7x (tN n):=(qvL n).1
theorem qrF (n:Nat):tN n≠[]:=(qvL n).2.1
theorem q0s (n:Nat):val (tN n)=n:=(qvL n).2.2
theorem qkK (n:Nat):0<(tN n).length:=qNR.2 (qrF n)
theorem q2i:∀(k n:Nat),n<10^(k+1)->(tN n).length<=k+1
 | 0,n,h=>by rw[qz4 (by simpa using h)];simp
 | k+1,n,h=>by
  by_cases h10:n<10
  ·rw[qz4 h10];simp
  ·rw[qAw (by omega),qMz];have:=q2i k (n/10) (by rw[qNC] at h;omega);simp;omega
theorem qxY:∀(k n:Nat),10^k<=n->k<(tN n).length
 | 0,n,_=>qkK n
 | k+1,n,h=>by
  have hp:0<10^k:=Nat.pow_pos (by omega);rw[qNC] at h;rw[qAw (by omega),qMz];have:=qxY k (n/10) (by omega);simp;omega
theorem q7r {k n:Nat}(h:(tN n).length<=k):n<10^k:=by have:=q7E (zQ n);rw[q0s] at this;exact qMW this (qNJ (by omega) h)
noncomputable def lead(s:qMd):Prop:=s.length=1\/s.getD 0 0≠48
theorem qBp {s:qMd}(hd:q7x s)(hn:s≠[])(h:s.getD 0 0≠48):10^(s.length-1)<=val s:=by
 cases s with
 | nil=>exact absurd rfl hn
 | cons c s=>
  obtain⟨h1,h2⟩:=q0g.1 hd;simp at h;have hc:1<=dv c:=by unfold dv;have:c.toNat≠48:=fun e=>h (qOh.1 (by simpa using e));omega
  rw[q6p,qMH,qOv];have:1*10^s.length<=dv c*10^s.length:=qME _ hc;omega
theorem qI3:∀(n:Nat) {s:qMd},s.length=n+1->q7x s->lead s->tN (val s)=s
 | 0,s,hl,hd,_=>by
  match s,hl with
  | [c],_=>
   have h1:=(q0g.1 hd).1;rw[qzB,qz4 (qD0 h1),qHW h1.1 h1.2]
 | n+1,s,hl,hd,hz=>by
  obtain⟨i,c,rfl⟩:∃i c,s=i++[c]:=⟨s.dropLast,s.getLast (by intro h;simp[h] at hl),(List.dropLast_concat_getLast _).symm⟩;have hil:i.length=n+1:=by simpa using hl
  obtain⟨h1,h2⟩:=qaF.1 hd;have hc:=(q0g.1 h2).1;have hi:i≠[]:=by intro h;simp[h] at hil
  have hz0:i.getD 0 0≠48:=by
   rcases hz with hz|hz
   ·exact absurd (by simpa using hz) hi
   ·cases i with
    | nil=>exact absurd rfl hi
    | cons a i=>simpa using hz
  have hv:1<=val i:=qMi (Nat.one_le_pow _ _ (by omega)) (qBp h1 hi hz0);have hd10:=qD0 hc;rw[qnU,qAw (n:=10*val i+dv c) (by omega),show (10*val i+dv c)/10=val i by omega,show (10*val i+dv c)%10=dv c by omega,qHW hc.1 hc.2,qI3 n hil h1 (.inr hz0)]
theorem qtv {s:qMd}(hd:q7x s)(hn:s≠[])(hz:lead s):s=tN (val s):=(qI3 (s.length-1) (by have:=qNR.2 hn;omega) hd hz).symm
theorem qvw {m n:Nat}(h:tN m=tN n):m=n:=by rw[<-q0s m,h,q0s]
theorem qFb (n:Nat):lead (tN n):=by
 induction n using Nat.strongRecOn with
 | _ n ih=>
  by_cases h:n<10
  ·rw[qz4 h];exact .inl rfl
  ·rw[qAw (by omega)];right;by_cases h2:n/10<10
   ·rw[qz4 h2];intro e;have:(dch (n/10)).toNat=48:=by
     have e':dch (n/10)=48:=by simpa using e
     rw[e'];rfl
    rw[q2v h2] at this;omega
   ·have h3:(tN (n/10)).length≠1:=by have:=qxY 1 (n/10) (by omega);omega
    rcases ih (n/10) (by omega) with h4|h4
    ·exact absurd h4 h3
    ·cases hq:tN (n/10) with
     | nil=>exact absurd hq (qrF _)
     | cons a i=>rw[hq] at h4;simpa using h4
theorem qIP (t:qMd):slt [] t=!t.isEmpty:=by cases t<;>rfl
theorem qGx (a b:UInt8)(s t:qMd):slt (a::s) (b::t)=(decide (a<b)||(a==b&&slt s t)):=by unfold slt;simp only[Op.bytesLess]
theorem qAd:∀{s t:qMd},q7x s->q7x t->s.length=t.length->((slt s t=true)=(val s<val t))
 | [],[],_,_,_=>by simp[qIP,qgN]
 | a::s,b::t,h1,h2,hl=>by
  obtain⟨ha,hs⟩:=q0g.1 h1;obtain⟨hb,ht⟩:=q0g.1 h2;have hl':s.length=t.length:=by simpa using hl
  have ih:=qAd hs ht hl';have v1:=q7E hs;have v2:=q7E ht;rw[qGx,q6p,q6p,hl'];rw[hl'] at v1;have hab:(a<b)=(dv a<dv b):=by unfold dv;rw[UInt8.lt_iff_toNat_lt];simp only[eq_iff_iff];omega
  have hab2:(a=b)=(dv a=dv b):=by unfold dv;rw[<-qOh];simp only[eq_iff_iff];omega
  simp only[qNF,decide_eq_true_eq,qMt,beq_iff_eq,eq_iff_iff,ih,hab,hab2];generalize 10^t.length=p at *;generalize dv a=x at *;generalize dv b=y at *;constructor
  ·rintro (h|⟨rfl,h⟩)
   ·have:=qME p (show x+1<=y by omega);rw[qMw] at this;omega
   ·omega
  ·intro h;rcases Nat.lt_trichotomy x y with h3|h3|h3
   ·exact .inl h3
   ·subst h3;exact .inr ⟨rfl,by omega⟩
   ·have:=qME p (show y+1<=x by omega);rw[qMw] at this;omega
theorem ke {m n:Nat}(h:m<=n):(tN m).length<=(tN n).length:=by
 rcases qMn (tN n).length (tN m).length with h1|h1
 ·have h2:=q7r (qMg (tN n).length);have h3:0<(tN n).length:=qkK n;have:=q2i ((tN n).length-1) m (by rw[Nat.sub_add_cancel h3];omega);omega
 ·exact h1
theorem qAt (m n:Nat):((tN m).length<(tN n).length\/(tN m).length=(tN n).length/\slt (tN m) (tN n)=true)↔m<n:=by
 constructor
 ·rintro (h|⟨h1,h2⟩)
  ·rcases qMn m n with h3|h3
   ·exact h3
   ·have:=ke h3;omega
  ·rw[qAd (zQ m) (zQ n) h1,q0s,q0s] at h2;exact h2
 ·intro h;have h1:=ke (Nat.le_of_lt h);rcases qMn (tN m).length (tN n).length with h3|h3
  ·exact .inl h3
  ·have h4:(tN m).length=(tN n).length:=by omega
   exact .inr ⟨h4,by rw[qAd (zQ m) (zQ n) h4,q0s,q0s];exact h⟩
theorem qAT (s:qMd):val (48::s)=val s:=by rw[q6p];simp[dv]
theorem qrs (n:Nat)(s:qMd):val (List.replicate n 48++s)=val s:=by
 induction n with
 | zero=>rfl
 | succ n ih=>rw[qND,qNE,qAT,ih]
theorem qpw (n:Nat):q7x (List.replicate n 48):=by intro c hc;rw[(qOr.1 hc).2];decide
noncomputable def rI(l:List Int):R:=l.map fun v=>[.i v]
theorem qd6 (l:List Int):qg (rI l)=l.length:=by simp[qg,rI]
theorem qjJ (l:List Int):(rI l).length=l.length:=by simp[rI]
theorem qzU (l:List Int)(i:Int):cI (rI l) i 0=l.getD i.toNat 0:=by unfold cI zH rI;simp only[qMf,qMo];cases l[i.toNat]?<;>rfl
theorem qCR (x v:U):qym [x] 0 [v]=[v]:=rfl
theorem qzb (l:List Int)(i v:Int):qbu (rI l) i 0 [.i v]=rI (l.set i.toNat v):=by
 unfold qbu rI;apply qN5;intro j;by_cases hj:j=i.toNat
 ·subst hj;by_cases hl:i.toNat<l.length
  ·simp[hl,qCR]
  ·rw[qMA (by simp;omega),qMA (by simp;omega)]
 ·rw[qMh (qMI hj),qMo,qMo,qMh (qMI hj)]
theorem qmC (n v:Int):q3K n [.i v]=rI (List.replicate n.toNat v):=by simp[q3K,rI]
theorem qKg (l:List Int):qoV (rI l)=l.map fun v=>UInt8.ofNat v.toNat:=by unfold qoV rI;rw[List.map_map];rfl
theorem qKM (l:List Int)(i:Int)(s:qMd):qzd (rI l) i s=rI (l.take i.toNat++s.map (fun c=>(c.toNat:Int))++l.drop (i.toNat+s.length)):=by unfold qzd rI;simp[List.map_take,List.map_drop]
theorem qpu (s:qMd):qoV (rI (s.map fun c=>(c.toNat:Int)))=s:=by
 rw[qKg,List.map_map];have:((fun v:Int=>UInt8.ofNat v.toNat)∘fun c:UInt8=>(c.toNat:Int))=id:=by funext c;simp
 rw[this,List.map_id]
theorem qsL {s:qMd}{i:Nat}(h:i<s.length):sat s (i:Int)=(s[i].toNat:Int):=by unfold sat;simp[h]
theorem zB (s t:qMd):(seq s t=true)=(s=t):=by simp[seq]
theorem qIM {x:Int}(h:48<=x/\x<=255):wW .u8 x 48=x-48:=by unfold wW IntKind.wrap;simp[IntKind.signed,IntKind.bits];omega
theorem quZ {x:Int}(h:0<=x/\x<=255):q3r .u8 x=x:=by unfold q3r IntKind.wrap;simp[IntKind.signed,IntKind.bits];omega
theorem qri (a b:Nat):qcW (a:Int) (b:Int)=((a%b:Nat):Int):=by unfold qcW;rw[Int.tmod_eq_emod_of_nonneg (by omega)];rfl
theorem qAO {a b:Nat}(h:a<9223372036854775808):qd4 .i64 (a:Int) (b:Int)=((a/b:Nat):Int):=by unfold qd4;rw[Int.tdiv_eq_ediv_of_nonneg (by omega)];have:(a:Int)/(b:Int)=((a/b:Nat):Int):=rfl;have h2:a/b<=a:=qO9 a b;rw[this];generalize a/b=q at *;unfold IntKind.wrap;simp[IntKind.signed,IntKind.bits];omega
theorem jz {S:List PV->TR}(I Q:Nat->List PV->Prop)(hn:n<9223372036854775808)(h:∀k ps,k<=n->I k ps->(∃k' qs,k'<k/\(S ps).run=some (0,qs)/\I k' qs)\/∃j qs,(S ps).run=some (j+1,qs)/\Q j qs) {ps:List PV} (h0:I n ps):∃j qs,(qf S ps).run=some (j,qs)/\Q j qs:=by
 have key:∀m k ps,k<=n->k<m->I k ps->∃j qs,(qol S m ps).run=some (j,qs)/\Q j qs:=by
  intro m;induction m with
  | zero=>intro k ps _ h;omega
  | succ m ih=>
   intro k ps hk hm hI;rcases h k ps hk hI with⟨k',qs,h1,h2,h3⟩|⟨j,qs,h1,h2⟩
   ·obtain⟨j,rs,g1,g2⟩:=ih k' qs (by omega) (by omega) h3;exact⟨j,rs,by rw[qwG h2];exact g1,g2⟩
   ·exact⟨j,qs,qo8 h1,h2⟩
 exact key qpY n ps (qMg _) (Nat.lt_trans hn (by unfold qpY;decide)) h0
end Go.Eng

namespace Go.Eng
variable {i:Nat}
theorem qdg {m:Int}(h:m<0):tI m=45::tN m.natAbs:=by unfold tI;rw[if_pos h]
theorem qmJ {m:Int}(h:¬m<0):tI m=tN m.natAbs:=by unfold tI;rw[if_neg h]
theorem q1k (n:Nat):tI (n:Int)=tN n:=by rw[qmJ (by omega)];rfl
theorem qAq:tN 0=[48]:=rfl
theorem qk9 {s:qMd}(hd:q7x s)(hn:s≠[]):∃c t,s=c::t/\48<=c.toNat/\c.toNat<=57:=by
 cases s with
 | nil=>exact absurd rfl hn
 | cons c t=>exact⟨c,t,rfl,(q0g.1 hd).1⟩
theorem qxB (m:Int):(tI m).length<=(tN m.natAbs).length+1:=by unfold tI;split<;>simp
theorem qxZ (m:Int):0<(tI m).length:=by have:=qkK m.natAbs;unfold tI;split<;>simp<;>omega
theorem qyN {m n:Int}(h:tI m=tI n):m=n:=by
 have key:∀{m n:Int},m<0->¬n<0->tI m≠tI n:=by intro m n h1 h2 e;rw[qdg h1,qmJ h2] at e;obtain⟨c,t,hc,h3,h4⟩:=qk9 (zQ n.natAbs) (qrF _);rw[hc] at e;have:=(List.cons.inj e).1;rw[<-this] at h3;exact absurd h3 (by decide)
 by_cases h1:m<0<;>by_cases h2:n<0
 ·rw[qdg h1,qdg h2] at h;have:=qvw (List.cons.inj h).2;omega
 ·exact absurd h (key h1 h2)
 ·exact absurd h.symm (key h2 h1)
 ·rw[qmJ h1,qmJ h2] at h;have:=qvw h;omega
theorem qBG (m:Int):(sat (tI m) 0=45)=(m<0):=by
 by_cases h:m<0
 ·rw[qdg h];simp[sat,h]
 ·rw[qmJ h];obtain⟨c,t,hc,h3,h4⟩:=qk9 (zQ m.natAbs) (qrF _);rw[hc];simp[sat,h];omega
theorem wz (m:Int):(qy [.s (tI m)]).run=some (0,[.s (tN m.natAbs)]):=by
 rw[qwj];have hp:=qxZ m;have hne:¬tI m=[]:=fun h=>by rw[h] at hp;simp at hp
 have h1:(0:Int)<qx (tI m):=by unfold qx;omega
 have h2:(1:Int)<=qx (tI m):=by omega
 simp only[STD,zB,hne,h1,h2,qBG,qMV,show (0:Int)<=qx (tI m) by omega,and_self,show (0:Int)<=1 by omega];by_cases h:m<0
 ·rw[if_pos h,qdg h];simp[qeG,qx]
 ·rw[if_neg h,qmJ h]
theorem vB (m:Int):(qz [.s (tI m)]).run=some (0,[.b (decide (m<0))]):=by
 rw[quj];have hp:=qxZ m;have h1:(0:Int)<qx (tI m):=by unfold qx;omega
 have h2:ieq (sat (tI m) 0) 45=decide (m<0):=by have:=qBG m;by_cases h:m<0<;>simp[ieq,h] at this ⊢<;>exact this
 simp only[STD,h1,h2,qMV,and_self]
theorem kS (n:Nat)(b:Bool)(hl:(tN n).length<=100000000):(za [.s (tN n),.b b]).run=some (0,[.s (tI (if b then -(n:Int) else n))]):=by
 rw[qsX];have h1:qx [45]+qx (tN n)<=140737488355328:=by show (1:Int)+((tN n).length:Int)<=_;omega
 have h0:(tN n=[48])=(n=0):=by rw[<-qAq];exact propext ⟨fun h=>qvw h,fun h=>by rw[h]⟩
 simp only[STD,zB,h1,h0];cases b with
 | false=>simp[q1k]
 | true=>
  by_cases hn:n=0
  ·subst hn;simp[tI,qAq]
  ·have:(-(n:Int))<0:=by omega
   simp[hn,qdg this,qg3]
theorem qdW (m:Int)(hl:(tN m.natAbs).length<=100000000):(zU [.s (tI m)]).run=some (0,[.s (tI (-m))]):=by
 rw[qta];simp only[STD,wz,vB,kS _ _ hl];have e:(if ¬m<0 then -(m.natAbs:Int) else (m.natAbs:Int))=-m:=by
  by_cases h:m<0
  ·rw[if_neg (by simp[h])];omega
  ·rw[if_pos (by simp[h])];omega
 rw[e]
theorem qaT {s:qMd}(h:i<s.length):val (s.take (i+1))=10*val (s.take i)+dv s[i]:=by rw[List.take_add_one,qMl h,Option.toList_some,qnU]
theorem qxH {s:qMd}(h:q7x s)(i:Nat):q7x (s.take i):=fun c hc=>h c (qOo hc)
theorem qFr {s:qMd}(h:q7x s)(i:Nat):q7x (s.drop i):=fun c hc=>h c (qOp hc)
theorem qrf {s:qMd}(h:q7x s)(hi:i<s.length):48<=s[i].toNat/\s[i].toNat<=57:=h _ (qMT hi)
theorem qAm {s:qMd}(h:q7x s)(hi:i<s.length):q3r .i64 (wW .u8 (sat s (i:Int)) 48)=(dv s[i]:Int)/\dv s[i]<10:=by have hd:=qrf h hi;rw[qsL hi,qIM (by omega),qw5 (by omega)];unfold dv;omega
theorem qkI (m:Int)(hl:(tN m.natAbs).length<=18):(yG [.s (tI m)]).run=some (0,[.i m]):=by
 rw[qte];have hd:=zQ m.natAbs;have k:=qA (S:=uT) (fun i=>[.s (tI m),.i (val ((tN m.natAbs).take i):Int),.s (tN m.natAbs),.i (i:Int)]) (0,[.s (tI m),.i (m.natAbs:Int)]) (tN m.natAbs).length (by omega) (fun i hi=>by
  rw[qfI];obtain⟨e1,e2⟩:=qAm hd hi;have hv:=q7E (qxH hd i);have hv2:10^((tN m.natAbs).take i).length<=100000000000000000:=qMi (qNJ (n:=10) (by omega) (show _<=17 by rw[qNa];omega)) (by decide);have hv3:=qMW hv hv2;clear hv hv2;have hlt:(i:Int)<qx (tN m.natAbs):=by unfold qx;omega
  have e3:qu .i64 (vW .i64 10 (val ((tN m.natAbs).take i):Int)) (dv (tN m.natAbs)[i]:Int)=((10*val ((tN m.natAbs).take i)+dv (tN m.natAbs)[i]:Nat):Int):=by rw[q8p (by omega),qV (by omega)];omega
  simp only[STD,hlt,qbZ,and_self,e1,jJ hi (by omega),qaT hi,e3]) (by
  rw[qfI];have:¬((tN m.natAbs).length:Int)<qx (tN m.natAbs):=by unfold qx;omega
  simp only[STD,this,qNn,q0s])
 have k':(qf uT [.s (tI m),.i 0,.s (tN m.natAbs),.i 0]).run=_:=k;have hm:m.natAbs<1000000000000000000:=qMW (q7r hl) (by decide);have hneg:m<0->wW .i64 0 (m.natAbs:Int)=m:=fun h=>by rw[qzK (by omega)];omega
 have hpos:¬m<0->(m.natAbs:Int)=m:=fun h=>by omega
 clear hm k hd;simp only[STD,wz,k',vB];by_cases h:m<0
 ·rw[if_pos h,hneg h]
 ·rw[if_neg h,hpos h]
theorem q6j (m n:Int):(vF [.s (tI m),.s (tI n)]).run=some (0,if (tN m.natAbs).length<=18/\(tN n.natAbs).length<=18 then [.i m,.i n,.b true] else [.i 0,.i 0,.b false]):=by
 rw[qtH];have e:∀t:List UInt8,(18<qx t)=¬(t.length<=18):=fun t=>by unfold qx;simp only[eq_iff_iff];omega
 by_cases h1:(tN m.natAbs).length<=18
 ·by_cases h2:(tN n.natAbs).length<=18
  ·simp only[STD,wz,e,h1,h2,qkI m h1,qkI n h2,and_self]
  ·simp only[STD,wz,e,h1,h2,and_false]
 ·simp only[STD,wz,e,h1,false_and]
theorem qwn {d:Int}(h0:0<=d)(h:d<10):qoV [[.i (q3r .u8 (qu .i64 48 d))]]=[dch d.toNat]:=by rw[qV (by omega),quZ (by omega)];show [UInt8.ofNat (48+d).toNat]=[UInt8.ofNat (48+d.toNat)];rw[show (48+d).toNat=48+d.toNat by omega]
theorem qFk {S:List PV->TR}(hS:∀(y0:Int) (y1:qMd),S [.i y0,.s y1]=(.br (ilt 9 y0) (.br (ile ((qx (qoV [[(.i (q3r .u8 (qu .i64 48 (qcW y0 10))))]]))+(qx y1)) 140737488355328) (.leaf (0,[(.i (qd4 .i64 y0 10)),(.s (qg3 (qoV [[(.i (q3r .u8 (qu .i64 48 (qcW y0 10))))]]) y1))])) .fail) (.leaf (1,[(.i y0),(.s y1)]))))(n:Nat) (hn:n<9223372036854775808):∃(a:Nat) (r:qMd),(qf S [.i (n:Int),.s []]).run=some (0,[.i (a:Int),.s r])/\a<10/\tN n=tN a++r:=by
 have hlen:(tN n).length<=19:=q2i 18 n (by omega);obtain⟨j,qs,h1,h2⟩:=jz (S:=S) (fun k ps=>∃(r:qMd),ps=[.i (k:Int),.s r]/\tN n=tN k++r) (fun j qs=>∃(a:Nat) (r:qMd),j=0/\qs=[.i (a:Int),.s r]/\a<10/\tN n=tN a++r) hn (fun k ps hk ⟨r,hps,ht⟩=>by
  subst hps;by_cases h9:k<10
  ·right;have:¬(9:Int)<(k:Int):=by omega
   exact⟨0,_,by rw[hS];simp only[STD,this],k,r,rfl,rfl,h9,ht⟩
  ·left;have h9':(9:Int)<(k:Int):=by omega
   have hr:qcW (k:Int) 10=((k%10:Nat):Int):=qri k 10;have hq:qd4 .i64 (k:Int) 10=((k/10:Nat):Int):=qAO (b:=10) (by omega);have hd:qoV [[(.i (q3r .u8 (qu .i64 48 (qcW (k:Int) 10))))]]=[dch (k%10)]:=by rw[hr,qwn (by omega) (by omega)];rfl
   have hrl:r.length<=19:=by have:=congrArg List.length ht;rw[qMz] at this;omega
   have hle:qx [dch (k%10)]+qx r<=140737488355328:=by show (1:Int)+(r.length:Int)<=_;omega
   refine⟨k/10,[.i ((k/10:Nat):Int),.s ([dch (k%10)]++r)],by omega,?_,_,rfl,?_⟩
   ·rw[hS];simp only[STD,h9',hd,hq,hle];rfl
   ·rw[ht,qAw (by omega),qMK]) (ps:=[.i (n:Int),.s []]) ⟨[],rfl,by simp⟩
 obtain⟨a,r,rfl,rfl,h3,h4⟩:=h2;exact⟨a,r,h1,h3,h4⟩
theorem qDn {a:Nat}{r:qMd}(ha:a<10):qg3 (qoV [[(.i (q3r .u8 (qu .i64 48 (a:Int))))]]) r=tN a++r:=by rw[qwn (by omega) (by omega),qz4 ha];rfl
theorem qKN {a:Nat}{r:qMd}(ha:a<10)(hr:r.length<=1000):qx (qoV [[(.i (q3r .u8 (qu .i64 48 (a:Int))))]])+qx r<=140737488355328:=by rw[qwn (by omega) (by omega)];show (1:Int)+(r.length:Int)<=_;omega
theorem qI9 {x:Int}(h1:-9223372036854775808<x)(h2:x<=9223372036854775807):wW .i64 0 x=-x:=qzK (by omega)
theorem qKc (n:Nat)(hn:n<9223372036854775808):(q57 [.i (n:Int)]).run=some (0,[.s (tN n)])/\(zJ [.i (n:Int)]).run=some (0,[.s (tN n)]):=by
 obtain⟨a,r,h1,h2,h3⟩:=qFk quy n hn;obtain⟨a',r',h1',h2',h3'⟩:=qFk qx5 n hn;have hlen:(tN n).length<=19:=q2i 18 n (by omega);have hr:r.length<=1000:=by have:=congrArg List.length h3;rw[qMz] at this;omega
 have hr':r'.length<=1000:=by have:=congrArg List.length h3';rw[qMz] at this;omega
 have hneg:wW .i64 0 (n:Int)=-(n:Int):=qI9 (by omega) (by omega);have h0:((n:Int)=-(n:Int))=(n=0):=by simp only[eq_iff_iff];omega
 have hlt:¬(n:Int)<0:=by omega
 have hz:((n:Int)=0)=(n=0):=by simp only[eq_iff_iff];omega
 constructor
 ·rw[qyZ];simp only[STD,hneg,h0,hz,hlt,h1,qDn h2,qKN h2 hr,<-h3];by_cases h:n=0<;>simp[h]
 ·rw[qsU];simp only[STD,hneg,h0,hz,hlt,h1',qDn h2',qKN h2' hr',<-h3'];by_cases h:n=0<;>simp[h]
theorem q1u (n:Int)(h1:-9223372036854775808<n)(h2:n<=9223372036854775807):(zJ [.i n]).run=some (0,[.s (tI n)]):=by
 by_cases h:n<0
 ·obtain⟨a,ha⟩:∃a:Nat,n=-(a:Int):=⟨n.natAbs,by omega⟩;subst ha;have hneg:wW .i64 0 (-(a:Int))=(a:Int):=by rw[qI9 (by omega) (by omega)];omega
  have hlen:(tN a).length<=19:=q2i 18 a (by omega);have ht:=qdW (a:Int) (by simp;omega);rw[q1k] at ht;rw[qsU];have e1:¬(-(a:Int)=(a:Int)):=by omega
  simp only[STD,hneg,h,e1,(qKc a (by omega)).1,ht]
 ·obtain⟨a,rfl⟩:∃a:Nat,n=(a:Int):=⟨n.toNat,by omega⟩;rw[(qKc a (by omega)).2,q1k]
theorem qiX (m n:Nat):(q2B [.s (tN m),.s (tN n)]).run=some (0,[.b (decide (m<n))]):=by
 rw[qxj];have h:=qAt m n;have e1:(qx (tN m)<qx (tN n))=((tN m).length<(tN n).length):=by unfold qx;simp only[eq_iff_iff];omega
 have e2:(qx (tN m)=qx (tN n))=((tN m).length=(tN n).length):=by unfold qx;simp only[eq_iff_iff];omega
 simp only[STD,e1,e2];by_cases h1:(tN m).length<(tN n).length
 ·have:m<n:=h.1 (.inl h1);simp[h1,this]
 ·by_cases h2:(tN m).length=(tN n).length
  ·cases hs:slt (tN m) (tN n) with
   | true=>simp[h2,h.1 (.inr ⟨h2,hs⟩)]
   | false=>
    have:¬m<n:=fun hh=>by rcases h.2 hh with h3|⟨_,h3⟩<;>simp_all
    simp[h2,this]
  ·have:¬m<n:=fun hh=>by rcases h.2 hh with h3|⟨h3,_⟩<;>omega
   simp[h1,h2,this]
end Go.Eng

