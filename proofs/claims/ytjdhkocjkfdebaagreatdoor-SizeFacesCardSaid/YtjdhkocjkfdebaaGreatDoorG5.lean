/- Texts of the proof, merged: what the code computes, and plain laws. No statement stands here. -/
import Derived.WalkSpells
import Derived.KernelRfl
import Derived.Test.YtjdhkocjkfdebaaGreatDoorProg
import Derived.Test.YtjdhkocjkfdebaaGreatDoorG4
namespace Go.Eng
open Go.RowKit Go.Proofs
open Tryz
theorem qmt{n:Int}(h:-9223372036854775808<=n/\n<=9223372036854775807):wrap64 n=n:=by unfold wrap64;omega
set_option maxHeartbeats 2000000 in
set_option maxRecDepth 100000 in
theorem qNJ(i k:Nat)(_:i<=1000)(hk:k<=1000)(w:World) :Calls prog 377 #[.int .i64 i,.int .i64 k] w fun e w'=>e=.returned (kD (if i=k then [49] else [48]))/\w'=w:=by
 have hs:kD (if i=k then [49] else [48])=if i=k then .string ⟨#[49]⟩ else .string ⟨#[48]⟩:=by split<;>rfl
 rw[hs]
 go_enter func377,ntmps377
 by_cases h:i=k
 ·subst h
  go_wp2
  go_ret
  exact⟨rfl,rfl⟩
 ·have hb:((i:Int)==(k:Int))=false:=by simp;omega
  go_wp2
  go_ret
  exact⟨rfl,rfl⟩
set_option maxHeartbeats 2000000 in
set_option maxRecDepth 100000 in
theorem qNv(b5 b1 g L cap i n:Nat)(w:World)(h5:w.cell? ⟨b5,2,none⟩=some (.slice (some ⟨g,0,none⟩) L cap))(h1:w.cell? ⟨b1,0,none⟩=some (qnZ n))(hi:i<=1000)(hn:0<n)(hn2:n<=1000)(hL:(i+1)*n<=L)(hc:L<=cap) :Calls prog 331 #[.int .i64 i,.pointer (some ⟨b5,0,none⟩),.pointer (some ⟨b1,0,none⟩)] w fun e w'=>e=.returned (.slice (some ⟨g,i*n,none⟩) n (cap-i*n))/\w'=w:=by
 unfold qnZ at h1;obtain⟨lo,hlo⟩:∃lo,lo=i*n:=⟨_,rfl⟩;have hm:i*n<=1000*1000:=qOB hi hn2;have hhi:(i+1)*n=lo+n:=by rw[hlo,qOf,qPz]
 have e1:wrap64 ((i:Int)*(n:Int))=(lo:Int):=by rw[hlo,qmt (by rw[<-qOM];omega)];simp
 have e2:wrap64 (((i:Int)+1)*(n:Int))=((lo+n:Nat):Int):=by
  have:((i:Int)+1)*(n:Int)=((lo+n:Nat):Int):=by rw[<-hhi];simp
  rw[this,qmt (by omega)]
 rw[hhi] at hL;rw[<-hlo];have g1:¬cap=lo:=by omega
 clear hm hhi hlo
 go_enter func331,ntmps331
 go_wp2
 go_ret
 rw[Nat.add_sub_cancel_left];exact⟨rfl,rfl⟩
set_option maxHeartbeats 4000000 in
set_option maxRecDepth 1000000 in
theorem qHj(g:Nat)(hen:qbJ prog g)(caps:Array Value)(r c:Nat)(hr:r<=16)(hc:c<=16)(F:Nat->Nat->Bs)(w:World)(hF:∀i k w',i<r->k<c->Below w.heap.size w w'->Calls prog g (#[.int .i64 i,.int .i64 k]++caps) w' fun e w''=>e=.returned (kD (F i k))/\Below w'.heap.size w' w'') :Calls prog 326 #[.int .i64 r,.int .i64 c,.func (.func g) #[] caps] w fun e w'=>∃v,e=.returned (.agg #[.int .i64 r,.int .i64 c,v])/\Below w.heap.size w w'/\w'.ownsRow w.heap.size 108 1 v (r*c) ((mkL F c r).map kD):=by
 obtain⟨i0,hi,hz0,hz1,hz2⟩:=info_parts (show (prog.info? 108).map (fun i=>(i.zero,i.size,i.bytes))=some (some (.string ⟨#[]⟩),1,16) by kernel_rfl);obtain⟨B,hB⟩:∃B,B=w.heap.size:=⟨_,rfl⟩;have HF:=Lib.hid hF;clear hF
 go_enter func326,ntmps326
 go_wp2
 go_loopg [14] r (fun g i wr=>∃(ii:Nat) (v:Value),ii<=r/\g=r-ii/\i=.int .i64 ii/\MSt w.heap.size (w.heap.size+1) w.heap.size 370 108 w wr r c v (mkL F c ii))
 case atStart=>exact⟨0,.slice none 0 0,by omega,by omega,rfl,MSt.start w 370 108 (by decide) r c _ rfl _ rfl⟩
 case round=>
  obtain⟨ii,v,hii,rfl,rfl,hM⟩:=hrel;by_cases hlt:ii<r
  ·have HM:=Lib.hid hM;clear hM
   go_wp2
   go_loopg [18] c (fun g k wx=>∃(kk:Nat) (v:Value),kk<=c/\g=c-kk/\k=.int .i64 kk/\MSt w.heap.size (w.heap.size+1) w.heap.size 370 108 w wx r c v (mkL F c ii++(List.range kk).map (F ii)))
   case atStart=>exact⟨0,v,by omega,rfl,rfl,by simpa using HM.out⟩
   case round=>
    clear HM;obtain⟨kk,v,hkk,rfl,rfl,hM⟩:=hrel;have HM:=Lib.hid hM;by_cases hk:kk<c
    ·have c2:=hM.cell.2.2;have hW:Below w.heap.size w wr.drew:=hM.below.drew;have key:=Lib.hid (HF.out ii kk wr.drew hlt hk hW);have own:=Lib.hid hM.own;have hsz:w.heap.size<=wr.heap.size:=hM.below.size;have hl:(mkL F c ii++(List.range kk).map (F ii)).length<=1000:=by rw[qOh,qjf,qO7,qOv];have:=qOB (show ii<=16 by omega) hc;omega
     have key2:=key.out;unfold kD at key2;clear hM HF
     go_wp2_with fail
     go_region_law (first
      | (refine qG3 rfl g caps hen (.tmp 23) #[.tmp 24,.tmp 25] #[3,3] rfl (by simp[Act.eval,Act.put]) (#[.int .i64 ii,.int .i64 kk]++caps) (by simp[Act.eval,Act.put]) (by exact key2) ?_;rintro e w2 ⟨rfl,hb2⟩;have B2:Below wr.heap.size wr w2:=(Below.refl _ wr).drew.trans hb2;have BA:Below wr.heap.size wr (w2.alloc (.cells #[.string ⟨(F ii kk).toArray⟩] 108)):=B2.alloc B2.size _;have k1:=(HM.out.grow B2 hsz).cell.2.2;have k2:=(HM.out.grow BA hsz).cell.2.2;refine⟨_,rfl,?_⟩)
      | (refine qrw rfl (.tmp 22) (.tmp 27) 212 rfl w.heap.size 108 i0 (.string ⟨#[]⟩) 1 16 underlying212 hi hz0 hz1 hz2 rfl (by decide) v _ _ (by simp[Act.eval]) (q0p own.out BA) ⟨w2.heap.size,0,none⟩ 1 1 [.string ⟨(F ii kk).toArray⟩] (by simp[Act.eval]) rfl (qGy (qxp w2 _ _)) (fun u hu=>by rw[qOs.1 hu];rfl) (by unfold maxLen;omega) (by omega) (qO2 hsz BA.size) ?_;intro v' w3 hown' hgrow _;obtain⟨ao,n',cap',rfl⟩:=q5N hown';obtain⟨k3,k4⟩:=(HM.out.grow BA hsz).keepCell hgrow))
     all_goals
      have MA:=Lib.hid ((HM.out.grow BA hsz).app (ys:=mkL F c ii++(List.range (kk+1)).map (F ii)) hgrow (qO2 hsz BA.size) (by rw[qOO,qOk,<-qOu,qOh,qOk];exact hown'));clear k1 k2 k3 k4 c2 hown' hgrow key2
      go_wp2
      go_roundg (c-(kk+1))
      case measure=>go_light;omega
      case rel=>
       go_light
       exact⟨kk+1,_,by omega,rfl,by go_num,MA.out⟩
    ·have hkE:kk=c:=by omega
     subst kk;clear hM
     go_wp2
     go_roundg (r-(ii+1))
     case measure=>go_light;omega
     case rel=>
      go_light
      exact⟨ii+1,v,by omega,rfl,by go_num,HM.out⟩
  ·have hiE:ii=r:=by omega
   subst ii;obtain⟨ao,n',cap',rfl⟩:=q5N hM.own;have c1:=hM.cell;have c2:=hM.cellq;have f20:=hM.freeq 0;have f21:=hM.freeq 1;have f22:=hM.freeq 2;have HM:=Lib.hid hM;clear hM;unfold qnZ at c1 c2;obtain⟨c11,c12,c13⟩:=c1;obtain⟨c21,c22,c23⟩:=c2
   go_wp2
   refine bodyPost_ret (by simp[results,results326,go_sem, *];try rfl) rfl ?_;obtain⟨q1,q2⟩:=HM.out.fin (qO0 _) (.int .i64 r) (.int .i64 c) (.slice ao n' cap');rw[qjf] at q2;exact⟨_,rfl,q1,q2⟩
end Go.Eng

namespace Go.Eng
open Go.RowKit Go.Proofs
open Tryz
set_option maxHeartbeats 2000000 in
set_option maxRecDepth 100000 in
theorem qJ6(ab ao n c:Nat)(hn:0<n)(hn2:n<=1000)(row:List Bs)(hl:row.length=n)(w:World)(hc:∀(j:Nat) x,row[j]?=some x->w.cell? ⟨ab,ao+j,none⟩=some (kD x)) :Calls prog 400 #[.slice (some ⟨ab,ao,none⟩) n c] w fun e w'=>∃v,e=.returned v/\w'.ownsRow w.heap.size 108 1 v n (row.map kD)/\Below w.heap.size w w':=by
 obtain⟨i0,hi,hz0,hz1,hz2⟩:=info_parts (show (prog.info? 108).map (fun i=>(i.zero,i.size,i.bytes))=some (some (.string ⟨#[]⟩),1,16) by kernel_rfl);have hnil:=Lib.run_eql_slice_nil (P:=prog)
 go_enter func400,ntmps400
 have hnews:∀(j:Nat) (u:Value),(row.map kD)[j]?=some u->(w.alloc (.cells #[] 108)).cell? ((⟨ab,ao,none⟩:Addr).add j)=some u:=fun j u hu=>by
  rw[qO8] at hu;obtain⟨x,hx,rfl⟩:=qPG.1 hu;have h1:=hc j x hx;have h2:(⟨ab,ao,none⟩:Addr).add j=⟨ab,ao+j,none⟩:=by
   unfold Addr.add;split
   ·rename_i h;subst h;rfl
   ·rfl
  rw[h2,World.cell?_alloc_lt _ _ _ (qP8 w _ h1)];exact h1
 clear hc
 go_wp2_with (at_builtin;refine wpList_append_own _ rfl _ _ 212 rfl w.heap.size 108 i0 (.string ⟨#[]⟩) 1 16 underlying212 hi hz0 hz1 hz2 rfl (by decide) _ 0 [] rfl (World.ownsRow_made w #[] 0 (qO0 _) (by decide) rfl) ⟨ab,ao,none⟩ n c (row.map kD) rfl (by rw[qO7,hl,qPC]) hnews qCv (by unfold maxLen;omega) (by omega) (by rw[jb];omega) ?_)
 intro v' w2 hown' hgrow _;obtain⟨ao',n',cap',rfl⟩:=q5N hown'
 go_wp2
 go_ret
 refine⟨_,rfl,hown',((Below.refl w.heap.size w).alloc (qO0 _) (.cells #[] 108)).grown hgrow (by rw[jb];omega) (fun k hk=>?_)⟩;cases hk;exact qO0 _
theorem qLa(i n:Nat)(hi:i<=1000)(hn:n<=1000):wrap64 ((i:Int)*(n:Int))=((i*n:Nat):Int):=by have:=qOB hi hn;rw[<-qOM];exact qmt ⟨by omega,by omega⟩
theorem qKH(i n:Nat)(hi:i<=1000)(hn:n<=1000):wrap64 (((i:Int)+1)*(n:Int))=((i*n+n:Nat):Int):=by
 have:=qOB hi hn;have h:((i:Int)+1)*(n:Int)=((i*n+n:Nat):Int):=by rw[Int.add_mul,qPj,<-qOM,<-qPR]
 rw[h];exact qmt ⟨by omega,by omega⟩
def row0(F G:Nat->Nat->Bs)(n i:Nat):List Bs:=(List.range n).map (F i)++(List.range n).map (G i)
def qNF(B S b2 n:Nat)(vs:Value)(F G:Nat->Nat->Bs)(w0 w:World)(ii:Nat):Prop:=∃vR H,Sch B S 427 212 108 3 ii (2*n) (.int .i64 0) (.int .i64 n) w vR (.slice none 0 0) H ((List.range ii).map (row0 F G n)) [49] []/\Below B w0 w /\
 w.heap[b2]?=some (.cells #[.int .i64 n,.int .i64 n,vs] 370 (0,0))
set_option maxHeartbeats 4000000 in
set_option maxRecDepth 1000000 in
theorem qIR(n:Nat)(hn:n<=16)(F G:Nat->Nat->Bs)(vs:Value)(b5 b1:Nat)(w:World)(hv:0<n->∃ab ao cap,vs=.slice (some ⟨ab,ao,none⟩) (n*n) cap/\n*n<=cap/\∀i k,i<n->k<n->w.cell? ⟨ab,ao+(i*n+k),none⟩=some (kD (F i k)))(ho:0<n->∃g cap,w.cell? ⟨b5,2,none⟩=some (.slice (some ⟨g,0,none⟩) (n*n) cap)/\n*n<=cap/\∀i k,i<n->k<n->w.cell? ⟨g,i*n+k,none⟩=some (kD (G i k)))(h1:w.cell? ⟨b1,0,none⟩=some (qnZ n)) :Calls prog 378 #[.agg #[.int .i64 n,.int .i64 n,vs],.func (.func 331) #[] #[.pointer (some ⟨b5,0,none⟩),.pointer (some ⟨b1,0,none⟩)]] w fun e w' => e=.returned (.pointer (some ⟨w.heap.size+1,0,none⟩))/\qNF w.heap.size (w.heap.size+1) w.heap.size n vs F G w w' n:=by
  obtain⟨i0,hi,hz0,hz1,hz2⟩:=info_parts (show (prog.info? 108).map (fun i=>(i.zero,i.size,i.bytes))=some (some (.string ⟨#[]⟩),1,16) by kernel_rfl);obtain⟨i1,hi',hy0,hy1,hy2⟩:=info_parts (show (prog.info? 212).map (fun i=>(i.zero,i.size,i.bytes))=some (some (.slice none 0 0),1,24) by kernel_rfl);have HV:=Lib.hid hv;have HO:=Lib.hid ho;clear hv ho
  go_enter func378,ntmps378
  go_wp2
  go_loopg [14] n (fun g i wr=>∃ii:Nat,ii<=n/\g=n-ii/\i=.int .i64 ii/\qNF w.heap.size (w.heap.size+1) w.heap.size n vs F G w wr ii)
  case atStart =>
    refine⟨0,by omega,by omega,rfl,.slice none 0 0,[],?_,?_,?_⟩
    · refine Sch.start (by omega) ?_ (by decide)
      rw[<-jb w (.cells #[.int .i64 n,.int .i64 n,vs] 370)];exact heap_alloc_new _ _
    · exact((Below.refl w.heap.size w).alloc (qO0 _) _).alloc (by rw[jb];omega) _
    · exact qkT w _ _
  case round =>
    obtain⟨ii,hii,rfl,rfl,hI⟩:=hrel;by_cases hlt:ii<n
    · obtain⟨vR,H,hS,hB,h2⟩:=hI
      obtain⟨ab,ao,cap,rfl,hcap,hcell⟩:=HV.out (by omega);obtain⟨lo,hlo⟩:∃lo,lo=ii*n:=⟨_,rfl⟩;have hm:ii*n<=16*16:=qOB (by omega) hn;have hhi:(ii+1)*n=lo+n:=by rw[hlo,qOf,qPz]
      have hle:lo+n<=n*n:=by rw[<-hhi];exact qOq n hlt
      have g1:¬cap=lo:=by omega
      have g2:lo+n<=cap:=by omega
      have q1:ii<=1000:=by omega
      have q2:n<=1000:=by omega
      clear hm hhi hle;have e1:True->wrap64 ((ii:Int)*(n:Int))=(lo:Int):=fun _=>by rw[hlo];exact qLa ii n q1 q2
      have e2:True->wrap64 (((ii:Int)+1)*(n:Int))=((lo+n:Nat):Int):=fun _=>by rw[hlo];exact qKH ii n q1 q2
      have HLO:=Lib.hid hlo;clear hlo;have c2:=q5V h2;obtain⟨c20,c21,c22⟩:=c2;have keyC:=qJ6 ab (ao+lo) n (cap-lo) (by omega) q2 ((List.range n).map (F ii)) (by simp) wr (fun j x hx=>by
        rw[qO8] at hx;obtain⟨y,hy,rfl⟩:=qPG.1 hx;have hjn:j<n:=by have:=(qPB.1 hy).1;simpa using this
        rw[qOD hjn] at hy;cases hy;rw[qPv,HLO.out,hB.cell (p:=⟨ab,ao+(ii*n+j),none⟩) (qP8 w _ (hcell ii j hlt hjn))];exact hcell ii j hlt hjn)
      obtain⟨g,capo,ho5,hcapo,hoc⟩:=HO.out (by omega);have keyI:=Lib.hid fun (W:World) (hW:Below w.heap.size w W)=>qNv b5 b1 g (n*n) capo ii n W (by rw[hW.cell (qP8 w _ ho5)];exact ho5) (by rw[hW.cell (qP8 w _ h1)];exact h1) q1 (by omega) q2 (qOq n hlt) hcapo;have HC:=Lib.hid hoc;have HH:=Lib.hid (And.intro hS (And.intro hB h2));clear hcell hoc ho5 hcapo hcap hS hB h2
      go_wp2_with (go_at_call 400;refine keyC.mono ?_;rintro e w1 ⟨v1,rfl,hv1,hb1⟩;obtain⟨a1,n1,cap1,rfl⟩:=q5N hv1)
      clear keyC e1 e2 g1 g2 c20 c21 c22;have hsz:=HH.out.2.1.size;have B1:Below wr.heap.size wr w1.drew:=hb1.drew;have k1:=(HH.out.1.grow B1).cell.2.1;have BW:Below w.heap.size w w1.drew:=HH.out.2.1.trans (B1.mono hsz);have key2:=keyI.out w1.drew BW;have own1:=Lib.hid (q0p hv1 (Below.refl _ w1).drew);have LT1:=Lib.hid hv1;have NEW:∀(j:Nat) (u:Value),(((List.range n).map (G ii)).map kD)[j]?=some u->w1.drew.cell? ((⟨g,ii*n,none⟩:Addr).add j)=some u:=fun j u hu=>by
        rw[qO8] at hu;obtain⟨x,hx,rfl⟩:=qPG.1 hu;rw[qO8] at hx;obtain⟨y,hy,rfl⟩:=qPG.1 hx;have hjn:j<n:=by have:=(qPB.1 hy).1;simpa using this
        rw[qOD hjn] at hy;cases hy;have h2:(⟨g,ii*n,none⟩:Addr).add j=⟨g,ii*n+j,none⟩:=by
          unfold Addr.add;split
          · rename_i h;subst h;rfl
          · rfl
        have h3:=HC.out ii j hlt hjn;rw[h2,BW.cell (qP8 w _ h3)];exact h3
      clear hv1;have henI:qbJ prog 331:=yR func331 (by kernel_rfl) (by kernel_rfl);have stepI:∀(o:Oper) (a:Act) (K:Act->World->Prop) (Q:Exit->Act->World->Prop),o.op=.call { callee:=.value (.tmp 36),args:=#[.tmp 37],argTypes:=#[3] } ->
          a.eval (.tmp 36)=.func (.func 331) #[] #[.pointer (some ⟨b5,0,none⟩),.pointer (some ⟨b1,0,none⟩)]->a.eval (.tmp 37)=.int .i64 ii->K (a.put o.dst (.slice (some ⟨g,ii*n,none⟩) n (capo-ii*n))) w1.drew->Oper.wp prog o a w1.drew K Q :=
        fun o a K Q q1 q2 q3 q4=>qCO 331 _ henI (.tmp 36) _ _ q1 q2 (#[.int .i64 ii,.pointer (some ⟨b5,0,none⟩),.pointer (some ⟨b1,0,none⟩)]) (by simp[q3]) key2 (fun e w' h=>⟨_,h.1,by rw[h.2];exact q4⟩)
      have stepA:∀(o:Oper) (a:Act) (K:Act->World->Prop) (Q:Exit->Act->World->Prop),o.op=.call { callee:=.builtin .append,args:=#[.tmp 35,.tmp 38],argTypes:=#[212,212] } ->
          a.eval (.tmp 35)=.slice a1 n1 cap1->a.eval (.tmp 38)=.slice (some ⟨g,ii*n,none⟩) n (capo-ii*n) ->
          (∀a2 n2 cap2 w2,w2.ownsRow wr.heap.size 108 1 (.slice a2 n2 cap2) (2*n) ((row0 F G n ii).map kD)->Below wr.heap.size wr w2->K (a.put o.dst (.slice a2 n2 cap2)) w2)->Oper.wp prog o a w1.drew K Q :=
        fun o a K Q q1 q2 q3 q4=>wp_append_own w1.drew _ _ 212 q1 wr.heap.size 108 i0 (.string ⟨#[]⟩) 1 16 underlying212 hi hz0 hz1 hz2 rfl (by decide) _ n _ q2 own1.out ⟨g,ii*n,none⟩ n _ (((List.range n).map (G ii)).map kD) q3 (by simp) NEW qCv (by unfold maxLen;omega) (by omega) B1.size
          (fun v2 w2 h1 h2 _=>by obtain⟨a2,n2,cap2,rfl⟩:=q5N h1;refine q4 _ _ _ _ ?_ (B1.grown h2 B1.size (fun k hk=>(LT1.out.lt k hk).1));rw[Nat.two_mul];unfold row0;rw[qOk];exact h1)
      have stepB:∀(w2:World) (a2:Option Addr) (n2 cap2:Nat) (o:Oper) (a:Act) (K:Act->World->Prop) (Q:Exit->Act->World->Prop),Below wr.heap.size wr w2->o.op=.call { callee:=.builtin .append,args:=#[.tmp 34,.tmp 40],argTypes:=#[342,342] } ->
          a.eval (.tmp 34)=vR->a.eval (.tmp 40)=.slice (some ⟨w2.heap.size,0,none⟩) 1 1 ->
          (∀a3 n3 cap3 w3,w3.ownsRow w.heap.size 212 1 (.slice a3 n3 cap3) (ii+1) (H++[.slice a2 n2 cap2])->(w2.alloc (.cells #[.slice a2 n2 cap2] 212)).grownBy w3 vR.ownBlock->K (a.put o.dst (.slice a3 n3 cap3)) w3)->Oper.wp prog o a (w2.alloc (.cells #[.slice a2 n2 cap2] 212)) K Q :=
        fun w2 a2 n2 cap2 o a K Q hb q1 q2 q3 q4=>by
          have B3:Below wr.heap.size wr (w2.alloc (.cells #[.slice a2 n2 cap2] 212)):=hb.alloc hb.size _;exact wp_append_own _ _ _ 342 q1 w.heap.size 212 i1 (.slice none 0 0) 1 24 underlying342 hi' hy0 hy1 hy2 rfl (by decide) _ ii _ q2 (HH.out.1.grow B3).outer ⟨w2.heap.size,0,none⟩ 1 1 [.slice a2 n2 cap2] q3 rfl (qGy (qxp w2 _ _)) (fun u hu=>by rw[qOs.1 hu];rfl) (by unfold maxLen;omega) (by omega) (qO2 hsz B3.size)
            (fun v3 w3 h1 h2 _=>by obtain⟨a3,n3,cap3,rfl⟩:=q5N h1;exact q4 _ _ _ _ h1 h2)
      clear key2 NEW
      go_region_law ((try simp only[Act.put,List.setIfInBounds_toArray,qOe,qOg]);(with_reducible refine qFh rfl ?_);first
        | (with_reducible refine stepI _ _ _ _ ?_ ?_ ?_ ?_
           · with_reducible rfl
           · (first|with_reducible rfl|(simp[Act.eval];done))
           · (first|with_reducible rfl|(simp[Act.eval];done)))
        | (with_reducible refine stepA _ _ _ _ ?_ ?_ ?_ ?_
           · with_reducible rfl
           · (first|with_reducible rfl|(simp[Act.eval];done))
           · (first|with_reducible rfl|(simp[Act.eval];done))
           intro a2 n2 cap2 w2 hown2 B2;have B3:Below wr.heap.size wr (w2.alloc (.cells #[.slice a2 n2 cap2] 212)):=B2.alloc B2.size _;have k2:=(HH.out.1.grow B2).cell.2.1;have k3:=(HH.out.1.grow B3).cell.2.1)
        | (with_reducible refine stepB w2 a2 n2 cap2 _ _ _ _ B2 ?_ ?_ ?_ ?_
           · with_reducible rfl
           · (first|with_reducible rfl|(simp[Act.eval];done))
           · (first|with_reducible rfl|(simp[Act.eval];done))
           intro a3 n3 cap3 w3 hown3 hgrow3;obtain⟨k4,k5⟩:=(HH.out.1.grow B3).rowCell hgrow3)
        | fail "NONE")
      all_goals
        have SR:=(HH.out.1.grow B3).addRow (row:=row0 F G n ii) (q4O (q0p hown2 ((Below.refl _ w2).alloc (qO0 _) (.cells #[.slice a2 n2 cap2] 212))) hsz) (HH.out.1.heads hown2) hgrow3 hown3;have BL:=((HH.out.2.1.trans (B3.mono hsz)).grown hgrow3 (qO2 hsz B3.size) (fun k hk=>((HH.out.1.grow B3).outer.lt k hk).1)).setCell (p:=⟨w.heap.size+1,1,none⟩) (by show w.heap.size<=w.heap.size+1;omega) (.slice a3 n3 cap3);have MK:=qCP (HH.out.1.grow B3).outer (show (w2.alloc (.cells #[.slice a2 n2 cap2] 212)).heap[w.heap.size]?=_ by rw[B3.block _ (qO4.1 HH.out.2.2).1];exact HH.out.2.2) (by decide) hgrow3;have FIN:qNF w.heap.size (w.heap.size+1) w.heap.size n (.slice (some ⟨ab,ao,none⟩) (n*n) cap) F G w (w3.setCell ⟨w.heap.size+1,1,none⟩ (.slice a3 n3 cap3)) (ii+1) :=
          ⟨_,_,by rw[qOO,qOk];exact SR,BL,by rw[heap_setCell_other w3 ⟨w.heap.size+1,1,none⟩ w.heap.size _ (by show w.heap.size≠w.heap.size+1;omega)];exact MK⟩
        have FIN:=Lib.hid FIN;clear SR BL MK k1 k2 k3 k4 k5 hown2 hown3 hgrow3 B2 B3 stepI stepA stepB
        go_wp2
        go_roundg (n-(ii+1))
        case measure=>go_light;omega
        case rel =>
          go_light
          exact⟨ii+1,by omega,rfl,by go_num,FIN.out⟩
    · have hiE:ii=n:=by omega
      subst ii;have HI:=Lib.hid hI;clear hI
      go_wp2
      go_ret
      exact⟨rfl,HI.out⟩
end Go.Eng

namespace Go.Eng
open Go.RowKit Go.Proofs
open Tryz
theorem Sch.base{B B' S:Nat}{tS tR tE tI:TypeId}{N C:Nat}{ek K:Value}{w:World}{vR vL:Value}{H:List Value}{Z:Mx}{det:Bs}{lead:List Nat}(h:Sch B S tS tR tE tI N C ek K w vR vL H Z det lead)(hB:B'<=B) :Sch B' S tS tR tE tI N C ek K w vR vL H Z det lead:=⟨qO2 hB h.bs,h.st,h.dim,q4O h.outer hB,fun j a r e1 e2=>q4O (h.inner j a r e1 e2) hB,q4O h.own hB,h.ap,h.ne⟩
set_option maxHeartbeats 4000000 in
set_option maxRecDepth 1000000 in
theorem qMe(ml dv sb:Op2)(gl:World->Prop)(n:Nat)(hn:n<=16)(F G:Nat->Nat->Bs)(vs:Value)(b5 b1:Nat)(w:World)(hgl:∀w',Below w.heap.size w w'->gl w')(hml:qEM prog gl 77 ml) (hdv:qEM prog gl 315 dv) (hsb:qEM prog gl 210 sb)(hv:0<n->∃ab ao cap,vs=.slice (some ⟨ab,ao,none⟩) (n*n) cap/\n*n<=cap/\∀i k,i<n->k<n->w.cell? ⟨ab,ao+(i*n+k),none⟩=some (kD (F i k)))(ho:0<n->∃g cap,w.cell? ⟨b5,2,none⟩=some (.slice (some ⟨g,0,none⟩) (n*n) cap)/\n*n<=cap/\∀i k,i<n->k<n->w.cell? ⟨g,i*n+k,none⟩=some (kD (G i k)))(h1:w.cell? ⟨b1,0,none⟩=some (qnZ n)) (fin:RS) (hf:qyF ml dv sb n n (2*n) n ⟨(List.range n).map (row0 F G n),[49],[],0⟩=some fin) :Calls prog 330 #[.agg #[.int .i64 n,.int .i64 n,vs],.func (.func 331) #[] #[.pointer (some ⟨b5,0,none⟩),.pointer (some ⟨b1,0,none⟩)]] w fun e w'=> ∃S,e=.returned (.tuple #[.pointer (some ⟨S,0,none⟩),.int .i64 0])/\(∃vR vL H,Sch w.heap.size S 427 212 108 3 n (2*n) (.int .i64 0) (.int .i64 n) w' vR vL H fin.Z fin.det fin.lead)/\Below w.heap.size w w':=by
 have hB1:Below w.heap.size w (w.alloc (.cells #[.int .i64 n,.int .i64 n,vs] 370)):=(Below.refl w.heap.size w).alloc (qO0 _) _;have keyB:=qIR n hn F G vs b5 b1 (w.alloc (.cells #[.int .i64 n,.int .i64 n,vs] 370))
  (fun h=>by obtain⟨ab,ao,cap,q1,q2,q3⟩:=hv h;exact⟨ab,ao,cap,q1,q2,fun i k hi hk=>by rw[hB1.cell (qP8 w _ (q3 i k hi hk))];exact q3 i k hi hk⟩)
  (fun h=>by obtain⟨g,cap,q1,q2,q3⟩:=ho h;exact⟨g,cap,by rw[hB1.cell (qP8 w _ q1)];exact q1,q2,fun i k hi hk=>by rw[hB1.cell (qP8 w _ (q3 i k hi hk))];exact q3 i k hi hk⟩)
  (by rw[hB1.cell (qP8 w _ h1)];exact h1)
 have HG:=Lib.hid hgl;have HF:=Lib.hid hf;clear hv ho hf hgl
 go_enter func330,ntmps330
 go_wp2_with (go_at_call 378;refine keyB.mono ?_;rintro e w1 ⟨rfl,hI⟩)
 have hs1:w.heap.size<=w.heap.size+1:=by omega
 rw[jb] at hI;obtain⟨vR,H,hS,hB,_⟩:=hI;have hB2:Below w.heap.size w w1:=hB1.trans (hB.mono hs1);have keyR:=qMd w.heap.size _ n n (2*n) w1 ml dv sb gl (fun w' hw'=>HG.out w' (hB2.trans hw')) hml hdv hsb hB2.size (qO0 _) (by omega) (by omega) (by omega) _ fin ⟨_,_,_,hS.base hs1,Below.refl _ _⟩ rfl rfl HF.out;refine keyR.mono ?_;rintro e w2 ⟨rfl,hR⟩;obtain⟨vR2,vL2,H2,hS2,hB3⟩:=hR;have k0:=hS2.cell.1;clear keyR keyB
 go_wp2_with fail
 go_region_with (fail)
 all_goals
  go_wp2
  refine bodyPost_ret (results_tmp2 rfl _ _ _) rfl ?_;exact⟨_,rfl,⟨_,_,_,hS2.grow (Below.refl _ _).drew⟩,hB2.trans hB3.drew⟩
def qlX(i k:Nat):Bs:=if i=k then [49] else [48]
set_option maxHeartbeats 4000000 in
set_option maxRecDepth 1000000 in
theorem qKT(n:Nat)(hn:n<=16)(w:World) :Calls prog 329 #[.int .i64 n] w fun e w'=>∃v,e=.returned (.agg #[.int .i64 n,.int .i64 n,v])/\Below w.heap.size w w'/\w'.ownsRow w.heap.size 108 1 v (n*n) ((mkL qlX n n).map kD):=by
 have hB1:Below w.heap.size w (w.alloc (.cells #[.int .i64 0,.int .i64 0,.slice none 0 0] 370)):=(Below.refl w.heap.size w).alloc (qO0 _) _;have key:=qHj 377 (yR func377 (by kernel_rfl) (by kernel_rfl)) #[] n n hn hn qlX (w.alloc (.cells #[.int .i64 0,.int .i64 0,.slice none 0 0] 370)) (fun i k w' hi hk _=>(qNJ i k (by omega) (by omega) w').mono fun e w'' h=>⟨h.1,by rw[h.2];exact Below.refl _ _⟩);have hq:=heap_alloc_new w (.cells #[.int .i64 0,.int .i64 0,.slice none 0 0] 370);rw[jb] at key
 go_enter func329,ntmps329
 go_wp2_with (go_at_call 326;refine key.mono ?_;rintro e w1 ⟨v,rfl,hb,ho⟩;obtain⟨ao,n1,cap,rfl⟩:=q5N ho;have hq2:w1.heap[w.heap.size]?=some (.cells #[.int .i64 0,.int .i64 0,.slice none 0 0] 370 (0,0)):=(hb.block _ (by omega)).trans hq;obtain⟨c0,c1,c2⟩:=q5V hq2;have f0:=frozen_of_row w1 w.heap.size 0 _ 370 hq2;have f1:=frozen_of_row w1 w.heap.size 1 _ 370 hq2;have f2:=frozen_of_row w1 w.heap.size 2 _ 370 hq2)
 refine bodyPost_ret (by simp[results,results329,go_sem, *];try rfl) rfl ?_;have hn0:(Value.slice ao n1 cap).ownBlock≠some w.heap.size:=fun hv=>by obtain⟨c',hc'⟩:=zd ho hv;exact qbo hq2 hc' (by decide) rfl
 have hle:w.heap.size<=w.heap.size:=qO0 _;exact⟨_,rfl,(((hB1.trans (hb.mono (by omega))).setCell (p:=⟨w.heap.size,0,none⟩) hle _).setCell (p:=⟨w.heap.size,1,none⟩) hle _).setCell (p:=⟨w.heap.size,2,none⟩) hle _,
  qz (qz (qz (q4O ho (by omega)) hn0 _) hn0 _) hn0 _⟩
end Go.Eng

namespace Go.Eng
open Go.RowKit Go.Proofs
open Tryz
theorem qDS{w:World}{B:Nat}{e:TypeId}{z n:Nat}{v:Value}{xs:List Value}(h:w.ownsRow B e z v n xs):∃ao cap,v=.slice ao n cap:=by
 rcases h.2 with⟨hv,h0⟩|⟨g,cap,cur,hv,_⟩
 ·exact⟨none,0,by rw[hv,h0]⟩
 ·exact⟨_,_,hv⟩
set_option maxHeartbeats 4000000 in
set_option maxRecDepth 1000000 in
theorem qNK(b6 b1 S n:Nat)(w:World){B:Nat}{vR vL:Value}{H:List Value}{Z:Mx}{det:Bs}{lead:List Nat}{ek K:Value}(h6:w.cell? ⟨b6,0,none⟩=some (.pointer (some ⟨S,0,none⟩)))(h1:w.cell? ⟨b1,1,none⟩=some (qnZ n))(hS:Sch B S 427 212 108 3 n (2*n) ek K w vR vL H Z det lead) (hn:n<=16) (i k:Nat) (hi:i<n) (hk:k<n) :Calls prog 332 #[.int .i64 i,.int .i64 k,.pointer (some ⟨b6,0,none⟩),.pointer (some ⟨b1,0,none⟩)] w fun e w'=>e=.returned (kD (q7t Z i (n+k)))/\w'=w.drew:=by
 obtain⟨O,cO,rfl,bO,ltO,rO,fO,tO⟩:=hS.rows (by omega);obtain⟨G,cG,eH,bG,ltG,zG,fG,tG⟩:=hS.head hi (by omega);have c1:=hS.cell.2.1;have c2:=rO i _ eH;have c3:=zG (n+k) (by omega);have hlt:n+k<2*n:=by omega
 generalize 2*n=C at *;have hlt2:(n:Int)+(k:Int)<(C:Int):=by omega
 have hlt3:((n:Int)+(k:Int)).toNat=n+k:=by omega
 unfold qnZ at h1;unfold kD at c3 ⊢;clear rO zG fO fG tO tG eH
 go_enter func332,ntmps332
 go_wp2_with fail
 go_big_region
 go_wp2
 go_ret
 exact⟨rfl,rfl⟩
set_option maxHeartbeats 4000000 in
set_option maxRecDepth 1000000 in
theorem qLU(ml dv sb:Op2)(gl:World->Prop)(n:Nat)(hn:n<=16)(F:Nat->Nat->Bs)(vs:Value)(w:World)(hgl:∀w',Below w.heap.size w w'->gl w')(hml:qEM prog gl 77 ml) (hdv:qEM prog gl 315 dv) (hsb:qEM prog gl 210 sb)(hck:∀w',Below w.heap.size w w'->Calls prog 328 #[.agg #[.int .i64 n,.int .i64 n,vs]] w' fun e w''=>e=.returned (.int .i64 0)/\Below w'.heap.size w' w'')(hv:0<n->∃ab ao cap,vs=.slice (some ⟨ab,ao,none⟩) (n*n) cap/\n*n<=cap/\∀i k,i<n->k<n->w.cell? ⟨ab,ao+(i*n+k),none⟩=some (kD (F i k)))(fin:RS) (hf:qyF ml dv sb n n (2*n) n ⟨(List.range n).map (row0 F qlX n),[49],[],0⟩=some fin) (hvs:∃a l c,vs=.slice a l c) :Calls prog 278 #[.agg #[.int .i64 n,.int .i64 n,vs]] w fun e w'=>Below w.heap.size w w' /\((fin.lead.length < n /\ e = .returned (.tuple #[.agg #[.int .i64 0, .int .i64 0, .slice none 0 0], .int .i64 14])) \/(n<=fin.lead.length/\∃v,e=.returned (.tuple #[.agg #[.int .i64 n,.int .i64 n,v],.int .i64 0])/\w'.ownsRow w.heap.size 108 1 v (n*n) ((mkL (fun i k=>q7t fin.Z i (n+k)) n n).map kD))):=by
  obtain⟨a0,l0,c0,rfl⟩:=hvs;obtain⟨W0,hW0⟩:∃W0,W0=(w.alloc (.cells #[.int .i64 n,.int .i64 n,.slice a0 l0 c0] 370)).alloc (.cells #[.int .i64 0,.int .i64 0,.slice none 0 0] 370):=⟨_,rfl⟩;have hb0:Below w.heap.size w W0:=by rw[hW0];exact((Below.refl w.heap.size w).alloc (qO0 _) _).alloc (by rw[jb];omega) _
  have h1:W0.heap[w.heap.size]?=some (.cells #[.int .i64 n,.int .i64 n,.slice a0 l0 c0] 370 (0,0)):=by rw[hW0];exact qkT w _ _
  have h2:W0.heap[w.heap.size+1]?=some (.cells #[.int .i64 0,.int .i64 0,.slice none 0 0] 370 (0,0)):=by rw[hW0,<-jb w (.cells #[.int .i64 n,.int .i64 n,.slice a0 l0 c0] 370)];exact heap_alloc_new _ _
  have hs0:W0.heap.size=w.heap.size+1+1:=by rw[hW0,jb,jb]
  have keyC:=hck W0 hb0;obtain⟨c10,c11,c12⟩:=q5V h1;have HV:=Lib.hid hv;have HF:=Lib.hid hf;have HG:=Lib.hid hgl;clear hv hf hgl hck
  go_enter func278,ntmps278
  go_wp2_with fail
  rw[<-hW0];refine keyC.mono ?_;rintro e w1 ⟨rfl,hb1⟩;have B1:Below w.heap.size w w1:=hb0.trans (hb1.mono hb0.size);have g1:=(hb1.block _ (qO4.1 h1).1).trans h1;have g2:=(hb1.block _ (qO4.1 h2).1).trans h2;have hs1:w.heap.size+1+1<=w1.heap.size:=by have:=hb1.size;omega
  clear keyC h1 h2 c10 c11 c12 hW0 hb0 hb1 hs0;clear W0;obtain⟨c10,c11,c12⟩:=q5V g1
  go_wp2_with fail
  refine(qKT n hn w1).mono ?_;rintro e w2 ⟨vo,rfl,hb2,hou⟩;obtain⟨ao,no,co,rfl⟩:=q5N hou;have B2:Below w.heap.size w w2:=B1.trans (hb2.mono B1.size);have k1:=(hb2.block _ (qO4.1 g1).1).trans g1;have k2:=(hb2.block _ (qO4.1 g2).1).trans g2;have hs2:w.heap.size+1+1<=w2.heap.size:=by have:=hb2.size;omega
  clear g1 g2 c10 c11 c12;obtain⟨c10,c11,c12⟩:=q5V k1;have HU:=Lib.hid hou;clear hou hb2;have B3:Below w2.heap.size w2 (w2.alloc (.cells #[.int .i64 n,.int .i64 n,.slice ao no co] 370)):=(Below.refl _ w2).alloc (qO0 _) _;have l1:=(B3.block _ (qO4.1 k1).1).trans k1;have l2:=(B3.block _ (qO4.1 k2).1).trans k2;obtain⟨d10,d11,d12⟩:=q5V l1
  go_wp2_with fail
  obtain⟨W3,hW3⟩:∃W3,W3=w2.alloc (.cells #[.int .i64 n,.int .i64 n,.slice ao no co] 370):=⟨_,rfl⟩;have m5:W3.heap[w2.heap.size]?=some (.cells #[.int .i64 n,.int .i64 n,.slice ao no co] 370 (0,0)):=by rw[hW3];exact heap_alloc_new _ _
  have hs3:W3.heap.size=w2.heap.size+1:=by rw[hW3,jb]
  rw[<-hW3] at B3 l1 l2 d10 d11 d12 ⊢;clear hW3 c10 c11 c12;have B13:Below w.heap.size w W3:=B2.trans (B3.mono B2.size);have keyE:=qMe ml dv sb gl n hn F qlX (.slice a0 l0 c0) w2.heap.size w.heap.size W3 (fun w' hw'=>HG.out w' (B13.trans (hw'.mono B13.size))) hml hdv hsb
    (fun h=>by obtain⟨ab,ao,cap,q1,q2,q3⟩:=HV.out h;exact⟨ab,ao,cap,q1,q2,fun i k hi hk=>by rw[B13.cell (qP8 w _ (q3 i k hi hk))];exact q3 i k hi hk⟩)
    (fun h=>by
      have ho3:=q0p HU.out B3;obtain⟨g,c,q1,_,_,_⟩:=qeZ ho3 (Nat.mul_pos h h);have hcap:n*n<=c:=by
        rcases ho3.2 with⟨z,_⟩|⟨g',cap',cur,z,_,_,z2,_⟩
        · rw[q1] at z;cases z
        · rw[q1] at z;cases z;exact z2
      refine⟨g,c,by rw[<-q1];exact(q5V m5).2.2,hcap,fun i k hi hk=>?_⟩;rw[q1] at ho3;have hik:i*n+k<n*n:=by have:=qOq n (show i+1<=n by omega);rw[qOf] at this;omega
      rw[ho3.cellAt (i*n+k) (by omega),qO8,qBM qlX n n i k hi hk];rfl)
    d10 fin HF.out
  refine keyE.mono ?_;rintro e w4 ⟨S,rfl,⟨vR,vL,H,hS⟩,hb4⟩;have B4:Below w.heap.size w w4:=B13.trans (hb4.mono B13.size);have k1:=(hb4.block _ (qO4.1 l1).1).trans l1;have k2:=(hb4.block _ (qO4.1 l2).1).trans l2;have hs4:w2.heap.size+1<=w4.heap.size:=by have:=hb4.size;omega
  have B5:Below w4.heap.size w4 (w4.alloc (.cells #[.pointer (some ⟨S,0,none⟩)] 420)):=(Below.refl _ w4).alloc (qO0 _) _;have HS:=Lib.hid (hS.grow B5);have l1:=(B5.block _ (qO4.1 k1).1).trans k1;have l2:=(B5.block _ (qO4.1 k2).1).trans k2;clear keyE HU HV HF HG hS k1 k2 d10 d11 d12 m5;obtain⟨vl0,vlc,rfl⟩:=qDS HS.out.own;obtain⟨d10,d11,d12⟩:=q5V l1;have s3:=HS.out.cell.2.2.2.1
  go_wp2_with fail
  go_big_region
  have B6:Below w4.heap.size w4 (w4.alloc (.cells #[.pointer (some ⟨S,0,none⟩)] 420)).drew:=B5.drew;have n6:=qxp w4 (.pointer (some ⟨S,0,none⟩)) 420;have SZ:(w4.alloc (.cells #[.pointer (some ⟨S,0,none⟩)] 420)).heap.size=w4.heap.size+1:=jb _ _;obtain⟨W6,hW6⟩:∃W6,W6=(w4.alloc (.cells #[.pointer (some ⟨S,0,none⟩)] 420)).drew:=⟨_,rfl⟩;have l1:W6.heap[w.heap.size]?=some (.cells #[.int .i64 n,.int .i64 n,.slice a0 l0 c0] 370 (0,0)):=by rw[hW6];exact l1
  have l2:W6.heap[w.heap.size+1]?=some (.cells #[.int .i64 0,.int .i64 0,.slice none 0 0] 370 (0,0)):=by rw[hW6];exact l2
  have n6:W6.cell? ⟨w4.heap.size,0,none⟩=some (.pointer (some ⟨S,0,none⟩)):=by rw[hW6];exact n6
  have SZ:W6.heap.size=w4.heap.size+1:=by rw[hW6];exact SZ
  have HS:=Lib.hid (HS.out.grow (Below.refl _ _).drew);rw[<-hW6] at B6 HS ⊢;clear hW6 B5 d10 d11 d12 s3;have B7:Below w.heap.size w W6:=B4.trans (B6.mono B4.size);obtain⟨d10,d11,d12⟩:=q5V l1;obtain⟨d20,d21,d22⟩:=q5V l2;have f20:=frozen_of_row W6 (w.heap.size+1) 0 _ 370 l2;have f21:=frozen_of_row W6 (w.heap.size+1) 1 _ 370 l2;have f22:=frozen_of_row W6 (w.heap.size+1) 2 _ 370 l2;have hle:w.heap.size<=w.heap.size+1:=by omega
  by_cases hl:fin.lead.length<n
  · have hl2:((fin.lead.length:Int)<(n:Int)):=by omega
    go_wp2_with fail
    refine bodyPost_ret (by simp[results,results278,go_sem, *];try rfl) rfl ?_;exact⟨((B7.setCell (p:=⟨w.heap.size+1,0,none⟩) hle _).setCell (p:=⟨w.heap.size+1,1,none⟩) hle _).setCell (p:=⟨w.heap.size+1,2,none⟩) hle _,.inl ⟨hl,rfl⟩⟩
  · have hl2:¬((fin.lead.length:Int)<(n:Int)):=by omega
    have keyM:=qHj 332 (yR func332 (by kernel_rfl) (by kernel_rfl)) #[.pointer (some ⟨w4.heap.size,0,none⟩),.pointer (some ⟨w.heap.size,0,none⟩)] n n hn hn (fun i k=>q7t fin.Z i (n+k)) W6 (fun i k w' hi hk hb =>
      (qNK w4.heap.size w.heap.size S n w' (by rw[hb.cell (qP8 W6 _ n6)];exact n6) (by rw[hb.cell (qP8 W6 _ d11)];exact d11) (HS.out.grow hb) hn i k hi hk).mono
        fun e w'' h=>⟨h.1,by rw[h.2];exact(Below.refl _ _).drew⟩)
    go_wp2_with fail
    refine keyM.mono ?_;rintro e w7 ⟨v,rfl,hb7,ho7⟩;obtain⟨a7,n7,c7,rfl⟩:=q5N ho7;have q2:=(hb7.block _ (qO4.1 l2).1).trans l2;obtain⟨e20,e21,e22⟩:=q5V q2;have f20:=frozen_of_row w7 (w.heap.size+1) 0 _ 370 q2;have f21:=frozen_of_row w7 (w.heap.size+1) 1 _ 370 q2;have f22:=frozen_of_row w7 (w.heap.size+1) 2 _ 370 q2;clear keyM d10 d11 d12 d20 d21 d22
    go_wp2_with fail
    refine bodyPost_ret (by simp[results,results278,go_sem, *];try rfl) rfl ?_;have hn0:(Value.slice a7 n7 c7).ownBlock≠some (w.heap.size+1):=fun hv=>by obtain⟨c',hc'⟩:=zd ho7 hv;exact qbo q2 hc' (by decide) rfl
    exact⟨(((B7.trans (hb7.mono B7.size)).setCell (p:=⟨w.heap.size+1,0,none⟩) hle _).setCell (p:=⟨w.heap.size+1,1,none⟩) hle _).setCell (p:=⟨w.heap.size+1,2,none⟩) hle _,
      .inr ⟨by omega,_,rfl,qz (qz (qz (q4O ho7 B7.size) hn0 _) hn0 _) hn0 _⟩⟩
end Go.Eng

namespace Go.Eng
open Go.RowKit Go.Proofs
open Tryz
def qLw(t:TR):Bool:=match t.run with
 | some (0,[.i e])=>decide (e=0)
 | _=>false
theorem qJu{t:TR}(h:qLw t=true):t.run=some (0,[.i 0]):=by
 unfold qLw at h;split at h
 ·rename_i e he;have:e=0:=by simpa using h
  subst this;exact he
 ·cases h
def qLz(ck ml dv sb:List PV->TR):List PV->TR
 | [.i r,.i c,.r l]=>if r=c/\0<=r/\r<=16/\l.length=r.toNat*r.toNat/\qLw (ck [.i r,.i c,.r l])=true then
   (match qyF (opF ml) (opF dv) (opF sb) r.toNat r.toNat (2*r.toNat) r.toNat ⟨(List.range r.toNat).map (row0 (fun i k=>cS l ((i*r.toNat+k:Nat):Int) 0) qlX r.toNat),[49],[],0⟩ with
   | some fin=>if fin.lead.length<r.toNat then .leaf (0,[.i 0,.i 0,.r [],.i 14]) else .leaf (0,[.i r,.i r,.r ((mkL (fun i k=>q7t fin.Z i (r.toNat+k)) r.toNat r.toNat).map fun x=>[.s x]),.i 0])
   | none=>.fail) else .fail
 | _=>.fail
theorem qHQ{ps:List PV}(h:ps.map PV.kind=[.i,.i,.r]):∃a b c,ps=[.i a,.i b,.r c]:=by
 match ps,h with
 | [.i a,.i b,.r c],_=>exact⟨a,b,c,rfl⟩
theorem qI0{T:List PV->TR}{a b:Int}{l:R}(h:(T [.i a,.i b,.r l]).run=some (0,[.i 0])) :(q8 ⟨[.agg [.int .i64,.int .i64,.imm [.str]]],[]⟩ [⟨.int .i64,[],none⟩] T [.agg [.int .i64 a,.int .i64 b,.imm [.str] l]] []).run=some (.int .i64 0,[]):=by unfold q8;have ht:(FIn.mk [.agg [.int .i64,.int .i64,.imm [.str]]] []).take [.agg [.int .i64 a,.int .i64 b,.imm [.str] l]] []=some [.i a,.i b,.r l]:=rfl;rw[ht];simp only[Tree.run,okR,h,qQc];simp[qHl,FOut.kinds,AP.kinds,BP.kindsL,qmq,gI,pR,h,PV.toI,FOut.make,AP.make,BP.makeL,Tree.run]
theorem qEj{w:World}{B:Nat}{e:TypeId}{M:Nat->Prop}{v:Value}{n:Nat}{xs:List Bs}(h:w.ownsRow B e 1 v n (xs.map kD))(hM:∀b,v.ownBlock=some b->M b):qfe w M [.str] (xs.map fun x=>[U.s x]) v:=by
 have hl:xs.length=n:=by have:=h.1;rw[qO7] at this;omega
 rcases h.2 with⟨rfl,h0⟩|⟨g,cap,cur,rfl,_,_,hc,_⟩
 ·exact .inl ⟨rfl,qPu (by rw[qO7];omega)⟩
 ·refine .inr ⟨⟨g,0,none⟩,cap,by rw[qO7,hl],fun _=>rfl,by rw[qO7,hl];exact hc,fun r j hj hr=>?_⟩;have hj0:j=0:=by simp at hj;exact hj
  subst hj0;rw[qO7] at hr;refine⟨hM g rfl,kD xs[r],?_,?_⟩
  ·have:=h.cellAt r (by omega);rw[qO8,qO5 hr] at this;simpa using this
  ·have:RepU w M .str (U.s xs[r]) (kD xs[r]):=.str (U.s xs[r]);have e:zH (xs.map fun x=>[U.s x]) (r:Int) 0=U.s xs[r]:=by simp[zH,hr]
   rw[e];exact this
theorem qJt{X:Ctx}{a b:Int}{l:R}{vargs:List Value}(h:RepL X [.agg [.int .i64 a,.int .i64 b,.imm [.str] l]] vargs):∃v,vargs=[.agg #[.int .i64 a,.int .i64 b,v]]/\qfe X.w X.M [.str] l v:=by
 cases h with
 | cons h1 t=>
  cases t;cases h1 with
  | agg _ vs h2=>
   cases h2 with
   | cons q1 t1=>
    cases q1;cases t1 with
    | cons q2 t2=>
     cases q2;cases t2 with
     | cons q3 t3=>
      cases t3;cases q3 with
      | imm _ _ _ hv=>exact⟨_,rfl,hv⟩
theorem qGt{gl:List (Nat×AV)}{ck ml dv sb:List PV->TR}(hck:qP prog gl 328 (q8 ⟨[.agg [.int .i64,.int .i64,.imm [.str]]],[]⟩ [⟨.int .i64,[],none⟩] ck))(hml:qP prog gl 77 (q8 ⟨[.str,.str],[]⟩ [⟨.tuple [.str,.int .i64],[],none⟩] ml)) (hdv:qP prog gl 315 (q8 ⟨[.str,.str],[]⟩ [⟨.tuple [.str,.int .i64],[],none⟩] dv))(hsb:qP prog gl 210 (q8 ⟨[.str,.str],[]⟩ [⟨.tuple [.str,.int .i64],[],none⟩] sb)) :qP prog gl 278 (q8 ⟨[.agg [.int .i64,.int .i64,.imm [.str]]],[]⟩ [⟨.tuple [.agg [.int .i64,.int .i64,.imm [.str]],.int .i64],[],none⟩] (qLz ck ml dv sb)):=by
 refine qFQ (yR func278 (by kernel_rfl) (by kernel_rfl)) rfl fun B X ps j qs vargs hs hgl hX ha hk hT=>?_;obtain⟨r,c,l,rfl⟩:=qHQ hk;have ha:RepL X [.agg [.int .i64 r,.int .i64 c,.imm [.str] l]] vargs:=ha;simp only[qLz] at hT;split at hT
 ·rename_i hc;obtain⟨rfl,hr0,hr16,hl,hok⟩:=hc;obtain⟨n,rfl⟩:∃n:Nat,r=(n:Int):=⟨r.toNat,by omega⟩;rw[qO9] at hT hl;split at hT
  ·rename_i fin hf;obtain⟨v,rfl,hv⟩:=qJt ha;have hgY:∀w',Below X.w.heap.size X.w w'->q3b gl (qJ2 w' X.y):=fun w' hb=>qNI hs hX hgl hb;have op:∀{f:FuncId} {T:List PV->TR},qP prog gl f (q8 ⟨[.str,.str],[]⟩ [⟨.tuple [.str,.int .i64],[],none⟩] T)->qEM prog (fun w'=>Below X.w.heap.size X.w w') f (opF T):=
    fun hT w' hb a b r h=>qHs hT (hgY w' hb) h
   have key:=qLU (opF ml) (opF dv) (opF sb) (fun w'=>Below X.w.heap.size X.w w') n (by omega) (fun i k=>cS l ((i*n+k:Nat):Int) 0) v X.w (fun _ h=>h) (op hml) (op hdv) (op hsb)
    (fun w' hb=>by
     have m:=qLV hs hX hb;refine(qzj hck (hgY w' hb) (args:=[.agg [.int .i64 n,.int .i64 n,.imm [.str] l]]) (vargs:=[.agg #[.int .i64 n,.int .i64 n,v]]) ?_ (qI0 (qJu hok))).mono ?_
     ·exact ha.ext0 m
     ·rintro e w'' ⟨u,X',rfl,rfl,hu,_,_,hb'⟩;cases hu;exact⟨rfl,hb'⟩)
    (fun hn=>by
     rcases hv with⟨_,h0⟩|⟨a,cap,rfl,hsp,hcap,hrows⟩
     ·rw[h0] at hl;have:=Nat.mul_pos hn hn;simp at hl;omega
     ·have hpos:0<l.length:=by rw[hl];exact Nat.mul_pos hn hn
      obtain⟨ab,ao,sp⟩:=a;have:sp=none:=hsp hpos;subst this;refine⟨ab,ao,cap,by rw[hl],by omega,fun i k hi hk=>?_⟩;have hik:i*n+k<l.length:=by have:=qOq n (show i+1<=n by omega);rw[qOf] at this;omega
      obtain⟨_,u,q1,q2⟩:=hrows (i*n+k) 0 (by simp) hik;cases q2;simp only[List.length_singleton,qPC,qOQ] at q1;rw[q1];rfl)
    fin hf (by
     rcases hv with⟨rfl,_⟩|⟨a,cap,rfl,_⟩
     ·exact⟨_,_,_,rfl⟩
     ·exact⟨_,_,_,rfl⟩)
   split at hT
   ·rename_i hlt;cases hT;refine⟨rfl,rfl,key.mono ?_⟩;rintro e w' ⟨hb,⟨_,rfl⟩|⟨h,_⟩⟩
    ·refine⟨_,X.M,rfl,hb,fun _ h=>h,fun _ h=>.inl h,?_⟩;exact .tuple _ [_,_] (.cons (.agg _ [_,_,_] (.cons (.int _ _) (.cons (.int _ _) (.cons (.imm _ _ _ (.inl ⟨rfl,rfl⟩)) .nil)))) (.cons (.int _ _) .nil))
    ·omega
   ·rename_i hge;cases hT;refine⟨rfl,rfl,key.mono ?_⟩;rintro e w' ⟨hb,⟨h,_⟩|⟨_,u,rfl,ho⟩⟩
    ·exact absurd h hge
    ·refine⟨_,fun m=>X.M m\/u.ownBlock=some m,rfl,hb,fun _ h=>.inl h,fun m h=>?_,?_⟩
     ·rcases h with h|h
      ·exact .inl h
      ·exact .inr (ho.lt m h)
     ·exact .tuple _ [_,_] (.cons (.agg _ [_,_,_] (.cons (.int _ _) (.cons (.int _ _) (.cons (.imm _ _ _ (qEj ho fun b hb=>.inr hb)) .nil)))) (.cons (.int _ _) .nil))
  ·cases hT
 ·cases hT
end Go.Eng

namespace Go.Eng
open Go.Proofs
open Tryz
noncomputable def qdj:List (TypeId×TI):=[(1,(.mk .func 1 [.nilFunc] 8 false false)),(2,(.mk (.int .i64) 1 [(.int .i64 0)] 8 false false)),(3,(.mk (.int .i64) 1 [(.int .i64 0)] 8 false false)),(4,(.mk .bool 1 [(.bool false)] 1 false false)),(5,(.mk (.int .u8) 1 [(.int .u8 0)] 1 false false)),(6,(.mk (.int .u8) 1 [(.int .u8 0)] 1 false false)),(7,(.mk (.struct [(0,(2,1)),(1,(3,1)),(2,(4,1)),(3,(6,1))]) 4 [(.int .i64 0),(.int .i64 0),(.bool false),(.int .u8 0)] 24 true true)),(8,(.mk (.struct [(0,(2,1)),(1,(3,1)),(2,(4,1)),(3,(6,1))]) 4 [(.int .i64 0),(.int .i64 0),(.bool false),(.int .u8 0)] 24 true true)),(9,(.mk .str 1 [(.string (.mk (.mk [])))] 16 false false)),(10,(.mk .str 1 [(.string (.mk (.mk [])))] 16 false false)),(11,(.mk .str 1 [(.string (.mk (.mk [])))] 16 false false)),(12,(.mk (.int .u64) 1 [(.int .u64 0)] 8 false false)),(13,(.mk (.struct [(0,(9,1)),(1,(12,1))]) 2 [(.string (.mk (.mk []))),(.int .u64 0)] 24 false true)),(14,(.mk (.struct [(0,(9,1)),(1,(12,1))]) 2 [(.string (.mk (.mk []))),(.int .u64 0)] 24 false true)),(16,(.mk (.ptr 507) 1 [(.pointer .none)] 8 false false)),(17,(.mk (.ptr 515) 1 [(.pointer .none)] 8 false false)),(18,(.mk (.struct [(0,(17,1))]) 1 [(.pointer .none)] 8 false true)),(24,(.mk (.struct [(0,(3,1)),(1,(3,1))]) 2 [(.int .i64 0),(.int .i64 0)] 16 true true)),(25,(.mk (.int .i64) 1 [(.int .i64 0)] 8 false false)),(29,(.mk (.slice 34 5) 1 [(.slice .none 0 0)] 24 false false)),(30,(.mk (.slice 36 2) 1 [(.slice .none 0 0)] 24 false false)),(32,(.mk (.struct [(0,(29,1)),(1,(30,1)),(2,(24,2))]) 4 [(.slice .none 0 0),(.slice .none 0 0),(.int .i64 0),(.int .i64 0)] 64 true true)),(34,(.mk (.struct [(0,(9,1)),(1,(9,1)),(2,(3,1)),(3,(24,2))]) 5 [(.string (.mk (.mk []))),(.string (.mk (.mk []))),(.int .i64 0),(.int .i64 0),(.int .i64 0)] 56 true true)),(36,(.mk (.struct [(0,(3,1)),(1,(4,1))]) 2 [(.int .i64 0),(.bool false)] 16 true true)),(38,(.mk (.slice 3 1) 1 [(.slice .none 0 0)] 24 false false)),(44,(.mk (.slice 71 3) 1 [(.slice .none 0 0)] 24 false false)),(45,(.mk (.struct [(0,(3,1)),(1,(44,1)),(2,(44,1))]) 3 [(.int .i64 0),(.slice .none 0 0),(.slice .none 0 0)] 56 true true)),(46,(.mk (.struct [(0,(3,1)),(1,(44,1)),(2,(44,1))]) 3 [(.int .i64 0),(.slice .none 0 0),(.slice .none 0 0)] 56 true true)),(47,(.mk .func 1 [.nilFunc] 8 false false)),(48,(.mk (.struct [(0,(3,1)),(1,(44,1)),(2,(44,1))]) 3 [(.int .i64 0),(.slice .none 0 0),(.slice .none 0 0)] 56 true true)),(49,(.mk .func 1 [.nilFunc] 8 false false)),(51,(.mk .func 1 [.nilFunc] 8 false false)),(52,(.mk .func 1 [.nilFunc] 8 false false)),(54,(.mk .func 1 [.nilFunc] 8 false false)),(55,(.mk .func 1 [.nilFunc] 8 false false)),(56,(.mk .func 1 [.nilFunc] 8 false false)),(57,(.mk .func 1 [.nilFunc] 8 false false)),(58,(.mk (.slice 68 2) 1 [(.slice .none 0 0)] 24 false false)),(64,(.mk .func 1 [.nilFunc] 8 false false)),(66,(.mk (.slice 73 6) 1 [(.slice .none 0 0)] 24 false false)),(68,(.mk (.struct [(0,(3,1)),(1,(3,1))]) 2 [(.int .i64 0),(.int .i64 0)] 16 true true)),(71,(.mk (.struct [(0,(3,1)),(1,(3,1)),(2,(3,1))]) 3 [(.int .i64 0),(.int .i64 0),(.int .i64 0)] 24 true true)),(73,(.mk (.struct [(0,(71,3)),(3,(71,3))]) 6 [(.int .i64 0),(.int .i64 0),(.int .i64 0),(.int .i64 0),(.int .i64 0),(.int .i64 0)] 48 true true)),(77,(.mk (.slice 168 6) 1 [(.slice .none 0 0)] 24 false false)),(96,(.mk (.array 3 3 1) 3 [(.int .i64 0),(.int .i64 0),(.int .i64 0)] 24 false false)),(97,(.mk .func 1 [.nilFunc] 8 false false)),(99,(.mk .func 1 [.nilFunc] 8 false false)),(100,(.mk (.int .u16) 1 [(.int .u16 0)] 2 false false)),(101,(.mk .func 1 [.nilFunc] 8 false false)),(103,(.mk (.struct [(0,(3,1)),(1,(58,1))]) 2 [(.int .i64 0),(.slice .none 0 0)] 32 true true)),(104,(.mk (.slice 103 2) 1 [(.slice .none 0 0)] 24 false false)),(105,(.mk .func 1 [.nilFunc] 8 false false)),(108,(.mk .str 1 [(.string (.mk (.mk [])))] 16 false false)),(109,(.mk .func 1 [.nilFunc] 8 false false)),(110,(.mk (.struct [(0,(108,1)),(1,(108,1))]) 2 [(.string (.mk (.mk []))),(.string (.mk (.mk [])))] 32 true true)),(111,(.mk (.struct [(0,(108,1)),(1,(108,1))]) 2 [(.string (.mk (.mk []))),(.string (.mk (.mk [])))] 32 true true)),(112,(.mk .func 1 [.nilFunc] 8 false false)),(115,(.mk .func 1 [.nilFunc] 8 false false)),(116,(.mk .func 1 [.nilFunc] 8 false false)),(120,(.mk .func 1 [.nilFunc] 8 false false)),(121,(.mk (.struct [(0,(3,1)),(1,(3,1)),(2,(3,1))]) 3 [(.int .i64 0),(.int .i64 0),(.int .i64 0)] 24 true true)),(128,(.mk .func 1 [.nilFunc] 8 false false)),(145,(.mk (.array 2 44 1) 2 [(.slice .none 0 0),(.slice .none 0 0)] 48 false false)),(147,(.mk (.array 2 3 1) 2 [(.int .i64 0),(.int .i64 0)] 16 false false)),(149,(.mk .func 1 [.nilFunc] 8 false false)),(162,(.mk (.struct [(0,(3,1)),(1,(3,1))]) 2 [(.int .i64 0),(.int .i64 0)] 16 true true)),(167,(.mk .func 1 [.nilFunc] 8 false false)),(168,(.mk (.struct [(0,(71,3)),(3,(71,3))]) 6 [(.int .i64 0),(.int .i64 0),(.int .i64 0),(.int .i64 0),(.int .i64 0),(.int .i64 0)] 48 true true)),(179,(.mk (.struct [(0,(111,2)),(2,(108,1)),(3,(108,1))]) 4 [(.string (.mk (.mk []))),(.string (.mk (.mk []))),(.string (.mk (.mk []))),(.string (.mk (.mk [])))] 64 true true)),(183,(.mk .str 1 [(.string (.mk (.mk [])))] 16 false false)),(188,(.mk .func 1 [.nilFunc] 8 false false)),(191,(.mk .func 1 [.nilFunc] 8 false false)),(208,(.mk .func 1 [.nilFunc] 8 false false)),(209,(.mk .func 1 [.nilFunc] 8 false false)),(211,(.mk (.array 3 108 1) 3 [(.string (.mk (.mk []))),(.string (.mk (.mk []))),(.string (.mk (.mk [])))] 48 false false)),(212,(.mk (.slice 108 1) 1 [(.slice .none 0 0)] 24 false false)),(214,(.mk (.struct [(0,(211,3)),(3,(108,1)),(4,(212,1))]) 5 [(.string (.mk (.mk []))),(.string (.mk (.mk []))),(.string (.mk (.mk []))),(.string (.mk (.mk []))),(.slice .none 0 0)] 88 true true)),(220,(.mk (.ptr 227) 1 [(.pointer .none)] 8 false false)),(227,(.mk (.struct [(0,(25,1))]) 1 [(.int .i64 0)] 8 true true)),(232,(.mk (.slice 183 1) 1 [(.slice .none 0 0)] 24 false false)),(238,(.mk (.struct [(0,(3,1)),(1,(3,1)),(2,(3,1))]) 3 [(.int .i64 0),(.int .i64 0),(.int .i64 0)] 24 true true)),(243,(.mk (.slice 58 1) 1 [(.slice .none 0 0)] 24 false false)),(245,(.mk (.struct [(0,(3,1)),(1,(3,1))]) 2 [(.int .i64 0),(.int .i64 0)] 16 true true)),(248,(.mk (.ptr 250) 1 [(.pointer .none)] 8 false false)),(250,(.mk (.struct [(0,(25,1))]) 1 [(.int .i64 0)] 8 true true)),(254,(.mk .func 1 [.nilFunc] 8 false false)),(255,(.mk .func 1 [.nilFunc] 8 false false)),(258,(.mk (.struct [(0,(68,2)),(2,(68,2))]) 4 [(.int .i64 0),(.int .i64 0),(.int .i64 0),(.int .i64 0)] 32 true true)),(277,(.mk .func 1 [.nilFunc] 8 false false)),(278,(.mk .func 1 [.nilFunc] 8 false false)),(282,(.mk .func 1 [.nilFunc] 8 false false)),(284,(.mk .func 1 [.nilFunc] 8 false false)),(285,(.mk .func 1 [.nilFunc] 8 false false)),(293,(.mk (.slice 38 1) 1 [(.slice .none 0 0)] 24 false false)),(305,(.mk (.slice 5 1) 1 [(.slice .none 0 0)] 24 false false)),(306,(.mk .func 1 [.nilFunc] 8 false false)),(307,(.mk .func 1 [.nilFunc] 8 false false)),(311,(.mk .func 1 [.nilFunc] 8 false false)),(327,(.mk .func 1 [.nilFunc] 8 false false)),(336,(.mk (.ptr 384) 1 [(.pointer .none)] 8 false false)),(342,(.mk (.slice 212 1) 1 [(.slice .none 0 0)] 24 false false)),(350,(.mk .func 1 [.nilFunc] 8 false false)),(351,(.mk (.ptr 103) 1 [(.pointer .none)] 8 false false)),(370,(.mk (.struct [(0,(3,1)),(1,(3,1)),(2,(212,1))]) 3 [(.int .i64 0),(.int .i64 0),(.slice .none 0 0)] 40 true true)),(382,(.mk (.array 232 3 1) 232 (List.replicate 232 (.int .i64 0)) 1856 false false)),(384,(.mk (.struct [(0,(4,1)),(1,(3,1)),(2,(382,232))]) 234 (List.append [(.bool false)] (List.replicate 233 (.int .i64 0))) 1872 true true)),(400,(.mk (.int .u64) 1 [(.int .u64 0)] 8 false false)),(417,(.mk .func 1 [.nilFunc] 8 false false)),(425,(.mk (.struct [(0,(25,1))]) 1 [(.int .i64 0)] 8 true true)),(429,(.mk (.ptr 425) 1 [(.pointer .none)] 8 false false)),(456,(.mk (.array 20 400 1) 20 [(.int .u64 0),(.int .u64 0),(.int .u64 0),(.int .u64 0),(.int .u64 0),(.int .u64 0),(.int .u64 0),(.int .u64 0),(.int .u64 0),(.int .u64 0),(.int .u64 0),(.int .u64 0),(.int .u64 0),(.int .u64 0),(.int .u64 0),(.int .u64 0),(.int .u64 0),(.int .u64 0),(.int .u64 0),(.int .u64 0)] 160 false false)),(464,(.mk .func 1 [.nilFunc] 8 false false))]
noncomputable def qc:List (Nat×AV):=[(2,(.eptr [.int .u64,.int .u64,.int .u64,.int .u64,.int .u64,.int .u64,.int .u64,.int .u64,.int .u64,.int .u64,.int .u64,.int .u64,.int .u64,.int .u64,.int .u64,.int .u64,.int .u64,.int .u64,.int .u64,.int .u64] [[.i 1,.i 10,.i 100,.i 1000,.i 10000,.i 100000,.i 1000000,.i 10000000,.i 100000000,.i 1000000000,.i 10000000000,.i 100000000000,.i 1000000000000,.i 10000000000000,.i 100000000000000,.i 1000000000000000,.i 10000000000000000,.i 100000000000000000,.i 1000000000000000000,.i 10000000000000000000]] 0 0))]
theorem q9:qdj.map (fun x=>qAu prog x.1)=qdj.map (·.2):=by kernel_rfl
theorem qe:prog.follows .mixedOrders=true:=by kernel_rfl
noncomputable def qa(s:List (FuncId×(List AV->List Blk->Tree (AV×List Blk))))(b:List (FuncId×Func))(l:List ((FuncId×Nat)×(St->Tree (Ex×St))))(n:Nat):Env:=⟨qdj,qc,s,b,l,n,[],[],[]⟩
def q91:FIn:=⟨[(.imm [(.int .i64),(.int .i64),(.int .i64)])],[]⟩
def q8x:List FOut:=[⟨.bool,[],none⟩]
noncomputable def qgC:=qa [] [(66,f66)] [] 0
noncomputable def un:=qj qgC 66 f66 true q91 q8x
theorem qlI:qP prog qc 66 (q8 q91 q8x un):=sk qgC qe q9 aln aln (b1 func66) func66
def q1j:FIn:=⟨[(.agg [(.int .i64),(.imm [(.int .i64),(.int .i64),(.int .i64)]),(.imm [(.int .i64),(.int .i64),(.int .i64)])])],[]⟩
def q1d:List FOut:=[⟨.bool,[],none⟩]
noncomputable def qgi:=qa [(66,q8 q91 q8x un)] [(18,f18)] [] 0
noncomputable def zO:=qj qgi 18 f18 true q1j q1d
theorem q4y:qP prog qc 18 (q8 q1j q1d zO):=sk qgi qe q9 (alc qlI aln) aln (b1 func18) func18
def q5v:FIn:=⟨[(.int .i64)],[]⟩
def q5B:List FOut:=[⟨.bool,[],none⟩]
noncomputable def qhp:=qa [] [(149,f149)] [] 0
noncomputable def qU:=qj qhp 149 f149 true q5v q5B
theorem qbP:qP prog qc 149 (q8 q5v q5B qU):=sk qhp qe q9 aln aln (b1 func149) func149
def q13:FIn:=⟨[(.agg [(.int .i64),(.int .i64),(.int .i64)])],[]⟩
def q10:List FOut:=[⟨.bool,[],none⟩]
noncomputable def qnQ:=qa [(149,q8 q5v q5B qU)] [(126,f126)] [] 0
noncomputable def yq:=qj qnQ 126 f126 true q13 q10
theorem q1a:qP prog qc 126 (q8 q13 q10 yq):=sk qnQ qe q9 (alc qbP aln) aln (b1 func126) func126
def uM:FIn:=⟨[(.fn 126 [] []),(.imm [(.int .i64),(.int .i64),(.int .i64)])],[]⟩
def uG:List FOut:=[⟨(.int .i64),[],none⟩]
def q0T:Tmpl:={ t:=((.fn 126 [] [])::ql 6 ((.imm [(.int .i64),(.int .i64),(.int .i64)])::(.int .i64)::(.int .i64)::ql 8 [])),h:=[] }
def q14:List Out:=[⟨(.exit 0),{ t:=(ql 18 []),h:=[] }⟩,⟨.ret,{ t:=(ql 4 ((.int .i64)::ql 13 [])),h:=[] }⟩]
noncomputable def yp:=qa [(126,q8 q13 q10 yq)] [(150,f150)] [] 0
noncomputable def zq:=z8 yp 150 f150 3 q0T q14
theorem qbw:qt prog qc yp.nimp (qH prog yp.iter 150) (w8 f150 3) (qh q0T q14 (qf zq)):=gk yp qe q9 (alc q1a aln) aln (b1 func150) func150
noncomputable def q8d:=qa [(126,q8 q13 q10 yq)] [(150,f150)] [((150,3),qh q0T q14 (qf zq))] 0
noncomputable def zl:=qj q8d 150 f150 true uM uG
theorem q4K:qP prog qc 150 (q8 uM uG zl):=sk q8d qe q9 (alc q1a aln) (alc (lk func150 qbw) aln) (b1 func150) func150
def k8:FIn:=⟨[(.imm [(.int .i64),(.int .i64),(.int .i64)]),(.fn 126 [] [])],[]⟩
def kg:List FOut:=[⟨(.int .i64),[],none⟩]
noncomputable def q3O:=qa [(126,q8 q13 q10 yq),(150,q8 uM uG zl)] [(125,f125)] [] 0
noncomputable def wJ:=qj q3O 125 f125 true k8 kg
theorem q9P:qP prog qc 125 (q8 k8 kg wJ):=sk q3O qe q9 (alc q1a (alc q4K aln)) aln (b1 func125) func125
def q15:FIn:=⟨[(.imm [(.int .i64),(.int .i64),(.int .i64)])],[]⟩
def q0Q:List FOut:=[⟨(.int .i64),[],none⟩]
noncomputable def qb7:=qa [(125,q8 k8 kg wJ),(126,q8 q13 q10 yq)] [(72,f72)] [] 0
noncomputable def wS:=qj qb7 72 f72 true q15 q0Q
theorem q6O:qP prog qc 72 (q8 q15 q0Q wS):=sk qb7 qe q9 (alc q9P (alc q1a aln)) aln (b1 func72) func72
def jZ:FIn:=⟨[(.agg [(.int .i64),(.int .i64),(.int .i64)]),(.ptr 0 0)],[.cells [(.int .i64)]]⟩
def jX:List FOut:=[⟨(.int .i64),[.cells [(.int .i64)]],none⟩]
noncomputable def q9a:=qa [] [(127,f127)] [] 1
noncomputable def qE:=qj q9a 127 f127 true jZ jX
theorem q0u:qP prog qc 127 (q8 jZ jX qE):=sk q9a qe q9 aln aln (b1 func127) func127
def q00:FIn:=⟨[(.imm [(.int .i64),(.int .i64),(.int .i64)]),(.fn 127 [] [(.ptr 0 0)])],[.cells [(.int .i64)]]⟩
def kW:List FOut:=[⟨(.agg [(.int .i64),(.int .i64)]),[.cells [(.int .i64)]],none⟩]
def ub:Tmpl:={ t:=((.imm [(.int .i64),(.int .i64),(.int .i64)])::(.fn 127 [] [(.ptr 0 0)])::.any::.any::(.ptr 1 0)::(.ptr 2 0)::.any::.any::(.imm [(.int .i64),(.int .i64),(.int .i64)])::(.int .i64)::(.int .i64)::ql 32 []),h:=[.cells [(.int .i64)],.cells [(.int .i64),(.int .i64)],.cells [(.int .i64),(.int .i64)]] }
def ud:List Out:=[⟨(.exit 0),{ t:=(ql 4 ((.ptr 1 0)::(.ptr 2 0)::ql 37 [])),h:=[.cells [(.int .i64)],.cells [(.int .i64),(.int .i64)],.cells [(.int .i64),(.int .i64)]] }⟩]
noncomputable def vY:=qa [(127,q8 jZ jX qE)] [(128,f128)] [] 1
noncomputable def zm:=z8 vY 128 f128 4 ub ud
theorem q8N:qt prog qc vY.nimp (qH prog vY.iter 128) (w8 f128 4) (qh ub ud (qf zm)):=gk vY qe q9 (alc q0u aln) aln (b1 func128) func128
noncomputable def q4V:=qa [(127,q8 jZ jX qE)] [(128,f128)] [((128,4),qh ub ud (qf zm))] 1
noncomputable def vb:=qj q4V 128 f128 true q00 kW
theorem qaB:qP prog qc 128 (q8 q00 kW vb):=sk q4V qe q9 (alc q0u aln) (alc (lk func128 q8N) aln) (b1 func128) func128
def uJ:FIn:=⟨[(.imm [(.int .i64),(.int .i64),(.int .i64)]),(.int .i64)],[]⟩
def uU:List FOut:=[⟨(.agg [(.int .i64),(.int .i64)]),[],none⟩]
noncomputable def qbC:=qa [(127,q8 jZ jX qE),(128,q8 q00 kW vb)] [(73,f73)] [] 0
noncomputable def zg:=qj qbC 73 f73 true uJ uU
theorem q2c:qP prog qc 73 (q8 uJ uU zg):=sk qbC qe q9 (alc q0u (alc qaB aln)) aln (b1 func73) func73
def q4L:FIn:=⟨[(.agg [(.int .i64),(.imm [(.int .i64),(.int .i64),(.int .i64)]),(.imm [(.int .i64),(.int .i64),(.int .i64)])])],[]⟩
def q4G:List FOut:=[⟨(.int .i64),[],none⟩]
def qcN:Tmpl:={ t:=(.any::(.ptr 0 0)::ql 16 ((.agg [(.imm [(.int .i64),(.int .i64),(.int .i64)]),(.imm [(.int .i64),(.int .i64),(.int .i64)])])::(.int .i64)::ql 24 [])),h:=[.cells [(.int .i64),(.imm [(.int .i64),(.int .i64),(.int .i64)]),(.imm [(.int .i64),(.int .i64),(.int .i64)])]] }
def qdv:List Out:=[⟨(.exit 0),{ t:=(.any::(.ptr 0 0)::ql 42 []),h:=[.cells [(.int .i64),(.imm [(.int .i64),(.int .i64),(.int .i64)]),(.imm [(.int .i64),(.int .i64),(.int .i64)])]] }⟩,⟨.ret,{ t:=(.any::.any::(.int .i64)::ql 41 []),h:=[] }⟩]
noncomputable def q7H:=qa [(72,q8 q15 q0Q wS),(73,q8 uJ uU zg)] [(24,f24)] [] 0
noncomputable def jj:=z8 q7H 24 f24 6 qcN qdv
theorem qpe:qt prog qc q7H.nimp (qH prog q7H.iter 24) (w8 f24 6) (qh qcN qdv (qf jj)):=gk q7H qe q9 (alc q6O (alc q2c aln)) aln (b1 func24) func24
noncomputable def qpI:=qa [(72,q8 q15 q0Q wS),(73,q8 uJ uU zg)] [(24,f24)] [((24,6),qh qcN qdv (qf jj))] 0
noncomputable def wA:=qj qpI 24 f24 true q4L q4G
theorem q6a:qP prog qc 24 (q8 q4L q4G wA):=sk qpI qe q9 (alc q6O (alc q2c aln)) (alc (lk func24 qpe) aln) (b1 func24) func24
def q5z:FIn:=⟨[(.agg [(.int .i64),(.imm [(.int .i64),(.int .i64),(.int .i64)]),(.imm [(.int .i64),(.int .i64),(.int .i64)])])],[]⟩
def q6x:List FOut:=[⟨(.agg [(.int .i64),(.int .i64)]),[],none⟩]
noncomputable def qo0:=qa [(73,q8 uJ uU zg)] [(68,f68)] [] 0
noncomputable def yi:=qj qo0 68 f68 true q5z q6x
theorem q8B:qP prog qc 68 (q8 q5z q6x yi):=sk qo0 qe q9 (alc q2c aln) aln (b1 func68) func68
def q5q:FIn:=⟨[(.agg [(.int .i64),(.imm [(.int .i64),(.int .i64),(.int .i64)]),(.imm [(.int .i64),(.int .i64),(.int .i64)])]),.bool],[]⟩
def q5T:List FOut:=[⟨(.tuple [(.int .i64),(.int .i64)]),[],none⟩]
noncomputable def qnO:=qa [(24,q8 q4L q4G wA),(68,q8 q5z q6x yi)] [(20,f20)] [] 0
noncomputable def zT:=qj qnO 20 f20 true q5q q5T
theorem q8C:qP prog qc 20 (q8 q5q q5T zT):=sk qnO qe q9 (alc q6a (alc q8B aln)) aln (b1 func20) func20
def q5n:FIn:=⟨[(.agg [(.int .i64),(.imm [(.int .i64),(.int .i64),(.int .i64)]),(.imm [(.int .i64),(.int .i64),(.int .i64)])])],[]⟩
def q6g:List FOut:=[⟨(.tuple [(.agg [(.int .i64),(.int .i64)]),(.int .i64)]),[],none⟩]
noncomputable def qny:=qa [(24,q8 q4L q4G wA),(68,q8 q5z q6x yi)] [(22,f22)] [] 0
noncomputable def ym:=qj qny 22 f22 true q5n q6g
theorem q8p:qP prog qc 22 (q8 q5n q6g ym):=sk qny qe q9 (alc q6a (alc q8B aln)) aln (b1 func22) func22
def qk5:FIn:=⟨[(.int .i64)],[]⟩
def qk6:List FOut:=[⟨.str,[],none⟩]
noncomputable def q3R:List PV->TR:=qGi
set_option maxRecDepth 100000 in
theorem qoz:qP prog qc 166 (q8 qk5 qk6 q3R):=qEf laysM171 (yR func166 (by kernel_rfl) (by kernel_rfl)) (by kernel_rfl) (by unfold qc;exact qOm)
def qab:FIn:=⟨[(.int .i64)],[]⟩
def qa6:List FOut:=[⟨.str,[],none⟩]
noncomputable def qwu:=qa [(166,q8 qk5 qk6 q3R)] [(105,f105)] [] 0
noncomputable def wB:=qj qwu 105 f105 true qab qa6
theorem qa4:qP prog qc 105 (q8 qab qa6 wB):=sk qwu qe q9 (alc qoz aln) aln (b1 func105) func105
def q2A:FIn:=⟨[(.int .i64)],[]⟩
def q2W:List FOut:=[⟨.str,[],none⟩]
noncomputable def qn1:=qa [(105,q8 qab qa6 wB)] [(53,f53)] [] 0
noncomputable def wP:=qj qn1 53 f53 true q2A q2W
theorem q49:qP prog qc 53 (q8 q2A q2W wP):=sk qn1 qe q9 (alc qa4 aln) aln (b1 func53) func53
def q2H:FIn:=⟨[(.agg [(.int .i64),(.int .i64)])],[]⟩
def q2z:List FOut:=[⟨.bool,[],none⟩]
noncomputable def qmd:=qa [(149,q8 q5v q5B qU)] [(84,f84)] [] 0
noncomputable def uS:=qj qmd 84 f84 true q2H q2z
theorem q4b:qP prog qc 84 (q8 q2H q2z uS):=sk qmd qe q9 (alc qbP aln) aln (b1 func84) func84
def q1P:FIn:=⟨[(.fn 84 [] []),(.imm [(.int .i64),(.int .i64)])],[]⟩
def q1R:List FOut:=[⟨(.int .i64),[],none⟩]
def q0j:Tmpl:={ t:=((.fn 84 [] [])::ql 6 ((.imm [(.int .i64),(.int .i64)])::(.int .i64)::(.int .i64)::ql 8 [])),h:=[] }
def q06:List Out:=[⟨(.exit 0),{ t:=(ql 18 []),h:=[] }⟩,⟨.ret,{ t:=(ql 4 ((.int .i64)::ql 13 [])),h:=[] }⟩]
noncomputable def jz:=qa [(84,q8 q2H q2z uS)] [(83,f83)] [] 0
noncomputable def ze:=z8 jz 83 f83 3 q0j q06
theorem qag:qt prog qc jz.nimp (qH prog jz.iter 83) (w8 f83 3) (qh q0j q06 (qf ze)):=gk jz qe q9 (alc q4b aln) aln (b1 func83) func83
noncomputable def q6T:=qa [(84,q8 q2H q2z uS)] [(83,f83)] [((83,3),qh q0j q06 (qf ze))] 0
noncomputable def j6:=qj q6T 83 f83 true q1P q1R
theorem qd0:qP prog qc 83 (q8 q1P q1R j6):=sk q6T qe q9 (alc q4b aln) (alc (lk func83 qag) aln) (b1 func83) func83
def uc:FIn:=⟨[(.imm [(.int .i64),(.int .i64)]),(.fn 84 [] [])],[]⟩
def ug:List FOut:=[⟨(.int .i64),[],none⟩]
noncomputable def q3a:=qa [(83,q8 q1P q1R j6),(84,q8 q2H q2z uS)] [(167,f167)] [] 0
noncomputable def zZ:=qj q3a 167 f167 true uc ug
theorem q8v:qP prog qc 167 (q8 uc ug zZ):=sk q3a qe q9 (alc qd0 (alc q4b aln)) aln (b1 func167) func167
def qcr:FIn:=⟨[(.imm [(.int .i64),(.int .i64)])],[]⟩
def qcR:List FOut:=[⟨(.int .i64),[],none⟩]
noncomputable def qkg:=qa [(84,q8 q2H q2z uS),(167,q8 uc ug zZ)] [(106,f106)] [] 0
noncomputable def q3t:=qj qkg 106 f106 true qcr qcR
theorem qos:qP prog qc 106 (q8 qcr qcR q3t):=sk qkg qe q9 (alc q4b (alc q8v aln)) aln (b1 func106) func106
def qcZ:FIn:=⟨[(.int .i64)],[]⟩
def qde:List FOut:=[⟨(.int .i64),[],none⟩]
noncomputable def qky:=qa [] [(183,f183)] [] 0
noncomputable def q3G:=qj qky 183 f183 true qcZ qde
theorem qoW:qP prog qc 183 (q8 qcZ qde q3G):=sk qky qe q9 aln aln (b1 func183) func183
def qdr:FIn:=⟨[(.imm [(.int .i64),(.int .i64)])],[]⟩
def qcJ:List FOut:=[⟨(.int .i64),[],none⟩]
noncomputable def qkx:=qa [(106,q8 qcr qcR q3t),(183,q8 qcZ qde q3G)] [(130,f130)] [] 0
noncomputable def q3r:=qj qkx 130 f130 true qdr qcJ
theorem qpx:qP prog qc 130 (q8 qdr qcJ q3r):=sk qkx qe q9 (alc qos (alc qoW aln)) aln (b1 func130) func130
def q1Q:FIn:=⟨[(.imm [(.int .i64)])],[]⟩
def q1N:List FOut:=[⟨(.vec 0),[.vec 3 [(.int .i64)]],none⟩]
noncomputable def qh8:=qa [] [(227,f227)] [] 0
abbrev q52:=q1Q
abbrev q51:=q1N
noncomputable abbrev q4T:=qh8
noncomputable def q4S:=qj q4T 227 f227 false q52 q51
theorem qaj:qP prog qc 227 (q8 q52 q51 q4S):=qo7 (E:=q4T) qe ⟨q3P q9,⟨aln,aln⟩,aln,(b1 func227)⟩ func227 (by kernel_rfl) (by kernel_rfl) (fun _=>rfl)
theorem qcq(x0:R):q4S [.r x0]=(.br (ilt 0 (qg x0)) (.br (ile ((qg [])+(qg x0)) 17592186044416) (.leaf (0,[(.r (zD [] x0))])) .fail) .fail):=by kernel_rfl
def qey:Go.Shelf.Ren:=⟨fun|41=>227|n=>n,fun|4=>4|22=>38|23=>3|n=>n,fun n=>n⟩
noncomputable def wC:=qF0
theorem qdn:qP prog qc 227 (q8 q1Q q1N wC):=qEB (ρ:=qey) ⟨by kernel_rfl,⟨ "slices.Clone[[]int,int]",by decide,func227.trans (congrArg some (by kernel_rfl))⟩,underlying4,isAgg4,sizeOf4,zeroValue4,underlying38,isAgg38,sizeOf38,zeroValue38,underlying3,isAgg3,sizeOf3,zeroValue3,by kernel_rfl⟩ qaj (qJy qcq)
def zI:FIn:=⟨[.str,.str],[]⟩
def zJ:List FOut:=[⟨.bool,[],none⟩]
noncomputable def kv:=qa [] [(289,f289)] [] 0
noncomputable def qC:=qj kv 289 f289 true zI zJ
theorem yJ:qP prog qc 289 (q8 zI zJ qC):=sk kv qe q9 aln aln (b1 func289) func289
def vM:FIn:=⟨[.str,.str],[]⟩
def vH:List FOut:=[⟨.str,[],none⟩]
noncomputable def uN:=qa [(289,q8 zI zJ qC)] [(245,f245)] [] 0
noncomputable def qY:=qj uN 245 f245 true vM vH
theorem q3K:qP prog qc 245 (q8 vM vH qY):=sk uN qe q9 (alc yJ aln) aln (b1 func245) func245
def jW:FIn:=⟨[.str,.str],[]⟩
def yd:List FOut:=[⟨.str,[],none⟩]
noncomputable def q9d:=qa [(245,q8 vM vH qY)] [(194,f194)] [] 0
noncomputable def qW:=qj q9d 194 f194 true jW yd
theorem q0N:qP prog qc 194 (q8 jW yd qW):=sk q9d qe q9 (alc q3K aln) aln (b1 func194) func194
def ql0:FIn:=⟨[.str,.str],[]⟩
def qkP:List FOut:=[⟨.str,[],none⟩]
noncomputable def q7E:List PV->TR:=qFp
set_option maxRecDepth 100000 in
theorem qpi:qP prog qc 295 (q8 ql0 qkP q7E):=qEK lays160 (yR func295 (by kernel_rfl) (by kernel_rfl)) (by kernel_rfl)
def uw:FIn:=⟨[.str],[]⟩
def uV:List FOut:=[⟨(.int .i64),[],none⟩]
noncomputable def qm8:=qa [(194,q8 jW yd qW),(295,q8 ql0 qkP q7E)] [(242,f242)] [] 0
noncomputable def qV:=qj qm8 242 f242 true uw uV
theorem ui:qP prog qc 242 (q8 uw uV qV):=sk qm8 qe q9 (alc q0N (alc qpi aln)) aln (b1 func242) func242
def q28:FIn:=⟨[(.imm [.str])],[]⟩
def q27:List FOut:=[⟨(.int .i64),[],none⟩]
def qfN:Tmpl:={ t:=(ql 6 ((.imm [.str])::(.int .i64)::(.int .i64)::ql 9 [])),h:=[] }
def qfS:List Out:=[⟨(.exit 0),{ t:=(ql 18 []),h:=[] }⟩,⟨.ret,{ t:=(.any::.any::(.int .i64)::ql 15 []),h:=[] }⟩]
noncomputable def q9W:=qa [(242,q8 uw uV qV)] [(191,f191)] [] 0
noncomputable def q5X:=z8 q9W 191 f191 3 qfN qfS
theorem qqi:qt prog qc q9W.nimp (qH prog q9W.iter 191) (w8 f191 3) (qh qfN qfS (qf q5X)):=gk q9W qe q9 (alc ui aln) aln (b1 func191) func191
noncomputable def qrG:=qa [(242,q8 uw uV qV)] [(191,f191)] [((191,3),qh qfN qfS (qf q5X))] 0
noncomputable def we:=qj qrG 191 f191 true q28 q27
theorem q1u:qP prog qc 191 (q8 q28 q27 we):=sk qrG qe q9 (alc ui aln) (alc (lk func191 qqi) aln) (b1 func191) func191
def qd4:FIn:=⟨[.str],[]⟩
def qcs:List FOut:=[⟨(.tuple [(.int .i64),.any]),[],none⟩]
noncomputable def ju:List PV->TR:=qG0
set_option maxRecDepth 100000 in
theorem qep:qP prog qc 292 (q8 qd4 qcs ju):=qE4 lays172 (yR func292 (by kernel_rfl) (by kernel_rfl))
def q6l:FIn:=⟨[.str,.str],[]⟩
def q57:List FOut:=[⟨(.tuple [(.int .i64),(.int .i64),.bool]),[],none⟩]
noncomputable def qnF:=qa [(292,q8 qd4 qcs ju)] [(237,f237)] [] 0
noncomputable def yg:=qj qnF 237 f237 true q6l q57
theorem q97:qP prog qc 237 (q8 q6l q57 yg):=sk qnF qe q9 (alc qep aln) aln (b1 func237) func237
def q7K:FIn:=⟨[(.int .i64)],[]⟩
def q7D:List FOut:=[⟨(.tuple [.str,(.int .i64)]),[],none⟩]
noncomputable def qkt:=qa [(105,q8 qab qa6 wB)] [(238,f238)] [] 0
noncomputable def kt:=qj qkt 238 f238 true q7K q7D
theorem qei:qP prog qc 238 (q8 q7K q7D kt):=sk qkt qe q9 (alc qa4 aln) aln (b1 func238) func238
def vP:FIn:=⟨[(.ptr 0 0)],[.big [.bool,(.int .i64)] .i64 232]⟩
def vT:List FOut:=[⟨(.ptr 0 0),[.big [.bool,(.int .i64)] .i64 232],none⟩]
def q1J:Tmpl:={ t:=((.ptr 0 0)::ql 28 []),h:=[.big [.bool,(.int .i64)] .i64 232] }
def q1T:List Out:=[⟨(.exit 0),{ t:=((.ptr 0 0)::ql 28 []),h:=[.big [.bool,(.int .i64)] .i64 232] }⟩]
noncomputable def yW:=qa [] [(293,f293)] [] 1
noncomputable def j3:=z8 yW 293 f293 2 q1J q1T
theorem qdf:qt prog qc yW.nimp (qH prog yW.iter 293) (w8 f293 2) (qh q1J q1T (qf j3)):=gk yW qe q9 aln aln (b1 func293) func293
noncomputable def q99:=qa [] [(293,f293)] [((293,2),qh q1J q1T (qf j3))] 1
noncomputable def qL:=qj q99 293 f293 false vP vT
theorem yj:qP prog qc 293 (q8 vP vT qL):=qo7 (E:=q99) qe ⟨q3P q9,⟨aln,aln⟩,(alc (lk func293 qdf) aln),(b1 func293)⟩ func293 (by kernel_rfl) (by kernel_rfl) (fun _=>rfl)
def q4E:FIn:=⟨[.str],[]⟩
def q4N:List FOut:=[⟨(.ptr 0 0),[.big [.bool,(.int .i64)] .i64 232],none⟩]
def qcX:Tmpl:={ t:=(.any::.any::.any::.str::(.ptr 0 0)::ql 43 []),h:=[.big [.bool,(.int .i64)] .i64 232] }
def qdi:List Out:=[⟨(.exit 0),{ t:=(ql 4 ((.ptr 0 0)::ql 43 [])),h:=[.big [.bool,(.int .i64)] .i64 232] }⟩]
noncomputable def qfl:List (FuncId×za):=[(194,q8 jW yd qW),(292,q8 qd4 qcs ju),(293,q8 vP vT qL)]
theorem qka:∀x,x∈qfl->qP prog qc x.1 x.2:=(alc q0N (alc qep (alc yj aln)))
noncomputable def q7R:=qa qfl [(239,f239)] [] 0
noncomputable def q3I:=z8 q7R 239 f239 5 qcX qdi
theorem qoG:qt prog qc q7R.nimp (qH prog q7R.iter 239) (w8 f239 5) (qh qcX qdi (qf q3I)):=gk q7R qe q9 qka aln (b1 func239) func239
noncomputable def qq3:=qa qfl [(239,f239)] [((239,5),qh qcX qdi (qf q3I))] 0
noncomputable def wy:=qj qq3 239 f239 false q4E q4N
theorem q55:qP prog qc 239 (q8 q4E q4N wy):=qo7 (E:=qq3) qe ⟨q3P q9,⟨qka,aln⟩,(alc (lk func239 qoG) aln),(b1 func239)⟩ func239 (by kernel_rfl) (by kernel_rfl) (fun _=>rfl)
def jD:FIn:=⟨[(.ptr 0 0),(.ptr 1 0),(.int .i64),(.int .i64)],[.big [.bool,(.int .i64)] .i64 232,.big [.bool,(.int .i64)] .i64 232]⟩
def jB:List FOut:=[⟨(.tuple []),[.big [.bool,(.int .i64)] .i64 232,.big [.bool,(.int .i64)] .i64 232],none⟩]
def q3i:Tmpl:={ t:=((.ptr 0 0)::(.ptr 1 0)::(.int .i64)::(.int .i64)::ql 4 ((.int .i64)::(.int .i64)::ql 73 [])),h:=[.big [.bool,(.int .i64)] .i64 232,.big [.bool,(.int .i64)] .i64 232] }
def q3j:List Out:=[⟨(.exit 0),{ t:=((.ptr 0 0)::ql 82 []),h:=[.big [.bool,(.int .i64)] .i64 232,.big [.bool,(.int .i64)] .i64 232] }⟩]
noncomputable def kE:=qa [(293,q8 vP vT qL)] [(294,f294)] [] 2
noncomputable def vQ:=z8 kE 294 f294 3 q3i q3j
theorem qfM:qt prog qc kE.nimp (qH prog kE.iter 294) (w8 f294 3) (qh q3i q3j (qf vQ)):=gk kE qe q9 (alc yj aln) aln (b1 func294) func294
noncomputable def qc0:=qa [(293,q8 vP vT qL)] [(294,f294)] [((294,3),qh q3i q3j (qf vQ))] 2
noncomputable def qQ:=qj qc0 294 f294 true jD jB
theorem uL:qP prog qc 294 (q8 jD jB qQ):=sk qc0 qe q9 (alc yj aln) (alc (lk func294 qfM) aln) (b1 func294) func294
def q5I:FIn:=⟨[(.ptr 0 0),(.ptr 1 0)],[.big [.bool,(.int .i64)] .i64 232,.big [.bool,(.int .i64)] .i64 232]⟩
def q59:List FOut:=[⟨(.ptr 2 0),[.big [.bool,(.int .i64)] .i64 232,.big [.bool,(.int .i64)] .i64 232,.big [.bool,(.int .i64)] .i64 232],none⟩]
def q3m:Tmpl:={ t:=((.ptr 0 0)::(.ptr 1 0)::.any::.any::.any::(.ptr 2 0)::ql 15 ((.int .i64)::(.int .i64)::ql 14 [])),h:=[.big [.bool,(.int .i64)] .i64 232,.big [.bool,(.int .i64)] .i64 232,.big [.bool,(.int .i64)] .i64 232] }
def q3g:List Out:=[⟨(.exit 0),{ t:=(ql 5 ((.ptr 2 0)::ql 31 [])),h:=[.big [.bool,(.int .i64)] .i64 232,.big [.bool,(.int .i64)] .i64 232,.big [.bool,(.int .i64)] .i64 232] }⟩]
noncomputable def kx:=qa [(294,q8 jD jB qQ)] [(240,f240)] [] 2
noncomputable def ya:=z8 kx 240 f240 4 q3m q3g
theorem qeP:qt prog qc kx.nimp (qH prog kx.iter 240) (w8 f240 4) (qh q3m q3g (qf ya)):=gk kx qe q9 (alc uL aln) aln (b1 func240) func240
noncomputable def qcn:=qa [(294,q8 jD jB qQ)] [(240,f240)] [((240,4),qh q3m q3g (qf ya))] 2
noncomputable def uW:=qj qcn 240 f240 false q5I q59
theorem qhP:qP prog qc 240 (q8 q5I q59 uW):=qo7 (E:=qcn) qe ⟨q3P q9,⟨(alc uL aln),aln⟩,(alc (lk func240 qeP) aln),(b1 func240)⟩ func240 (by kernel_rfl) (by kernel_rfl) (fun _=>rfl)
def q2Z:FIn:=⟨[(.ptr 0 0)],[.big [.bool,(.int .i64)] .i64 232]⟩
def q2F:List FOut:=[⟨.str,[.big [.bool,(.int .i64)] .i64 232],none⟩]
noncomputable def zb:List PV->TR:=qF9
theorem q3k:qP prog qc 288 (q8 q2Z q2F zb):=qDU (by unfold qc;exact qOm)
def kC:FIn:=⟨[(.ptr 0 0)],[.big [.bool,(.int .i64)] .i64 232]⟩
def kG:List FOut:=[⟨(.tuple [.str,(.int .i64)]),[.big [.bool,(.int .i64)] .i64 232],none⟩]
noncomputable def q9h:=qa [(242,q8 uw uV qV),(288,q8 q2Z q2F zb)] [(241,f241)] [] 1
noncomputable def wg:=qj q9h 241 f241 true kC kG
theorem q5x:qP prog qc 241 (q8 kC kG wg):=sk q9h qe q9 (alc ui (alc q3k aln)) aln (b1 func241) func241
def qaP:FIn:=⟨[.str,.str],[]⟩
def qaS:List FOut:=[⟨(.tuple [.str,(.int .i64)]),[],none⟩]
noncomputable def qtl:=qa [(191,q8 q28 q27 we),(237,q8 q6l q57 yg),(238,q8 q7K q7D kt),(239,q8 q4E q4N wy),(240,q8 q5I q59 uW),(241,q8 kC kG wg)] [(188,f188)] [] 0
noncomputable def q4z:=qj qtl 188 f188 true qaP qaS
theorem qcO:qP prog qc 188 (q8 qaP qaS q4z):=sk qtl qe q9 (alc q1u (alc q97 (alc qei (alc q55 (alc qhP (alc q5x aln)))))) aln (b1 func188) func188
def js:FIn:=⟨[(.ptr 0 0),(.fn 188 [] []),.str,.str],[.cells [(.int .i64)]]⟩
def jk:List FOut:=[⟨.str,[.cells [(.int .i64)]],none⟩]
noncomputable def q3q:=qa [(188,q8 qaP qaS q4z)] [(187,f187)] [] 1
noncomputable def zv:=qj q3q 187 f187 true js jk
theorem q24:qP prog qc 187 (q8 js jk zv):=sk q3q qe q9 (alc qcO aln) aln (b1 func187) func187
def jU:FIn:=⟨[(.ptr 0 0),(.imm [.str])],[.cells [(.int .i64)]]⟩
def jT:List FOut:=[⟨.str,[.cells [(.int .i64)]],none⟩]
def q65:Tmpl:={ t:=(ql 5 (.str::(.fn 187 [(.ptr 0 0)] [])::ql 4 ((.imm [.str])::(.int .i64)::(.int .i64)::ql 9 []))),h:=[.cells [(.int .i64)]] }
def q5b:List Out:=[⟨(.exit 0),{ t:=(ql 5 (.str::ql 17 [])),h:=[.cells [(.int .i64)]] }⟩]
noncomputable def q1X:=qa [(188,q8 qaP qaS q4z),(187,q8 js jk zv)] [(136,f136)] [] 1
noncomputable def jK:=z8 q1X 136 f136 4 q65 q5b
theorem qhT:qt prog qc q1X.nimp (qH prog q1X.iter 136) (w8 f136 4) (qh q65 q5b (qf jK)):=gk q1X qe q9 (alc qcO (alc q24 aln)) aln (b1 func136) func136
noncomputable def qgb:=qa [(188,q8 qaP qaS q4z),(187,q8 js jk zv)] [(136,f136)] [((136,4),qh q65 q5b (qf jK))] 1
noncomputable def qp:=qj qgb 136 f136 true jU jT
theorem yM:qP prog qc 136 (q8 jU jT qp):=sk qgb qe q9 (alc qcO (alc q24 aln)) (alc (lk func136 qhT) aln) (b1 func136) func136
def q0X:FIn:=⟨[(.ptr 0 0),(.ptr 1 0)],[.big [.bool,(.int .i64)] .i64 232,.big [.bool,(.int .i64)] .i64 232]⟩
def q0y:List FOut:=[⟨(.int .i64),[.big [.bool,(.int .i64)] .i64 232,.big [.bool,(.int .i64)] .i64 232],none⟩]
def q2m:Tmpl:={ t:=((.ptr 0 0)::(.ptr 1 0)::.any::.any::.any::(.int .i64)::ql 53 []),h:=[.big [.bool,(.int .i64)] .i64 232,.big [.bool,(.int .i64)] .i64 232] }
def q2l:List Out:=[⟨(.exit 0),{ t:=(ql 59 []),h:=[.big [.bool,(.int .i64)] .i64 232,.big [.bool,(.int .i64)] .i64 232] }⟩,⟨.ret,{ t:=(ql 4 ((.int .i64)::ql 54 [])),h:=[.big [.bool,(.int .i64)] .i64 232,.big [.bool,(.int .i64)] .i64 232] }⟩]
noncomputable def uY:=qa [] [(340,f340)] [] 2
noncomputable def jx:=z8 uY 340 f340 6 q2m q2l
theorem qdI:qt prog qc uY.nimp (qH prog uY.iter 340) (w8 f340 6) (qh q2m q2l (qf jx)):=gk uY qe q9 aln aln (b1 func340) func340
noncomputable def qbh:=qa [] [(340,f340)] [((340,6),qh q2m q2l (qf jx))] 2
noncomputable def wR:=qj qbh 340 f340 true q0X q0y
theorem q6L:qP prog qc 340 (q8 q0X q0y wR):=sk qbh qe q9 aln (alc (lk func340 qdI) aln) (b1 func340) func340
def q32:FIn:=⟨[(.ptr 0 0),(.ptr 1 0)],[.big [.bool,(.int .i64)] .i64 232,.big [.bool,(.int .i64)] .i64 232]⟩
def q2E:List FOut:=[⟨(.tuple []),[.big [.bool,(.int .i64)] .i64 232,.big [.bool,(.int .i64)] .i64 232],none⟩]
noncomputable def qeo:=qa [(294,q8 jD jB qQ),(340,q8 q0X q0y wR)] [(347,f347)] [] 2
noncomputable def vd:=qj qeo 347 f347 true q32 q2E
theorem q9g:qP prog qc 347 (q8 q32 q2E vd):=sk qeo qe q9 (alc uL (alc q6L aln)) aln (b1 func347) func347
def qlu:FIn:=⟨[(.imm [.str])],[]⟩
def qlk:List FOut:=[⟨(.tuple [.str,(.int .i64)]),[],none⟩]
def qfw:Tmpl:={ t:=(ql 4 ((.ptr 0 0)::ql 4 ((.imm [.str])::(.int .i64)::(.int .i64)::ql 12 []))),h:=[.big [.bool,(.int .i64)] .i64 232] }
def qeW:List Out:=[⟨(.exit 0),{ t:=(ql 4 ((.ptr 0 0)::ql 19 [])),h:=[.big [.bool,(.int .i64)] .i64 232] }⟩]
noncomputable def qhI:List (FuncId×za):=[(239,q8 q4E q4N wy),(241,q8 kC kG wg),(347,q8 q32 q2E vd)]
theorem qnR:∀x,x∈qhI->qP prog qc x.1 x.2:=(alc q55 (alc q5x (alc q9g aln)))
noncomputable def q9Z:=qa qhI [(383,f383)] [] 0
noncomputable def q69:=z8 q9Z 383 f383 4 qfw qeW
theorem qqV:qt prog qc q9Z.nimp (qH prog q9Z.iter 383) (w8 f383 4) (qh qfw qeW (qf q69)):=gk q9Z qe q9 qnR aln (b1 func383) func383
noncomputable def qtN:=qa qhI [(383,f383)] [((383,4),qh qfw qeW (qf q69))] 0
noncomputable def qax:=qj qtN 383 f383 true qlu qlk
theorem quz:qP prog qc 383 (q8 qlu qlk qax):=sk qtN qe q9 qnR (alc (lk func383 qqV) aln) (b1 func383) func383
def qaK:FIn:=⟨[.str,.str],[]⟩
def qaQ:List FOut:=[⟨(.tuple [.str,(.int .i64)]),[],none⟩]
noncomputable def qrI:=qa [(191,q8 q28 q27 we),(237,q8 q6l q57 yg),(238,q8 q7K q7D kt),(383,q8 qlu qlk qax)] [(345,f345)] [] 0
noncomputable def q2i:=qj qrI 345 f345 true qaK qaQ
theorem qdo:qP prog qc 345 (q8 qaK qaQ q2i):=sk qrI qe q9 (alc q1u (alc q97 (alc qei (alc quz aln)))) aln (b1 func345) func345
def q87:FIn:=⟨[.str],[]⟩
def q8l:List FOut:=[⟨(.int .i64),[],none⟩]
noncomputable def qq1:=qa [] [(192,f192)] [] 0
noncomputable def yw:=qj qq1 192 f192 true q87 q8l
theorem qap:qP prog qc 192 (q8 q87 q8l yw):=sk qq1 qe q9 aln aln (b1 func192) func192
def q8E:FIn:=⟨[.str],[]⟩
def q90:List FOut:=[⟨.str,[],none⟩]
noncomputable def qgO:=qa [(192,q8 q87 q8l yw)] [(346,f346)] [] 0
noncomputable def q1q:=qj qgO 346 f346 true q8E q90
theorem qlL:qP prog qc 346 (q8 q8E q90 q1q):=sk qgO qe q9 (alc qap aln) aln (b1 func346) func346
def qfV:FIn:=⟨[.str,.str],[]⟩
def qf6:List FOut:=[⟨(.tuple [.str,(.int .i64)]),[],none⟩]
noncomputable def qts:=qa [(191,q8 q28 q27 we),(345,q8 qaK qaQ q2i),(346,q8 q8E q90 q1q)] [(290,f290)] [] 0
noncomputable def q7f:=qj qts 290 f290 true qfV qf6
theorem qk2:qP prog qc 290 (q8 qfV qf6 q7f):=sk qts qe q9 (alc q1u (alc qdo (alc qlL aln))) aln (b1 func290) func290
def kh:FIn:=⟨[(.ptr 0 0),(.fn 290 [] []),.str,.str],[.cells [(.int .i64)]]⟩
def kr:List FOut:=[⟨.str,[.cells [(.int .i64)]],none⟩]
noncomputable def q3v:=qa [(290,q8 qfV qf6 q7f)] [(187,f187)] [] 1
noncomputable def wM:=qj q3v 187 f187 true kh kr
theorem q9s:qP prog qc 187 (q8 kh kr wM):=sk q3v qe q9 (alc qk2 aln) aln (b1 func187) func187
def q42:FIn:=⟨[(.ptr 0 0),.str,.str],[.cells [(.int .i64)]]⟩
def q3W:List FOut:=[⟨.str,[.cells [(.int .i64)]],none⟩]
noncomputable def qgQ:=qa [(290,q8 qfV qf6 q7f),(187,q8 kh kr wM)] [(234,f234)] [] 1
noncomputable def vV:=qj qgQ 234 f234 true q42 q3W
theorem qaL:qP prog qc 234 (q8 q42 q3W vV):=sk qgQ qe q9 (alc qk2 (alc q9s aln)) aln (b1 func234) func234
def q9H:FIn:=⟨[(.ptr 0 0),.str,.str,.str,.str],[.cells [(.int .i64)]]⟩
def q9V:List FOut:=[⟨(.tuple [.str,.str]),[.cells [(.int .i64)]],none⟩]
noncomputable def qm5:=qa [(136,q8 jU jT qp),(234,q8 q42 q3W vV)] [(262,f262)] [] 1
noncomputable def q2B:=qj qm5 262 f262 true q9H q9V
theorem qgz:qP prog qc 262 (q8 q9H q9V q2B):=sk qm5 qe q9 (alc yM (alc qaL aln)) aln (b1 func262) func262
def q1Z:FIn:=⟨[.str,.str],[]⟩
def q21:List FOut:=[⟨(.int .i64),[],none⟩]
noncomputable def vh:List PV->TR:=qAa
set_option maxRecDepth 100000 in
theorem q74:qP prog qc 296 (q8 q1Z q21 vh):=qBk lays219 (yR func296 (by kernel_rfl) (by kernel_rfl))
def u9:FIn:=⟨[.str,.str],[]⟩
def ue:List FOut:=[⟨(.tuple [.str,.str,.bool]),[],none⟩]
noncomputable def q38:=qa [(296,q8 q1Z q21 vh)] [(243,f243)] [] 0
noncomputable def wd:=qj q38 243 f243 true u9 ue
theorem q8H:qP prog qc 243 (q8 u9 ue wd):=sk q38 qe q9 (alc q74 aln) aln (b1 func243) func243
def qfD:FIn:=⟨[.str,.str],[]⟩
def qfj:List FOut:=[⟨(.tuple [.str,.str,.bool]),[],none⟩]
noncomputable def qn2:=qa [(243,q8 u9 ue wd)] [(190,f190)] [] 0
noncomputable def q5j:=qj qn2 190 f190 true qfD qfj
theorem qqB:qP prog qc 190 (q8 qfD qfj q5j):=sk qn2 qe q9 (alc q8H aln) aln (b1 func190) func190
def q12:FIn:=⟨[.str],[]⟩
def q0U:List FOut:=[⟨(.tuple [.str,.str,.bool]),[],none⟩]
noncomputable def qss:=qa [(190,q8 qfD qfj q5j)] [(138,f138)] [] 0
noncomputable def qS:=qj qss 138 f138 true q12 q0U
theorem ka:qP prog qc 138 (q8 q12 q0U qS):=sk qss qe q9 (alc qqB aln) aln (b1 func138) func138
def qdE:FIn:=⟨[.str,.str],[]⟩
def qes:List FOut:=[⟨(.int .i64),[],none⟩]
noncomputable def q2y:List PV->TR:=qri
set_option maxRecDepth 100000 in
theorem qjX:qP prog qc 244 (q8 qdE qes q2y):=qxB lays106 (yR func244 (by kernel_rfl) (by kernel_rfl))
def qeO:FIn:=⟨[.str,.str],[]⟩
def qfo:List FOut:=[⟨(.int .i64),[],none⟩]
noncomputable def qmo:=qa [(244,q8 qdE qes q2y)] [(193,f193)] [] 0
noncomputable def q5J:=qj qmo 193 f193 true qeO qfo
theorem qqR:qP prog qc 193 (q8 qeO qfo q5J):=sk qmo qe q9 (alc qjX aln) aln (b1 func193) func193
def q6v:FIn:=⟨[.str,.str],[]⟩
def q63:List FOut:=[⟨(.tuple [(.int .i64),(.int .i64)]),[],none⟩]
noncomputable def qhm:=qa [(191,q8 q28 q27 we),(192,q8 q87 q8l yw),(193,q8 qeO qfo q5J),(194,q8 jW yd qW)] [(139,f139)] [] 0
noncomputable def yG:=qj qhm 139 f139 true q6v q63
theorem qbU:qP prog qc 139 (q8 q6v q63 yG):=sk qhm qe q9 (alc q1u (alc qap (alc qqR (alc q0N aln)))) aln (b1 func139) func139
def q8M:FIn:=⟨[(.ptr 0 0),(.ptr 1 0)],[.big [.bool,(.int .i64)] .i64 232,.big [.bool,(.int .i64)] .i64 232]⟩
def q8U:List FOut:=[⟨(.int .i64),[.big [.bool,(.int .i64)] .i64 232,.big [.bool,(.int .i64)] .i64 232],none⟩]
noncomputable def qgW:=qa [] [(341,f341),(381,f381)] [] 2
noncomputable def q1m:=qj qgW 341 f341 true q8M q8U
theorem qlg:qP prog qc 341 (q8 q8M q8U q1m):=sk qgW qe q9 aln aln (alc (bk func341) (alc (bk func381) aln)) func341
def q5G:FIn:=⟨[(.ptr 0 0),(.ptr 1 0)],[.big [.bool,(.int .i64)] .i64 232,.big [.bool,(.int .i64)] .i64 232]⟩
def q6r:List FOut:=[⟨(.tuple [(.ptr 2 0),(.ptr 3 0)]),[.big [.bool,(.int .i64)] .i64 232,.big [.bool,(.int .i64)] .i64 232,.big [.bool,(.int .i64)] .i64 232,.big [.bool,(.int .i64)] .i64 232],none⟩]
def q5D:Tmpl:={ t:=((.ptr 0 0)::(.ptr 1 0)::ql 4 ((.ptr 2 0)::(.ptr 3 0)::(.int .i64)::(.int .i64)::ql 80 [])),h:=[.big [.bool,(.int .i64)] .i64 232,.big [.bool,(.int .i64)] .i64 232,.big [.bool,(.int .i64)] .i64 232,.big [.bool,(.int .i64)] .i64 232] }
def q6C:List Out:=[⟨(.exit 2),{ t:=((.ptr 0 0)::(.ptr 1 0)::ql 4 ((.ptr 2 0)::(.ptr 3 0)::(.int .i64)::(.int .i64)::ql 80 [])),h:=[.big [.bool,(.int .i64)] .i64 232,.big [.bool,(.int .i64)] .i64 232,.big [.bool,(.int .i64)] .i64 232,.big [.bool,(.int .i64)] .i64 232] }⟩]
noncomputable def q46:List (FuncId×za):=[(293,q8 vP vT qL),(294,q8 jD jB qQ),(340,q8 q0X q0y wR),(341,q8 q8M q8U q1m)]
theorem q7o:∀x,x∈q46->qP prog qc x.1 x.2:=(alc yj (alc uL (alc q6L (alc qlg aln))))
noncomputable def q1W:=qa q46 [(287,f287)] [] 2
noncomputable def jJ:=z8 q1W 287 f287 14 q5D q6C
theorem qj2:qt prog qc q1W.nimp (qH prog q1W.iter 287) (w8 f287 14) (qh q5D q6C (qf jJ)):=gk q1W qe q9 q7o aln (b1 func287) func287
def q7n:Tmpl:={ t:=((.ptr 0 0)::(.ptr 1 0)::ql 4 ((.ptr 2 0)::(.ptr 3 0)::(.int .i64)::ql 81 [])),h:=[.big [.bool,(.int .i64)] .i64 232,.big [.bool,(.int .i64)] .i64 232,.big [.bool,(.int .i64)] .i64 232,.big [.bool,(.int .i64)] .i64 232] }
def q7i:List Out:=[⟨(.exit 0),{ t:=(ql 6 ((.ptr 2 0)::(.ptr 3 0)::ql 82 [])),h:=[.big [.bool,(.int .i64)] .i64 232,.big [.bool,(.int .i64)] .i64 232,.big [.bool,(.int .i64)] .i64 232,.big [.bool,(.int .i64)] .i64 232] }⟩]
noncomputable def q2Q:=qa q46 [(287,f287)] [((287,14),qh q5D q6C (qf jJ))] 2
noncomputable def kR:=z8 q2Q 287 f287 4 q7n q7i
theorem qjW:qt prog qc q2Q.nimp (qH prog q2Q.iter 287) (w8 f287 4) (qh q7n q7i (qf kR)):=gk q2Q qe q9 q7o (alc (lk func287 qj2) aln) (b1 func287) func287
noncomputable def qiL:=qa q46 [(287,f287)] [((287,4),qh q7n q7i (qf kR))] 2
noncomputable def yI:=qj qiL 287 f287 false q5G q6r
theorem qci:qP prog qc 287 (q8 q5G q6r yI):=qo7 (E:=qiL) qe ⟨q3P q9,⟨q7o,aln⟩,(alc (lk func287 qjW) aln),(b1 func287)⟩ func287 (by kernel_rfl) (by kernel_rfl) (fun _=>rfl)
def qah:FIn:=⟨[.str,.str],[]⟩
def qat:List FOut:=[⟨(.tuple [.str,(.int .i64)]),[],none⟩]
def qdA:Tmpl:={ t:=(ql 9 ((.int .i64)::(.int .i64)::ql 61 [])),h:=[] }
def qcD:List Out:=[⟨(.exit 2),{ t:=(ql 9 ((.int .i64)::ql 62 [])),h:=[] }⟩]
noncomputable def qbG:List (FuncId×za):=[(105,q8 qab qa6 wB),(191,q8 q28 q27 we),(239,q8 q4E q4N wy),(287,q8 q5G q6r yI),(288,q8 q2Z q2F zb)]
theorem qeQ:∀x,x∈qbG->qP prog qc x.1 x.2:=(alc qa4 (alc q1u (alc q55 (alc qci (alc q3k aln)))))
noncomputable def q7T:=qa qbG [(232,f232)] [] 0
noncomputable def q1D:=z8 q7T 232 f232 14 qdA qcD
theorem qor:qt prog qc q7T.nimp (qH prog q7T.iter 232) (w8 f232 14) (qh qdA qcD (qf q1D)):=gk q7T qe q9 qeQ aln (b1 func232) func232
def qfz:Tmpl:={ t:=(ql 7 ((.ptr 1 0)::(.ptr 2 0)::ql 63 [])),h:=[.dead,.big [.bool,(.int .i64)] .i64 232,.big [.bool,(.int .i64)] .i64 232],sw:=[(7,1),(8,2)],swn:=0 }
def qeK:List Out:=[⟨(.exit 0),{ t:=(ql 7 ((.ptr 1 0)::ql 64 [])),h:=[.dead,.big [.bool,(.int .i64)] .i64 232] }⟩,⟨.ret,{ t:=(ql 4 (.str::(.int .i64)::ql 66 [])),h:=[] }⟩]
noncomputable def q9U:=qa qbG [(232,f232)] [((232,14),qh qdA qcD (qf q1D))] 0
noncomputable def q64:=z8 q9U 232 f232 7 qfz qeK
theorem qqn:qt prog qc q9U.nimp (qH prog q9U.iter 232) (w8 f232 7) (qh qfz qeK (qf q64)):=gk q9U qe q9 qeQ (alc (lk func232 qor) aln) (b1 func232) func232
noncomputable def qsz:=qa qbG [(232,f232)] [((232,7),qh qfz qeK (qf q64))] 0
noncomputable def q2p:=qj qsz 232 f232 true qah qat
theorem qcB:qP prog qc 232 (q8 qah qat q2p):=sk qsz qe q9 qeQ (alc (lk func232 qqn) aln) (b1 func232) func232
def q0K:FIn:=⟨[.str],[]⟩
def q0v:List FOut:=[⟨(.int .i64),[],none⟩]
noncomputable def qmW:=qa [(138,q8 q12 q0U qS),(139,q8 q6v q63 yG),(232,q8 qah qat q2p),(242,q8 uw uV qV)] [(189,f189)] [] 0
noncomputable def zp:=qj qmW 189 f189 true q0K q0v
theorem q1h:qP prog qc 189 (q8 q0K q0v zp):=sk qmW qe q9 (alc ka (alc qbU (alc qcB (alc ui aln)))) aln (b1 func189) func189
def vt:FIn:=⟨[(.imm [.str])],[]⟩
def vr:List FOut:=[⟨(.int .i64),[],none⟩]
def q8r:Tmpl:={ t:=(ql 6 ((.imm [.str])::(.int .i64)::(.int .i64)::ql 9 [])),h:=[] }
def q8G:List Out:=[⟨(.exit 0),{ t:=(ql 18 []),h:=[] }⟩,⟨.ret,{ t:=(.any::.any::(.int .i64)::ql 15 []),h:=[] }⟩]
noncomputable def q4g:=qa [(189,q8 q0K q0v zp)] [(137,f137)] [] 0
noncomputable def q16:=z8 q4g 137 f137 3 q8r q8G
theorem qlK:qt prog qc q4g.nimp (qH prog q4g.iter 137) (w8 f137 3) (qh q8r q8G (qf q16)):=gk q4g qe q9 (alc q1h aln) aln (b1 func137) func137
noncomputable def qkV:=qa [(189,q8 q0K q0v zp)] [(137,f137)] [((137,3),qh q8r q8G (qf q16))] 0
noncomputable def qA:=qj qkV 137 f137 true vt vr
theorem ve:qP prog qc 137 (q8 vt vr qA):=sk qkV qe q9 (alc q1h aln) (alc (lk func137 qlK) aln) (b1 func137) func137
def q4q:FIn:=⟨[.str,.str],[]⟩
def q4v:List FOut:=[⟨.bool,[],none⟩]
noncomputable def qb3:=qa [(289,q8 zI zJ qC)] [(233,f233)] [] 0
noncomputable def yO:=qj qb3 233 f233 true q4q q4v
theorem qh7:qP prog qc 233 (q8 q4q q4v yO):=sk qb3 qe q9 (alc yJ aln) aln (b1 func233) func233
def qcY:FIn:=⟨[.str,.str],[]⟩
def qds:List FOut:=[⟨.str,[],none⟩]
noncomputable def qks:=qa [] [(235,f235)] [] 0
noncomputable def q1w:=qj qks 235 f235 true qcY qds
theorem qoD:qP prog qc 235 (q8 qcY qds q1w):=sk qks qe q9 aln aln (b1 func235) func235
def qdq:FIn:=⟨[.str,.str],[]⟩
def qdz:List FOut:=[⟨(.tuple [.str,.str,(.int .i64)]),[],none⟩]
noncomputable def qkX:=qa [(105,q8 qab qa6 wB),(191,q8 q28 q27 we),(237,q8 q6l q57 yg),(239,q8 q4E q4N wy),(287,q8 q5G q6r yI),(288,q8 q2Z q2F zb),(347,q8 q32 q2E vd)] [(291,f291)] [] 0
noncomputable def q3s:=qj qkX 291 f291 true qdq qdz
theorem qp5:qP prog qc 291 (q8 qdq qdz q3s):=sk qkX qe q9 (alc qa4 (alc q1u (alc q97 (alc q55 (alc qci (alc q3k (alc q9g aln))))))) aln (b1 func291) func291
def qf0:FIn:=⟨[.str,.str],[]⟩
def qfb:List FOut:=[⟨(.tuple [.str,(.int .i64)]),[],none⟩]
noncomputable def qtz:=qa [(242,q8 uw uV qV),(291,q8 qdq qdz q3s)] [(236,f236)] [] 0
noncomputable def q7s:=qj qtz 236 f236 true qf0 qfb
theorem qkr:qP prog qc 236 (q8 qf0 qfb q7s):=sk qtz qe q9 (alc ui (alc qp5 aln)) aln (b1 func236) func236
def ji:FIn:=⟨[(.ptr 0 0),(.fn 232 [] []),.str,.str],[.cells [(.int .i64)]]⟩
def ko:List FOut:=[⟨.str,[.cells [(.int .i64)]],none⟩]
noncomputable def q3x:=qa [(232,q8 qah qat q2p)] [(187,f187)] [] 1
noncomputable def wK:=qj q3x 187 f187 true ji ko
theorem q9p:qP prog qc 187 (q8 ji ko wK):=sk q3x qe q9 (alc qcB aln) aln (b1 func187) func187
def jt:FIn:=⟨[(.ptr 0 0),(.fn 236 [] []),.str,.str],[.cells [(.int .i64)]]⟩
def ke:List FOut:=[⟨.str,[.cells [(.int .i64)]],none⟩]
noncomputable def q3z:=qa [(236,q8 qf0 qfb q7s)] [(187,f187)] [] 1
noncomputable def qN:=qj q3z 187 f187 true jt ke
theorem q9S:qP prog qc 187 (q8 jt ke qN):=sk q3z qe q9 (alc qkr aln) aln (b1 func187) func187
def ja:FIn:=⟨[(.ptr 0 0),.str,.str],[.cells [(.int .i64)]]⟩
def jd:List FOut:=[⟨.str,[.cells [(.int .i64)]],none⟩]
noncomputable def qbc:=qa [(232,q8 qah qat q2p),(233,q8 q4q q4v yO),(234,q8 q42 q3W vV),(235,q8 qcY qds q1w),(236,q8 qf0 qfb q7s),(187,qNB [(ji,q8 ji ko wK),(jt,q8 jt ke qN)])] [(186,f186)] [] 1
noncomputable def qT:=qj qbc 186 f186 true ja jd
theorem yV:qP prog qc 186 (q8 ja jd qT):=sk qbc qe q9 (alc qcB (alc qh7 (alc qaL (alc qoD (alc qkr (alc (qI3 (yR func187 (by kernel_rfl) (by kernel_rfl)) (qCp q9p (qCp q9S qKs))) aln)))))) aln (b1 func186) func186
def q0b:FIn:=⟨[.str,.str,(.fn 262 [] [])],[]⟩
def kS:List FOut:=[⟨(.tuple [.str,(.int .i64)]),[],none⟩]
noncomputable def q4W:=qa [(137,q8 vt vr qA),(138,q8 q12 q0U qS),(186,q8 ja jd qT),(262,q8 q9H q9V q2B)] [(134,f134)] [] 0
noncomputable def wT:=qj q4W 134 f134 true q0b kS
theorem qbn:qP prog qc 134 (q8 q0b kS wT):=sk q4W qe q9 (alc ve (alc ka (alc yV (alc qgz aln)))) aln (b1 func134) func134
def qfa:FIn:=⟨[.str,.str],[]⟩
def qfg:List FOut:=[⟨(.tuple [.str,(.int .i64)]),[],none⟩]
noncomputable def qsC:=qa [(262,q8 q9H q9V q2B),(134,q8 q0b kS wT)] [(210,f210)] [] 0
noncomputable def wn:=qj qsC 210 f210 true qfa qfg
theorem qd7:qP prog qc 210 (q8 qfa qfg wn):=sk qsC qe q9 (alc qgz (alc qbn aln)) aln (b1 func210) func210
def wX:FIn:=⟨[(.agg [(.int .i64),(.int .i64),(.int .i64)])],[]⟩
def wV:List FOut:=[⟨(.agg [(.int .i64),(.int .i64),(.int .i64)]),[],none⟩]
noncomputable def q82:=qa [] [(281,f281)] [] 0
noncomputable def qB:=qj q82 281 f281 true wX wV
theorem jA:qP prog qc 281 (q8 wX wV qB):=sk q82 qe q9 aln aln (b1 func281) func281
def qfu:FIn:=⟨[(.agg [(.int .i64),(.int .i64),(.int .i64)]),(.agg [(.int .i64),(.int .i64),(.int .i64)]),(.agg [(.int .i64),(.int .i64),(.int .i64)])],[]⟩
def qfG:List FOut:=[⟨(.int .i64),[],none⟩]
def qbj:Tmpl:={ t:=(ql 7 ((.ptr 3 0)::(.ptr 4 0)::(.ptr 5 0)::(.int .i64)::ql 7 ((.int .i64)::ql 21 []))),h:=[.dead,.dead,.dead,.cells [(.int .i64),(.int .i64),(.int .i64)],.cells [(.int .i64),(.int .i64),(.int .i64)],.cells [(.int .i64),(.int .i64),(.int .i64)]] }
def qaV:List Out:=[⟨(.exit 0),{ t:=(ql 10 ((.int .i64)::ql 29 [])),h:=[] }⟩]
noncomputable def q6y:=qa [(281,q8 wX wV qB)] [(276,f276)] [] 0
noncomputable def q0i:=z8 q6y 276 f276 5 qbj qaV
theorem qmi:qt prog qc q6y.nimp (qH prog q6y.iter 276) (w8 f276 5) (qh qbj qaV (qf q0i)):=gk q6y qe q9 (alc jA aln) aln (b1 func276) func276
noncomputable def qn4:=qa [(281,q8 wX wV qB)] [(276,f276)] [((276,5),qh qbj qaV (qf q0i))] 0
noncomputable def q0L:=qj qn4 276 f276 true qfu qfG
theorem qqS:qP prog qc 276 (q8 qfu qfG q0L):=sk qn4 qe q9 (alc jA aln) (alc (lk func276 qmi) aln) (b1 func276) func276
def q9o:FIn:=⟨[(.int .i64)],[]⟩
def q9Y:List FOut:=[⟨.bool,[],none⟩]
noncomputable def qmg:=qa [] [(325,f325)] [] 0
noncomputable def vE:=qj qmg 325 f325 true q9o q9Y
theorem qgU:qP prog qc 325 (q8 q9o q9Y vE):=sk qmg qe q9 aln aln (b1 func325) func325
def q2G:FIn:=⟨[(.int .i64),(.int .i64),(.ptr 0 0),(.ptr 1 0)],[.cells [(.imm [(.int .i64)])],.cells [(.int .i64)]]⟩
def q2S:List FOut:=[⟨.str,[.cells [(.imm [(.int .i64)])],.cells [(.int .i64)]],none⟩]
noncomputable def qmZ:=qa [(53,q8 q2A q2W wP)] [(327,f327)] [] 2
noncomputable def uH:=qj qmZ 327 f327 true q2G q2S
theorem q40:qP prog qc 327 (q8 q2G q2S uH):=sk qmZ qe q9 (alc q49 aln) aln (b1 func327) func327
def qfv:FIn:=⟨[(.int .i64),(.int .i64),(.fn 327 [] [(.ptr 0 0),(.ptr 1 0)])],[.cells [(.imm [(.int .i64)])],.cells [(.int .i64)]]⟩
def qfK:List FOut:=[⟨(.agg [(.int .i64),(.int .i64),(.imm [.str])]),[.cells [(.imm [(.int .i64)])],.cells [(.int .i64)]],none⟩]
def q8s:Tmpl:={ t:=(.any::(.int .i64)::(.fn 327 [] [(.ptr 0 0),(.ptr 1 0)])::.any::.any::.any::(.ptr 2 0)::(.ptr 3 0)::(.int .i64)::ql 4 ((.int .i64)::(.int .i64)::.any::.any::(.int .i64)::(.int .i64)::ql 14 [])),h:=[.cells [(.imm [(.int .i64)])],.cells [(.int .i64)],.cells [(.int .i64),(.int .i64),.nils],.cells [(.int .i64),(.int .i64),(.vec 4)],.vec 108 [.str]] }
def q8L:List Out:=[⟨(.exit 2),{ t:=(.any::(.int .i64)::(.fn 327 [] [(.ptr 0 0),(.ptr 1 0)])::.any::.any::.any::(.ptr 2 0)::(.ptr 3 0)::ql 5 ((.int .i64)::(.int .i64)::ql 18 [])),h:=[.cells [(.imm [(.int .i64)])],.cells [(.int .i64)],.cells [(.int .i64),(.int .i64),.nils],.cells [(.int .i64),(.int .i64),(.vec 4)],.vec 108 [.str]] }⟩]
noncomputable def q4a:=qa [(327,q8 q2G q2S uH)] [(326,f326)] [] 2
noncomputable def ul:=z8 q4a 326 f326 10 q8s q8L
theorem qlP:qt prog qc q4a.nimp (qH prog q4a.iter 326) (w8 f326 10) (qh q8s q8L (qf ul)):=gk q4a qe q9 (alc q40 aln) aln (b1 func326) func326
def qaE:Tmpl:={ t:=(.any::(.int .i64)::(.fn 327 [] [(.ptr 0 0),(.ptr 1 0)])::.any::.any::.any::(.ptr 2 0)::(.ptr 3 0)::ql 5 ((.int .i64)::(.int .i64)::ql 18 [])),h:=[.cells [(.imm [(.int .i64)])],.cells [(.int .i64)],.cells [(.int .i64),(.int .i64),.nils],.cells [(.int .i64),(.int .i64),(.vec 4)],.vec 108 [.str]],prc:=[(7,2,108,[.str])] }
def qaC:List Out:=[⟨(.exit 0),{ t:=(ql 6 ((.ptr 2 0)::(.ptr 3 0)::ql 25 [])),h:=[.cells [(.imm [(.int .i64)])],.cells [(.int .i64)],.cells [(.int .i64),(.int .i64),.nils],.cells [(.int .i64),(.int .i64),(.vec 4)],.vec 108 [.str]] }⟩]
noncomputable def q5p:=qa [(327,q8 q2G q2S uH)] [(326,f326)] [((326,10),qh q8s q8L (qf ul))] 2
noncomputable def q0d:=z8 q5p 326 f326 4 qaE qaC
theorem qma:qt prog qc q5p.nimp (qH prog q5p.iter 326) (w8 f326 4) (qh qaE qaC (qf q0d)):=gk q5p qe q9 (alc q40 aln) (alc (lk func326 qlP) aln) (b1 func326) func326
noncomputable def qmF:=qa [(327,q8 q2G q2S uH)] [(326,f326)] [((326,4),qh qaE qaC (qf q0d))] 2
noncomputable def q5m:=qj qmF 326 f326 true qfv qfK
theorem qqt:qP prog qc 326 (q8 qfv qfK q5m):=sk qmF qe q9 (alc q40 aln) (alc (lk func326 qma) aln) (b1 func326) func326
def qm3:FIn:=⟨[(.int .i64),(.int .i64),(.imm [(.int .i64)])],[]⟩
def qlB:List FOut:=[⟨(.tuple [(.agg [(.int .i64),(.int .i64),(.imm [.str])]),(.int .i64)]),[],none⟩]
noncomputable def qsi:=qa [(325,q8 q9o q9Y vE),(326,q8 qfv qfK q5m),(327,q8 q2G q2S uH)] [(277,f277)] [] 0
noncomputable def qar:=qj qsi 277 f277 true qm3 qlB
theorem qv1:qP prog qc 277 (q8 qm3 qlB qar):=sk qsi qe q9 (alc qgU (alc qqt (alc q40 aln))) aln (b1 func277) func277
def q48:FIn:=⟨[(.imm [.str])],[]⟩
def q44:List FOut:=[⟨(.int .i64),[],none⟩]
def q5y:Tmpl:={ t:=(ql 6 ((.imm [.str])::(.int .i64)::(.int .i64)::ql 9 [])),h:=[] }
def q67:List Out:=[⟨(.exit 0),{ t:=(ql 18 []),h:=[] }⟩,⟨.ret,{ t:=(.any::.any::(.int .i64)::ql 15 []),h:=[] }⟩]
noncomputable def q1Y:=qa [(189,q8 q0K q0v zp)] [(333,f333)] [] 0
noncomputable def jL:=z8 q1Y 333 f333 3 q5y q67
theorem qir:qt prog qc q1Y.nimp (qH prog q1Y.iter 333) (w8 f333 3) (qh q5y q67 (qf jL)):=gk q1Y qe q9 (alc q1h aln) aln (b1 func333) func333
noncomputable def qh0:=qa [(189,q8 q0K q0v zp)] [(333,f333)] [((333,3),qh q5y q67 (qf jL))] 0
noncomputable def vU:=qj qh0 333 f333 true q48 q44
theorem qba:qP prog qc 333 (q8 q48 q44 vU):=sk qh0 qe q9 (alc q1h aln) (alc (lk func333 qir) aln) (b1 func333) func333
def qcM:FIn:=⟨[(.agg [(.int .i64),(.int .i64),(.imm [.str])])],[]⟩
def qdl:List FOut:=[⟨(.int .i64),[],none⟩]
noncomputable def qkl:=qa [(325,q8 q9o q9Y vE),(333,q8 q48 q44 vU)] [(328,f328)] [] 0
noncomputable def jq:=qj qkl 328 f328 true qcM qdl
theorem qew:qP prog qc 328 (q8 qcM qdl jq):=sk qkl qe q9 (alc qgU (alc qba aln)) aln (b1 func328) func328
def q9q:FIn:=⟨[(.ptr 0 0),.str,.str,.str,.str],[.cells [(.int .i64)]]⟩
def q9x:List FOut:=[⟨(.tuple [.str,.str]),[.cells [(.int .i64)]],none⟩]
noncomputable def qnC:=qa [(136,q8 jU jT qp)] [(135,f135)] [] 1
noncomputable def q37:=qj qnC 135 f135 true q9q q9x
theorem qgS:qP prog qc 135 (q8 q9q q9x q37):=sk qnC qe q9 (alc yM aln) aln (b1 func135) func135
def kO:FIn:=⟨[.str,.str,(.fn 135 [] [])],[]⟩
def q0e:List FOut:=[⟨(.tuple [.str,(.int .i64)]),[],none⟩]
noncomputable def q4J:=qa [(135,q8 q9q q9x q37),(137,q8 vt vr qA),(138,q8 q12 q0U qS),(186,q8 ja jd qT)] [(134,f134)] [] 0
noncomputable def wZ:=qj q4J 134 f134 true kO q0e
theorem qaU:qP prog qc 134 (q8 kO q0e wZ):=sk q4J qe q9 (alc qgS (alc ve (alc ka (alc yV aln)))) aln (b1 func134) func134
def q71:FIn:=⟨[.str,.str],[]⟩
def q7p:List FOut:=[⟨(.tuple [.str,(.int .i64)]),[],none⟩]
noncomputable def qsK:=qa [(135,q8 q9q q9x q37),(134,q8 kO q0e wZ)] [(77,f77)] [] 0
noncomputable def vK:=qj qsK 77 f77 true q71 q7p
theorem q3B:qP prog qc 77 (q8 q71 q7p vK):=sk qsK qe q9 (alc qgS (alc qaU aln)) aln (b1 func77) func77
def q9y:FIn:=⟨[(.ptr 0 0),.str,.str,.str,.str],[.cells [(.int .i64)]]⟩
def q9C:List FOut:=[⟨(.tuple [.str,.str]),[.cells [(.int .i64)]],none⟩]
noncomputable def qnG:=qa [(136,q8 jU jT qp)] [(372,f372)] [] 1
noncomputable def q34:=qj qnG 372 f372 true q9y q9C
theorem qg8:qP prog qc 372 (q8 q9y q9C q34):=sk qnG qe q9 (alc yM aln) aln (b1 func372) func372
def q0c:FIn:=⟨[.str,.str,(.fn 372 [] [])],[]⟩
def kL:List FOut:=[⟨(.tuple [.str,(.int .i64)]),[],none⟩]
noncomputable def q4M:=qa [(137,q8 vt vr qA),(138,q8 q12 q0U qS),(186,q8 ja jd qT),(372,q8 q9y q9C q34)] [(134,f134)] [] 0
noncomputable def v8:=qj q4M 134 f134 true q0c kL
theorem qak:qP prog qc 134 (q8 q0c kL v8):=sk q4M qe q9 (alc ve (alc ka (alc yV (alc qg8 aln)))) aln (b1 func134) func134
def qtH:FIn:=⟨[.str,.str],[]⟩
def qtu:List FOut:=[⟨(.tuple [.str,(.int .i64)]),[],none⟩]
noncomputable def qs2:=qa [(137,q8 vt vr qA),(372,q8 q9y q9C q34),(134,q8 q0c kL v8)] [(315,f315)] [] 0
noncomputable def q4i:=qj qs2 315 f315 true qtH qtu
theorem qul:qP prog qc 315 (q8 qtH qtu q4i):=sk qs2 qe q9 (alc ve (alc qg8 (alc qak aln))) aln (b1 func315) func315
def qgF:FIn:=⟨[(.agg [(.int .i64),(.int .i64),(.imm [.str])])],[]⟩
def qgy:List FOut:=[⟨(.tuple [(.agg [(.int .i64),(.int .i64),(.imm [.str])]),(.int .i64)]),[],none⟩]
noncomputable def jS:List PV->TR:=qLz jq vK q4i wn
theorem qlj:qP prog qc 278 (q8 qgF qgy jS):=qGt qew q3B qul qd7
def kj:FIn:=⟨[(.ptr 0 0),(.fn 345 [] []),.str,.str],[.cells [(.int .i64)]]⟩
def ku:List FOut:=[⟨.str,[.cells [(.int .i64)]],none⟩]
noncomputable def q3w:=qa [(345,q8 qaK qaQ q2i)] [(187,f187)] [] 1
noncomputable def wN:=qj q3w 187 f187 true kj ku
theorem q9u:qP prog qc 187 (q8 kj ku wN):=sk q3w qe q9 (alc qdo aln) aln (b1 func187) func187
def q8F:FIn:=⟨[(.ptr 0 0),.str,.str],[.cells [(.int .i64)]]⟩
def q8t:List FOut:=[⟨.str,[.cells [(.int .i64)]],none⟩]
noncomputable def qgk:=qa [(345,q8 qaK qaQ q2i),(187,q8 kj ku wN)] [(365,f365)] [] 1
noncomputable def q1e:=qj qgk 365 f365 true q8F q8t
theorem qlA:qP prog qc 365 (q8 q8F q8t q1e):=sk qgk qe q9 (alc qdo (alc q9u aln)) aln (b1 func365) func365
def q9E:FIn:=⟨[(.ptr 0 0),.str,.str,.str,.str],[.cells [(.int .i64)]]⟩
def q9M:List FOut:=[⟨(.tuple [.str,.str]),[.cells [(.int .i64)]],none⟩]
noncomputable def qnW:=qa [(136,q8 jU jT qp),(365,q8 q8F q8t q1e)] [(364,f364)] [] 1
noncomputable def q2D:=qj qnW 364 f364 true q9E q9M
theorem qgd:qP prog qc 364 (q8 q9E q9M q2D):=sk qnW qe q9 (alc yM (alc qlA aln)) aln (b1 func364) func364
def q0l:FIn:=⟨[.str,.str,(.fn 364 [] [])],[]⟩
def kI:List FOut:=[⟨(.tuple [.str,(.int .i64)]),[],none⟩]
noncomputable def q4Q:=qa [(137,q8 vt vr qA),(138,q8 q12 q0U qS),(186,q8 ja jd qT),(364,q8 q9E q9M q2D)] [(134,f134)] [] 0
noncomputable def wY:=qj q4Q 134 f134 true q0l kI
theorem qay:qP prog qc 134 (q8 q0l kI wY):=sk q4Q qe q9 (alc ve (alc ka (alc yV (alc qgd aln)))) aln (b1 func134) func134
def q4h:FIn:=⟨[.str,.str],[]⟩
def q4p:List FOut:=[⟨(.tuple [.str,(.int .i64)]),[],none⟩]
noncomputable def qtE:=qa [(364,q8 q9E q9M q2D),(134,q8 q0l kI wY)] [(305,f305)] [] 0
noncomputable def yQ:=qj qtE 305 f305 true q4h q4p
theorem q3A:qP prog qc 305 (q8 q4h q4p yQ):=sk qtE qe q9 (alc qgd (alc qay aln)) aln (b1 func305) func305
def q0W:FIn:=⟨[(.ptr 0 0),.str,(.int .i64)],[.cells [(.int .i64)]]⟩
def q0H:List FOut:=[⟨.str,[.cells [(.int .i64)]],none⟩]
noncomputable def qb1:=qa [] [(380,f380)] [] 1
noncomputable def wQ:=qj qb1 380 f380 true q0W q0H
theorem q6M:qP prog qc 380 (q8 q0W q0H wQ):=sk qb1 qe q9 aln aln (b1 func380) func380
def q60:FIn:=⟨[(.ptr 0 0),.str,.str],[.cells [(.int .i64)]]⟩
def q5c:List FOut:=[⟨.str,[.cells [(.int .i64)]],none⟩]
noncomputable def qbB:=qa [(305,q8 q4h q4p yQ),(380,q8 q0W q0H wQ)] [(334,f334)] [] 1
noncomputable def ur:=qj qbB 334 f334 true q60 q5c
theorem qhr:qP prog qc 334 (q8 q60 q5c ur):=sk qbB qe q9 (alc q3A (alc q6M aln)) aln (b1 func334) func334
def q6d:FIn:=⟨[(.ptr 0 0),.str,.str],[.cells [(.int .i64)]]⟩
def q6s:List FOut:=[⟨.str,[.cells [(.int .i64)]],none⟩]
noncomputable def qbZ:=qa [(77,q8 q71 q7p vK),(380,q8 q0W q0H wQ)] [(335,f335)] [] 1
noncomputable def uA:=qj qbZ 335 f335 true q6d q6s
theorem qiM:qP prog qc 335 (q8 q6d q6s uA):=sk qbZ qe q9 (alc q3B (alc q6M aln)) aln (b1 func335) func335
def qcW:FIn:=⟨[(.agg [(.int .i64),(.int .i64),(.imm [.str])]),(.int .i64),(.int .i64)],[]⟩
def qct:List FOut:=[⟨.str,[],none⟩]
noncomputable def qkS:=qa [] [(336,f336)] [] 0
noncomputable def q3N:=qj qkS 336 f336 true qcW qct
theorem qp1:qP prog qc 336 (q8 qcW qct q3N):=sk qkS qe q9 aln aln (b1 func336) func336
def qcz:FIn:=⟨[(.agg [(.int .i64),(.int .i64),(.imm [.str])]),(.imm [.str])],[]⟩
def qd1:List FOut:=[⟨(.tuple [(.imm [.str]),(.int .i64)]),[],none⟩]
def q7l:Tmpl:={ t:=(.any::(.imm [.str])::(.ptr 0 0)::ql 5 ((.ptr 1 0)::(.vec 2)::(.int .i64)::.str::ql 20 ((.int .i64)::(.int .i64)::.any::.any::(.imm [.str])::(.int .i64)::(.int .i64)::ql 30 []))),h:=[.cells [(.int .i64),(.int .i64),(.imm [.str])],.cells [(.int .i64)],.vec 108 [.str]] }
def q7m:List Out:=[⟨(.exit 2),{ t:=(.any::(.imm [.str])::(.ptr 0 0)::ql 5 ((.ptr 1 0)::(.vec 2)::.any::.str::ql 20 ((.int .i64)::(.int .i64)::ql 35 []))),h:=[.cells [(.int .i64),(.int .i64),(.imm [.str])],.cells [(.int .i64)],.vec 108 [.str]] }⟩]
noncomputable def q5C:List (FuncId×za):=[(328,q8 qcM qdl jq),(333,q8 q48 q44 vU),(334,q8 q60 q5c ur),(335,q8 q6d q6s uA),(336,q8 qcW qct q3N)]
theorem q8z:∀x,x∈q5C->qP prog qc x.1 x.2:=(alc qew (alc qba (alc qhr (alc qiM (alc qp1 aln)))))
noncomputable def q2P:=qa q5C [(279,f279)] [] 0
noncomputable def yD:=z8 q2P 279 f279 24 q7l q7m
theorem qjR:qt prog qc q2P.nimp (qH prog q2P.iter 279) (w8 f279 24) (qh q7l q7m (qf yD)):=gk q2P qe q9 q8z aln (b1 func279) func279
def q77:Tmpl:={ t:=(.any::(.imm [.str])::(.ptr 0 0)::ql 5 ((.ptr 1 0)::(.vec 2)::ql 22 ((.int .i64)::(.int .i64)::ql 35 []))),h:=[.cells [(.int .i64),(.int .i64),(.imm [.str])],.cells [(.int .i64)],.vec 108 [.str]],pro:=[(9,108,[.str])] }
def q7d:List Out:=[⟨(.exit 0),{ t:=(ql 8 ((.ptr 1 0)::(.vec 2)::ql 59 [])),h:=[.dead,.cells [(.int .i64)],.vec 108 [.str]] }⟩]
noncomputable def q36:=qa q5C [(279,f279)] [((279,24),qh q7l q7m (qf yD))] 0
noncomputable def yx:=z8 q36 279 f279 16 q77 q7d
theorem qjN:qt prog qc q36.nimp (qH prog q36.iter 279) (w8 f279 16) (qh q77 q7d (qf yx)):=gk q36 qe q9 q8z (alc (lk func279 qjR) aln) (b1 func279) func279
noncomputable def qkR:=qa q5C [(279,f279)] [((279,16),qh q77 q7d (qf yx))] 0
noncomputable def q3p:=qj qkR 279 f279 true qcz qd1
theorem qp4:qP prog qc 279 (q8 qcz qd1 q3p):=sk qkR qe q9 q8z (alc (lk func279 qjN) aln) (b1 func279) func279
def qlW:FIn:=⟨[(.imm [.str])],[]⟩
def qll:List FOut:=[⟨(.tuple [.str,(.int .i64)]),[],none⟩]
def qcI:Tmpl:={ t:=(ql 5 (.str::ql 12 ((.imm [.str])::(.int .i64)::(.int .i64)::ql 15 []))),h:=[] }
def qdk:List Out:=[⟨(.exit 0),{ t:=(ql 5 (.str::ql 30 [])),h:=[] }⟩,⟨.ret,{ t:=(.any::.any::.str::(.int .i64)::ql 32 []),h:=[] }⟩]
noncomputable def q7A:=qa [(137,q8 vt vr qA),(305,q8 q4h q4p yQ)] [(280,f280)] [] 0
noncomputable def q1t:=z8 q7A 280 f280 11 qcI qdk
theorem qoO:qt prog qc q7A.nimp (qH prog q7A.iter 280) (w8 f280 11) (qh qcI qdk (qf q1t)):=gk q7A qe q9 (alc ve (alc q3A aln)) aln (b1 func280) func280
noncomputable def qs8:=qa [(137,q8 vt vr qA),(305,q8 q4h q4p yQ)] [(280,f280)] [((280,11),qh qcI qdk (qf q1t))] 0
noncomputable def qaT:=qj qs8 280 f280 true qlW qll
theorem qvk:qP prog qc 280 (q8 qlW qll qaT):=sk qs8 qe q9 (alc ve (alc q3A aln)) (alc (lk func280 qoO) aln) (b1 func280) func280
def zU:FIn:=⟨[(.imm [.str]),(.imm [.str])],[]⟩
def zX:List FOut:=[⟨(.tuple [.str,(.int .i64)]),[],none⟩]
def vF:Tmpl:={ t:=(.any::(.imm [.str])::ql 4 (.str::ql 4 ((.imm [.str])::(.int .i64)::(.int .i64)::ql 27 []))),h:=[] }
def vJ:List Out:=[⟨(.exit 0),{ t:=(ql 6 (.str::ql 34 [])),h:=[] }⟩,⟨.ret,{ t:=(ql 4 (.str::(.int .i64)::ql 35 [])),h:=[] }⟩]
noncomputable def zy:=qa [(77,q8 q71 q7p vK),(305,q8 q4h q4p yQ)] [(282,f282)] [] 0
noncomputable def qI:=z8 zy 282 f282 4 vF vJ
theorem q3n:qt prog qc zy.nimp (qH prog zy.iter 282) (w8 f282 4) (qh vF vJ (qf qI)):=gk zy qe q9 (alc q3B (alc q3A aln)) aln (b1 func282) func282
noncomputable def kV:=qa [(77,q8 q71 q7p vK),(305,q8 q4h q4p yQ)] [(282,f282)] [((282,4),qh vF vJ (qf qI))] 0
noncomputable def qx:=qj kV 282 f282 true zU zX
theorem u6:qP prog qc 282 (q8 zU zX qx):=sk kV qe q9 (alc q3B (alc q3A aln)) (alc (lk func282 q3n) aln) (b1 func282) func282
def q3J:FIn:=⟨[(.agg [.str,.str,.str]),(.agg [(.int .i64),(.int .i64),(.int .i64)])],[]⟩
def q3H:List FOut:=[⟨(.tuple [.str,(.int .i64)]),[],none⟩]
def q8Y:Tmpl:={ t:=(.any::.any::(.ptr 0 0)::.any::.any::.any::(.vec 2)::ql 5 ((.agg [(.int .i64),(.int .i64),(.int .i64)])::(.int .i64)::ql 25 [])),h:=[.cells [.str,.str,.str],.dead,.vec 108 [.str]],pro:=[(6,108,[.str])] }
def q93:List Out:=[⟨(.exit 0),{ t:=(ql 6 ((.vec 2)::ql 32 [])),h:=[.dead,.dead,.vec 108 [.str]] }⟩,⟨.ret,{ t:=(ql 4 (.str::(.int .i64)::ql 33 [])),h:=[] }⟩]
noncomputable def qaM:List (FuncId×za):=[(53,q8 q2A q2W wP),(210,q8 qfa qfg wn),(281,q8 wX wV qB),(282,q8 zU zX qx)]
theorem qgE:∀x,x∈qaM->qP prog qc x.1 x.2:=(alc q49 (alc qd7 (alc jA (alc u6 aln))))
noncomputable def q4e:=qa qaM [(283,f283)] [] 0
noncomputable def uk:=z8 q4e 283 f283 4 q8Y q93
theorem ql8:qt prog qc q4e.nimp (qH prog q4e.iter 283) (w8 f283 4) (qh q8Y q93 (qf uk)):=gk q4e qe q9 qgE aln (b1 func283) func283
noncomputable def qk3:=qa qaM [(283,f283)] [((283,4),qh q8Y q93 (qf uk))] 0
noncomputable def vu:=qj qk3 283 f283 true q3J q3H
theorem q6W:qP prog qc 283 (q8 q3J q3H vu):=sk qk3 qe q9 qgE (alc (lk func283 ql8) aln) (b1 func283) func283
def q8w:FIn:=⟨[(.imm [(.int .i64),(.int .i64),(.int .i64)])],[]⟩
def q8W:List FOut:=[⟨(.tuple [(.agg [.str,.str,.str,.str,(.imm [.str])]),.bool,(.int .i64)]),[],none⟩]
def q4j:Tmpl:={ t:=((.imm [(.int .i64),(.int .i64),(.int .i64)])::.any::(.ptr 0 0)::.any::.any::(.int .i64)::(.vec 1)::(.vec 2)::(.int .i64)::ql 15 ((.int .i64)::(.int .i64)::.any::.any::(.int .i64)::(.int .i64)::ql 141 [])),h:=[.cells [.str,.str,.str,.str,.nils],.vec 3 [(.int .i64)],.vec 108 [.str]] }
def q4A:List Out:=[⟨(.exit 2),{ t:=((.imm [(.int .i64),(.int .i64),(.int .i64)])::.any::(.ptr 0 0)::.any::.any::(.int .i64)::(.vec 1)::(.vec 2)::(.int .i64)::ql 15 ((.int .i64)::(.int .i64)::ql 145 [])),h:=[.cells [.str,.str,.str,.str,.nils],.vec 3 [(.int .i64)],.vec 108 [.str]] }⟩]
noncomputable def yA:List (FuncId×za):=[(53,q8 q2A q2W wP),(210,q8 qfa qfg wn),(276,q8 qfu qfG q0L),(277,q8 qm3 qlB qar),(278,q8 qgF qgy jS),(279,q8 qcz qd1 q3p),(280,q8 qlW qll qaT),(281,q8 wX wV qB),(282,q8 zU zX qx),(283,q8 q3J q3H vu)]
theorem uF:∀x,x∈yA->qP prog qc x.1 x.2:=(alc q49 (alc qd7 (alc qqS (alc qv1 (alc qlj (alc qp4 (alc qvk (alc jA (alc u6 (alc q6W aln))))))))))
noncomputable def q0A:=qa yA [(228,f228)] [] 0
noncomputable def jc:=z8 q0A 228 f228 13 q4j q4A
theorem qh5:qt prog qc q0A.nimp (qH prog q0A.iter 228) (w8 f228 13) (qh q4j q4A (qf jc)):=gk q0A qe q9 uF aln (b1 func228) func228
def q5W:Tmpl:={ t:=((.imm [(.int .i64),(.int .i64),(.int .i64)])::.any::(.ptr 0 0)::.any::.any::(.int .i64)::(.vec 1)::(.vec 2)::ql 16 ((.int .i64)::(.int .i64)::ql 145 [])),h:=[.cells [.str,.str,.str,.str,.nils],.vec 3 [(.int .i64)],.vec 108 [.str]],pro:=[(6,3,[(.int .i64)]),(7,108,[.str])] }
def q5u:List Out:=[⟨(.exit 0),{ t:=((.imm [(.int .i64),(.int .i64),(.int .i64)])::.any::(.ptr 0 0)::.any::.any::(.int .i64)::(.vec 1)::(.vec 2)::ql 163 []),h:=[.cells [.str,.str,.str,.str,.nils],.vec 3 [(.int .i64)],.vec 108 [.str]] }⟩]
noncomputable def q22:=qa yA [(228,f228)] [((228,13),qh q4j q4A (qf jc))] 0
noncomputable def jH:=z8 q22 228 f228 6 q5W q5u
theorem qiH:qt prog qc q22.nimp (qH prog q22.iter 228) (w8 f228 6) (qh q5W q5u (qf jH)):=gk q22 qe q9 uF (alc (lk func228 qh5) aln) (b1 func228) func228
def q4t:Tmpl:={ t:=((.imm [(.int .i64),(.int .i64),(.int .i64)])::.any::(.ptr 0 0)::ql 13 ((.ptr 6 0)::(.int .i64)::(.vec 7)::ql 107 ((.int .i64)::.any::.any::(.imm [(.int .i64),(.int .i64),(.int .i64)])::(.int .i64)::(.int .i64)::ql 39 []))),h:=[.cells [.str,.str,.str,.str,.nils],.dead,.dead,.dead,.dead,.frz 108 [.str],.cells [.str,.str,.str,.str,(.vec 5)],.vec 108 [.str]],pro:=[(18,108,[.str])] }
def q4r:List Out:=[⟨(.exit 6),{ t:=((.imm [(.int .i64),(.int .i64),(.int .i64)])::.any::(.ptr 0 0)::ql 13 ((.ptr 6 0)::(.int .i64)::(.vec 7)::ql 107 ((.int .i64)::ql 44 []))),h:=[.cells [.str,.str,.str,.str,.nils],.dead,.dead,.dead,.dead,.frz 108 [.str],.cells [.str,.str,.str,.str,(.vec 5)],.vec 108 [.str]] }⟩]
noncomputable def q0B:=qa yA [(228,f228)] [] 0
noncomputable def j7:=z8 q0B 228 f228 52 q4t q4r
theorem qh9:qt prog qc q0B.nimp (qH prog q0B.iter 228) (w8 f228 52) (qh q4t q4r (qf j7)):=gk q0B qe q9 uF aln (b1 func228) func228
def q4u:Tmpl:={ t:=((.imm [(.int .i64),(.int .i64),(.int .i64)])::.any::(.ptr 0 0)::ql 13 ((.ptr 6 0)::ql 109 ((.int .i64)::ql 44 []))),h:=[.cells [.str,.str,.str,.str,.nils],.dead,.dead,.dead,.dead,.frz 108 [.str],.cells [.str,.str,.str,.str,(.vec 5)]],fz:=[5] }
def q4k:List Out:=[⟨(.exit 4),{ t:=((.imm [(.int .i64),(.int .i64),(.int .i64)])::.any::(.ptr 0 0)::ql 13 ((.ptr 6 0)::ql 154 [])),h:=[.cells [.str,.str,.str,.str,.nils],.dead,.dead,.dead,.dead,.frz 108 [.str],.cells [.str,.str,.str,.str,(.vec 5)]] }⟩,⟨.ret,{ t:=(.any::.any::(.ptr 0 0)::.bool::(.int .i64)::ql 166 []),h:=[.cells [.str,.str,.str,.str,.nils]] }⟩]
noncomputable def q0s:=qa yA [(228,f228)] [((228,52),qh q4t q4r (qf j7))] 0
noncomputable def j9:=z8 q0s 228 f228 44 q4u q4k
theorem qhg:qt prog qc q0s.nimp (qH prog q0s.iter 228) (w8 f228 44) (qh q4u q4k (qf j9)):=gk q0s qe q9 uF (alc (lk func228 qh9) aln) (b1 func228) func228
noncomputable def qgN:=qa yA [(228,f228)] [((228,6),qh q5W q5u (qf jH)),((228,44),qh q4u q4k (qf j9))] 0
noncomputable def uh:=qj qgN 228 f228 true q8w q8W
theorem qlH:qP prog qc 228 (q8 q8w q8W uh):=sk qgN qe q9 uF (alc (lk func228 qiH) (alc (lk func228 qhg) aln)) (b1 func228) func228
def q96:FIn:=⟨[(.imm [(.int .i64),(.int .i64),(.int .i64)]),(.imm [(.int .i64)])],[]⟩
def q8D:List FOut:=[⟨(.imm [(.int .i64),(.int .i64),(.int .i64)]),[],none⟩]
def q5e:Tmpl:={ t:=((.imm [(.int .i64),(.int .i64),(.int .i64)])::ql 4 ((.vec 0)::.any::.any::(.imm [(.int .i64)])::(.int .i64)::(.int .i64)::ql 12 [])),h:=[.vec 71 [(.int .i64),(.int .i64),(.int .i64)]],pro:=[(5,71,[(.int .i64),(.int .i64),(.int .i64)])] }
def q6f:List Out:=[⟨(.exit 0),{ t:=(ql 5 ((.vec 0)::ql 17 [])),h:=[.vec 71 [(.int .i64),(.int .i64),(.int .i64)]] }⟩]
noncomputable def q20:=qa [] [(229,f229)] [] 0
noncomputable def jE:=z8 q20 229 f229 4 q5e q6f
theorem qiq:qt prog qc q20.nimp (qH prog q20.iter 229) (w8 f229 4) (qh q5e q6f (qf jE)):=gk q20 qe q9 aln aln (b1 func229) func229
noncomputable def qh1:=qa [] [(229,f229)] [((229,4),qh q5e q6f (qf jE))] 0
noncomputable def q18:=qj qh1 229 f229 true q96 q8D
theorem qm1:qP prog qc 229 (q8 q96 q8D q18):=sk qh1 qe q9 aln (alc (lk func229 qiq) aln) (b1 func229) func229
def qfH:FIn:=⟨[.str],[]⟩
def qft:List FOut:=[⟨(.tuple [.str,.str,(.int .i64)]),[],none⟩]
noncomputable def qmh:=qa [(138,q8 q12 q0U qS),(189,q8 q0K q0v zp)] [(338,f338)] [] 0
noncomputable def q5k:=qj qmh 338 f338 true qfH qft
theorem qqf:qP prog qc 338 (q8 qfH qft q5k):=sk qmh qe q9 (alc ka (alc q1h aln)) aln (b1 func338) func338
def qhw:FIn:=⟨[.str],[]⟩
def qia:List FOut:=[⟨(.tuple [(.int .i64),(.int .i64)]),[],none⟩]
noncomputable def qpO:=qa [(192,q8 q87 q8l yw),(242,q8 uw uV qV)] [(339,f339)] [] 0
noncomputable def q7X:=qj qpO 339 f339 true qhw qia
theorem qrq:qP prog qc 339 (q8 qhw qia q7X):=sk qpO qe q9 (alc qap (alc ui aln)) aln (b1 func339) func339
def qho:FIn:=⟨[.str],[]⟩
def qiI:List FOut:=[⟨(.tuple [(.int .i64),(.int .i64)]),[],none⟩]
noncomputable def qpF:=qa [(338,q8 qfH qft q5k),(339,q8 qhw qia q7X)] [(286,f286)] [] 0
noncomputable def q4I:=qj qpF 286 f286 true qho qiI
theorem qtO:qP prog qc 286 (q8 qho qiI q4I):=sk qpF qe q9 (alc qqf (alc qrq aln)) aln (b1 func286) func286
def zu:FIn:=⟨[.str],[]⟩
def zt:List FOut:=[⟨.bool,[],none⟩]
noncomputable def q3M:=qa [(286,q8 qho qiI q4I)] [(285,f285)] [] 0
noncomputable def qO:=qj q3M 285 f285 true zu zt
theorem vk:qP prog qc 285 (q8 zu zt qO):=sk q3M qe q9 (alc qtO aln) aln (b1 func285) func285
def vn:FIn:=⟨[(.imm [.str]),(.fn 285 [] [])],[]⟩
def vl:List FOut:=[⟨(.int .i64),[],none⟩]
def wE:Tmpl:={ t:=((.imm [.str])::(.fn 285 [] [])::ql 5 ((.int .i64)::(.int .i64)::ql 10 [])),h:=[] }
def wH:List Out:=[⟨(.exit 0),{ t:=(ql 19 []),h:=[] }⟩,⟨.ret,{ t:=(ql 4 ((.int .i64)::ql 14 [])),h:=[] }⟩]
noncomputable def zf:=qa [(285,q8 zu zt qO)] [(337,f337)] [] 0
noncomputable def qv:=z8 zf 337 f337 3 wE wH
theorem q2u:qt prog qc zf.nimp (qH prog zf.iter 337) (w8 f337 3) (qh wE wH (qf qv)):=gk zf qe q9 (alc vk aln) aln (b1 func337) func337
noncomputable def u5:=qa [(285,q8 zu zt qO)] [(337,f337)] [((337,3),qh wE wH (qf qv))] 0
noncomputable def qG:=qj u5 337 f337 true vn vl
theorem q3e:qP prog qc 337 (q8 vn vl qG):=sk u5 qe q9 (alc vk aln) (alc (lk func337 q2u) aln) (b1 func337) func337
def wk:FIn:=⟨[(.imm [.str]),(.fn 285 [] [])],[]⟩
def wo:List FOut:=[⟨.bool,[],none⟩]
noncomputable def jV:=qa [(285,q8 zu zt qO),(337,q8 vn vl qG)] [(284,f284)] [] 0
noncomputable def qM:=qj jV 284 f284 true wk wo
theorem q25:qP prog qc 284 (q8 wk wo qM):=sk jV qe q9 (alc vk (alc q3e aln)) aln (b1 func284) func284
def q0R:FIn:=⟨[(.agg [.str,.str,.str,.str,(.imm [.str])])],[]⟩
def q0D:List FOut:=[⟨.bool,[],none⟩]
noncomputable def q5s:=qa [(284,q8 wk wo qM),(285,q8 zu zt qO)] [(230,f230)] [] 0
noncomputable def vA:=qj q5s 230 f230 true q0R q0D
theorem qbr:qP prog qc 230 (q8 q0R q0D vA):=sk q5s qe q9 (alc q25 (alc vk aln)) aln (b1 func230) func230
def q2q:FIn:=⟨[.str,.str],[]⟩
def q2f:List FOut:=[⟨(.tuple [(.int .i64),(.int .i64)]),[],none⟩]
noncomputable def qhR:=qa [(136,q8 jU jT qp),(137,q8 vt vr qA),(138,q8 q12 q0U qS),(139,q8 q6v q63 yG)] [(78,f78)] [] 0
noncomputable def wG:=qj qhR 78 f78 true q2q q2f
theorem q6t:qP prog qc 78 (q8 q2q q2f wG):=sk qhR qe q9 (alc yM (alc ve (alc ka (alc qbU aln)))) aln (b1 func78) func78
def k9:FIn:=⟨[(.agg [.str,.str,.str,.str,(.imm [.str])]),(.imm [(.int .i64),(.int .i64),(.int .i64)])],[]⟩
def uZ:List FOut:=[⟨(.tuple [.bool,(.int .i64)]),[],none⟩]
def yK:Tmpl:={ t:=(.any::.any::(.ptr 0 0)::ql 9 ((.imm [(.int .i64),(.int .i64),(.int .i64)])::(.int .i64)::(.int .i64)::ql 28 [])),h:=[.cells [.str,.str,.str,.str,(.imm [.str])]] }
def yF:List Out:=[⟨(.exit 0),{ t:=(ql 43 []),h:=[] }⟩,⟨.ret,{ t:=(ql 4 (.bool::(.int .i64)::ql 37 [])),h:=[] }⟩]
noncomputable def vD:=qa [(78,q8 q2q q2f wG),(283,q8 q3J q3H vu)] [(231,f231)] [] 0
noncomputable def qR:=z8 vD 231 f231 3 yK yF
theorem q7Y:qt prog qc vD.nimp (qH prog vD.iter 231) (w8 f231 3) (qh yK yF (qf qR)):=gk vD qe q9 (alc q6t (alc q6W aln)) aln (b1 func231) func231
noncomputable def q3E:=qa [(78,q8 q2q q2f wG),(283,q8 q3J q3H vu)] [(231,f231)] [((231,3),qh yK yF (qf qR))] 0
noncomputable def wF:=qj q3E 231 f231 true k9 uZ
theorem q9R:qP prog qc 231 (q8 k9 uZ wF):=sk q3E qe q9 (alc q6t (alc q6W aln)) (alc (lk func231 q7Y) aln) (b1 func231) func231
def q4m:FIn:=⟨[(.imm [(.int .i64),(.int .i64),(.int .i64)]),(.imm [(.int .i64)])],[]⟩
def q4x:List FOut:=[⟨(.tuple [(.agg [.str,.str,.str,.str,(.imm [.str])]),.bool,(.int .i64)]),[],none⟩]
noncomputable def qb8:=qa [(228,q8 q8w q8W uh),(229,q8 q96 q8D q18),(230,q8 q0R q0D vA),(231,q8 k9 uZ wF)] [(185,f185)] [] 0
noncomputable def zK:=qj qb8 185 f185 true q4m q4x
theorem qh2:qP prog qc 185 (q8 q4m q4x zK):=sk qb8 qe q9 (alc qlH (alc qm1 (alc qbr (alc q9R aln)))) aln (b1 func185) func185
def qbl:FIn:=⟨[(.imm [(.int .i64),(.int .i64),(.int .i64)]),(.int .i64)],[]⟩
def qaq:List FOut:=[⟨(.tuple [(.agg [.str,.str,.str,.str,(.imm [.str])]),(.imm [(.int .i64)]),(.int .i64)]),[],none⟩]
def q1U:Tmpl:={ t:=(.yld::.any::(.ptr 4 0)::.any::.any::(.vec 7)::.any::(.imm [(.int .i64)])::.any::(.int .i64)::.any::.any::(.int .i64)::(.int .i64)::.any::(.vec 6)::(.int .i64)::(.int .i64)::ql 35 []),h:=[.cells [(.imm [(.int .i64),(.int .i64),(.int .i64)])],.cells [.str,.str,.str,.str,.nils],.cells [.nils],.cells [(.int .i64)],.cells [(.int .i64)],.cells [(.int .i64)],.vec 38 [(.sl [(.int .i64)])],.vec 38 [(.sl [(.int .i64)])]],fs:=[[.any,.any,(.ptr 0 0),.any,(.ptr 1 0),(.ptr 2 0),(.ptr 3 0),.any,.any,.any,.any,.any,.any,.any,(.fn 226 [] [(.ptr 5 0),(.ptr 4 0)]),.any,.any,.any,.any,.any,.any,.any,.any,.any,.any,.any,.any,.any,.any,.any,.any],[]] }
def q1I:List Out:=[⟨(.exit 4),{ t:=(.yld::.any::(.ptr 4 0)::.any::.any::(.vec 7)::ql 6 ((.int .i64)::(.int .i64)::.any::(.vec 6)::(.int .i64)::(.int .i64)::ql 35 [])),h:=[.cells [(.imm [(.int .i64),(.int .i64),(.int .i64)])],.cells [.str,.str,.str,.str,.nils],.cells [.nils],.cells [(.int .i64)],.cells [(.int .i64)],.cells [(.int .i64)],.vec 38 [(.sl [(.int .i64)])],.vec 38 [(.sl [(.int .i64)])]],fs:=[[.any,.any,(.ptr 0 0),.any,(.ptr 1 0),(.ptr 2 0),(.ptr 3 0),.any,.any,.any,.any,.any,.any,.any,(.fn 226 [] [(.ptr 5 0),(.ptr 4 0)]),.any,.any,.any,.any,.any,.any,.any,.any,.any,.any,.any,.any,.any,.any,.any,.any],[]] }⟩,⟨.ret,{ t:=(ql 53 []),h:=[.cells [(.imm [(.int .i64),(.int .i64),(.int .i64)])],.cells [.str,.str,.str,.str,(.imm [.str])],.cells [(.vec 8)],.cells [(.int .i64)],.cells [(.int .i64)],.cells [(.int .i64)],.dead,.dead,.frz 3 [(.int .i64)]],fs:=[[.any,.any,(.ptr 0 0),.any,(.ptr 1 0),(.ptr 2 0),(.ptr 3 0),.any,.any,.any,.any,.any,.any,.any,(.fn 226 [] [(.ptr 5 0),(.ptr 4 0)]),.any,.any,.any,.any,.any,.any,.any,.any,.any,.any,.any,.any,.any,.any,.any,.any],[]],pend:=(.some .ret) }⟩]
noncomputable def q19:List (FuncId×za):=[(185,q8 q4m q4x zK),(227,q8 q1Q q1N wC)]
theorem q2U:∀x,x∈q19->qP prog qc x.1 x.2:=(alc qh2 (alc qdn aln))
noncomputable def yU:Env:={ tt:=qdj,glob:=qc,spec:=q19,body:=[(131,f131),(184,f184),(226,f226)],loops:=[],nimp:=0,iter:=[(226,131,3)],raws:=[227] }
noncomputable def qD:=qDf yU (some (131,f131,3)) 226 f226 18 q1U q1I
theorem qcu:qt prog qc yU.nimp (qH prog yU.iter 226) (w8 f226 18) (qh q1U q1I (qf qD)):=qbR (E:=yU) qe ⟨q3P q9,⟨q2U,aln⟩,aln,(alc (bk func131) (alc (bk func184) (alc (bk func226) aln)))⟩ func226 (by kernel_rfl) (y:=some (131,f131,3)) ⟨func131,by kernel_rfl⟩ (by kernel_rfl) (by kernel_rfl) (fun _=>rfl)
def q2b:Tmpl:={ t:=(.yld::.any::(.ptr 4 0)::.any::.any::(.vec 7)::ql 6 ((.int .i64)::(.int .i64)::.any::(.vec 6)::(.int .i64)::(.int .i64)::ql 35 [])),h:=[.cells [(.imm [(.int .i64),(.int .i64),(.int .i64)])],.cells [.str,.str,.str,.str,.nils],.cells [.nils],.cells [(.int .i64)],.cells [(.int .i64)],.cells [(.int .i64)],.vec 38 [(.sl [(.int .i64)])],.vec 38 [(.sl [(.int .i64)])]],pro:=[(5,38,[(.sl [(.int .i64)])])],fs:=[[.any,.any,(.ptr 0 0),.any,(.ptr 1 0),(.ptr 2 0),(.ptr 3 0),.any,.any,.any,.any,.any,.any,.any,(.fn 226 [] [(.ptr 5 0),(.ptr 4 0)]),.any,.any,.any,.any,.any,.any,.any,.any,.any,.any,.any,.any,.any,.any,.any,.any],[]] }
def q2s:List Out:=[⟨(.exit 2),{ t:=(.yld::.any::(.ptr 4 0)::.any::.any::(.vec 7)::ql 6 ((.int .i64)::(.int .i64)::ql 39 [])),h:=[.cells [(.imm [(.int .i64),(.int .i64),(.int .i64)])],.cells [.str,.str,.str,.str,.nils],.cells [.nils],.cells [(.int .i64)],.cells [(.int .i64)],.cells [(.int .i64)],.dead,.vec 38 [(.sl [(.int .i64)])]],fs:=[[.any,.any,(.ptr 0 0),.any,(.ptr 1 0),(.ptr 2 0),(.ptr 3 0),.any,.any,.any,.any,.any,.any,.any,(.fn 226 [] [(.ptr 5 0),(.ptr 4 0)]),.any,.any,.any,.any,.any,.any,.any,.any,.any,.any,.any,.any,.any,.any,.any,.any],[]] }⟩,⟨.ret,{ t:=(ql 53 []),h:=[.cells [(.imm [(.int .i64),(.int .i64),(.int .i64)])],.cells [.str,.str,.str,.str,(.imm [.str])],.cells [(.vec 8)],.cells [(.int .i64)],.cells [(.int .i64)],.cells [(.int .i64)],.dead,.dead,.frz 3 [(.int .i64)]],fs:=[[.any,.any,(.ptr 0 0),.any,(.ptr 1 0),(.ptr 2 0),(.ptr 3 0),.any,.any,.any,.any,.any,.any,.any,(.fn 226 [] [(.ptr 5 0),(.ptr 4 0)]),.any,.any,.any,.any,.any,.any,.any,.any,.any,.any,.any,.any,.any,.any,.any,.any],[]],pend:=(.some .ret) }⟩]
noncomputable def uP:Env:={ tt:=qdj,glob:=qc,spec:=q19,body:=[(131,f131),(184,f184),(226,f226)],loops:=[((226,18),qh q1U q1I (qf qD))],nimp:=0,iter:=[(226,131,3)],raws:=[227] }
noncomputable def wU:=qDf uP (some (131,f131,3)) 226 f226 9 q2b q2s
theorem qeq:qt prog qc uP.nimp (qH prog uP.iter 226) (w8 f226 9) (qh q2b q2s (qf wU)):=qbR (E:=uP) qe ⟨q3P q9,⟨q2U,aln⟩,(alc (lk func226 qcu) aln),(alc (bk func131) (alc (bk func184) (alc (bk func226) aln)))⟩ func226 (by kernel_rfl) (y:=some (131,f131,3)) ⟨func131,by kernel_rfl⟩ (by kernel_rfl) (by kernel_rfl) (fun _=>rfl)
def q2g:Tmpl:={ t:=(.yld::.any::(.ptr 4 0)::.any::(.vec 6)::ql 7 ((.int .i64)::(.int .i64)::ql 39 [])),h:=[.cells [(.imm [(.int .i64),(.int .i64),(.int .i64)])],.cells [.str,.str,.str,.str,.nils],.cells [.nils],.cells [(.int .i64)],.cells [(.int .i64)],.cells [(.int .i64)],.vec 38 [(.sl [(.int .i64)])]],sw:=[(2,4),(4,6)],swn:=0,fs:=[[.any,.any,(.ptr 0 0),.any,(.ptr 1 0),(.ptr 2 0),(.ptr 3 0),.any,.any,.any,.any,.any,.any,.any,(.fn 226 [] [(.ptr 5 0),(.ptr 4 0)]),.any,.any,.any,.any,.any,.any,.any,.any,.any,.any,.any,.any,.any,.any,.any,.any],[]] }
def q2d:List Out:=[⟨(.exit 0),{ t:=(ql 53 []),h:=[.cells [(.imm [(.int .i64),(.int .i64),(.int .i64)])],.cells [.str,.str,.str,.str,.nils],.cells [.nils],.cells [(.int .i64)],.cells [(.int .i64)],.cells [(.int .i64)]],fs:=[[.any,.any,(.ptr 0 0),.any,(.ptr 1 0),(.ptr 2 0),(.ptr 3 0),.any,.any,.any,.any,.any,.any,.any,(.fn 226 [] [(.ptr 5 0),(.ptr 4 0)]),.any,.any,.any,.any,.any,.any,.any,.any,.any,.any,.any,.any,.any,.any,.any,.any],[]] }⟩,⟨.ret,{ t:=(ql 53 []),h:=[.cells [(.imm [(.int .i64),(.int .i64),(.int .i64)])],.cells [.str,.str,.str,.str,(.imm [.str])],.cells [(.vec 8)],.cells [(.int .i64)],.cells [(.int .i64)],.cells [(.int .i64)],.dead,.dead,.frz 3 [(.int .i64)]],fs:=[[.any,.any,(.ptr 0 0),.any,(.ptr 1 0),(.ptr 2 0),(.ptr 3 0),.any,.any,.any,.any,.any,.any,.any,(.fn 226 [] [(.ptr 5 0),(.ptr 4 0)]),.any,.any,.any,.any,.any,.any,.any,.any,.any,.any,.any,.any,.any,.any,.any,.any],[]],pend:=(.some .ret) }⟩]
noncomputable def uB:Env:={ tt:=qdj,glob:=qc,spec:=q19,body:=[(131,f131),(184,f184),(226,f226)],loops:=[((226,9),qh q2b q2s (qf wU))],nimp:=0,iter:=[(226,131,3)],raws:=[227] }
noncomputable def wW:=qDf uB (some (131,f131,3)) 226 f226 2 q2g q2d
theorem qdZ:qt prog qc uB.nimp (qH prog uB.iter 226) (w8 f226 2) (qh q2g q2d (qf wW)):=qbR (E:=uB) qe ⟨q3P q9,⟨q2U,aln⟩,(alc (lk func226 qeq) aln),(alc (bk func131) (alc (bk func184) (alc (bk func226) aln)))⟩ func226 (by kernel_rfl) (y:=some (131,f131,3)) ⟨func131,by kernel_rfl⟩ (by kernel_rfl) (by kernel_rfl) (fun _=>rfl)
noncomputable def qj8:Env:={ tt:=qdj,glob:=qc,spec:=q19,body:=[(131,f131),(184,f184),(226,f226)],loops:=[((226,2),qh q2g q2d (qf wW))],nimp:=0,iter:=[(226,131,3)],raws:=[227] }
noncomputable def q09:=qj qj8 131 f131 true qbl qaq
theorem qmb:qP prog qc 131 (q8 qbl qaq q09):=sk qj8 qe q9 q2U (alc (lk func226 qdZ) aln) (alc (bk func131) (alc (bk func184) (alc (bk func226) aln))) func131
def q8y:FIn:=⟨[(.imm [(.int .i64),(.int .i64)])],[]⟩
def q8u:List FOut:=[⟨(.imm [(.int .i64),(.int .i64),(.int .i64)]),[],none⟩]
def q6b:Tmpl:={ t:=(.any::.any::.any::(.vec 0)::.any::.any::(.imm [(.int .i64),(.int .i64)])::(.int .i64)::(.int .i64)::ql 13 []),h:=[.vec 71 [(.int .i64),(.int .i64),(.int .i64)]],pro:=[(3,71,[(.int .i64),(.int .i64),(.int .i64)])] }
def q5h:List Out:=[⟨(.exit 0),{ t:=(.any::.any::.any::(.vec 0)::ql 18 []),h:=[.vec 71 [(.int .i64),(.int .i64),(.int .i64)]] }⟩]
noncomputable def q23:=qa [] [(132,f132)] [] 0
noncomputable def jI:=z8 q23 132 f132 4 q6b q5h
theorem qj9:qt prog qc q23.nimp (qH prog q23.iter 132) (w8 f132 4) (qh q6b q5h (qf jI)):=gk q23 qe q9 aln aln (b1 func132) func132
noncomputable def qgX:=qa [] [(132,f132)] [((132,4),qh q6b q5h (qf jI))] 0
noncomputable def q1l:=qj qgX 132 f132 true q8y q8u
theorem qlo:qP prog qc 132 (q8 q8y q8u q1l):=sk qgX qe q9 aln (alc (lk func132 qj9) aln) (b1 func132) func132
def q1L:FIn:=⟨[(.agg [.str,.str,.str,.str,(.imm [.str])])],[]⟩
def q1S:List FOut:=[⟨(.agg [.str,.str]),[],none⟩]
noncomputable def q6R:=qa [] [(133,f133)] [] 0
noncomputable def yX:=qj q6R 133 f133 true q1L q1S
theorem qdw:qP prog qc 133 (q8 q1L q1S yX):=sk q6R qe q9 aln aln (b1 func133) func133
def q8Z:FIn:=⟨[(.imm [(.int .i64),(.int .i64)])],[]⟩
def q94:List FOut:=[⟨(.tuple [(.agg [.str,.str]),.str,(.imm [(.int .i64)]),(.int .i64)]),[],none⟩]
noncomputable def qgD:=qa [(130,q8 qdr qcJ q3r),(131,q8 qbl qaq q09),(132,q8 q8y q8u q1l),(133,q8 q1L q1S yX)] [(76,f76)] [] 0
noncomputable def um:=qj qgD 76 f76 true q8Z q94
theorem qlc:qP prog qc 76 (q8 q8Z q94 um):=sk qgD qe q9 (alc qpx (alc qmb (alc qlo (alc qdw aln)))) aln (b1 func76) func76
def qpf:FIn:=⟨[(.imm [(.int .i64),(.int .i64)]),(.int .i64)],[]⟩
def qp6:List FOut:=[⟨(.tuple [.bool,(.int .i64)]),[],none⟩]
noncomputable def qw6:=qa [(53,q8 q2A q2W wP),(76,q8 q8Z q94 um),(77,q8 q71 q7p vK),(78,q8 q2q q2f wG)] [(27,f27)] [] 0
noncomputable def q2M:=qj qw6 27 f27 true qpf qp6
theorem qym:qP prog qc 27 (q8 qpf qp6 q2M):=sk qw6 qe q9 (alc q49 (alc qlc (alc q3B (alc q6t aln)))) aln (b1 func27) func27
def qcK:FIn:=⟨[(.agg [(.int .i64),(.int .i64),(.int .i64)]),(.agg [(.int .i64),(.int .i64),(.int .i64)])],[]⟩
def qcy:List FOut:=[⟨(.agg [(.int .i64),(.int .i64),(.int .i64)]),[],none⟩]
noncomputable def qku:=qa [] [(151,f151)] [] 0
noncomputable def q7x:=qj qku 151 f151 true qcK qcy
theorem qod:qP prog qc 151 (q8 qcK qcy q7x):=sk qku qe q9 aln aln (b1 func151) func151
def q6Z:FIn:=⟨[(.agg [(.int .i64),(.int .i64),(.int .i64)]),(.agg [(.int .i64),(.int .i64),(.int .i64)])],[]⟩
def q76:List FOut:=[⟨(.int .i64),[],none⟩]
noncomputable def qdX:=qa [] [(152,f152)] [] 0
noncomputable def q35:=qj qdX 152 f152 true q6Z q76
theorem qjP:qP prog qc 152 (q8 q6Z q76 q35):=sk qdX qe q9 aln aln (b1 func152) func152
def kA:FIn:=⟨[(.agg [(.int .i64),(.int .i64),(.int .i64)]),(.agg [(.int .i64),(.int .i64),(.int .i64)])],[]⟩
def kH:List FOut:=[⟨(.tuple [(.int .i64),(.int .i64)]),[],none⟩]
noncomputable def q9c:=qa [(126,q8 q13 q10 yq),(150,q8 uM uG zl),(151,q8 qcK qcy q7x),(152,q8 q6Z q76 q35)] [(90,f90)] [] 0
noncomputable def vS:=qj q9c 90 f90 true kA kH
theorem q5d:qP prog qc 90 (q8 kA kH vS):=sk q9c qe q9 (alc q1a (alc q4K (alc qod (alc qjP aln)))) aln (b1 func90) func90
def q9F:FIn:=⟨[(.imm [(.int .i64),(.int .i64),(.int .i64),(.int .i64),(.int .i64),(.int .i64)])],[]⟩
def qa2:List FOut:=[⟨(.tuple [(.imm [(.int .i64)]),(.int .i64)]),[],none⟩]
def qb0:Tmpl:={ t:=(ql 4 ((.vec 0)::ql 7 ((.imm [(.int .i64),(.int .i64),(.int .i64),(.int .i64),(.int .i64),(.int .i64)])::(.int .i64)::(.int .i64)::ql 20 []))),h:=[.vec 3 [(.int .i64)]],pro:=[(4,3,[(.int .i64)])] }
def qas:List Out:=[⟨(.exit 0),{ t:=(ql 4 ((.vec 0)::ql 30 [])),h:=[.vec 3 [(.int .i64)]] }⟩,⟨.ret,{ t:=(.any::.any::.nils::(.int .i64)::ql 31 []),h:=[] }⟩]
noncomputable def q6A:=qa [(90,q8 kA kH vS)] [(34,f34)] [] 0
noncomputable def q07:=z8 q6A 34 f34 7 qb0 qas
theorem qmu:qt prog qc q6A.nimp (qH prog q6A.iter 34) (w8 f34 7) (qh qb0 qas (qf q07)):=gk q6A qe q9 (alc q5d aln) aln (b1 func34) func34
noncomputable def qms:=qa [(90,q8 kA kH vS)] [(34,f34)] [((34,7),qh qb0 qas (qf q07))] 0
noncomputable def q0t:=qj qms 34 f34 true q9F qa2
theorem qgj:qP prog qc 34 (q8 q9F qa2 q0t):=sk qms qe q9 (alc q5d aln) (alc (lk func34 qmu) aln) (b1 func34) func34
def q6q:FIn:=⟨[(.int .i64)],[]⟩
def q6e:List FOut:=[⟨.bool,[],none⟩]
noncomputable def qc1:=qa [] [(173,f173)] [] 0
noncomputable def ww:=qj qc1 173 f173 true q6q q6e
theorem qih:qP prog qc 173 (q8 q6q q6e ww):=sk qc1 qe q9 aln aln (b1 func173) func173
def q7r:FIn:=⟨[(.agg [(.int .i64),(.int .i64)])],[]⟩
def q73:List FOut:=[⟨(.int .i64),[],none⟩]
noncomputable def qdS:=qa [(173,q8 q6q q6e ww)] [(113,f113)] [] 0
noncomputable def q0f:=qj qdS 113 f113 true q7r q73
theorem qk0:qP prog qc 113 (q8 q7r q73 q0f):=sk qdS qe q9 (alc qih aln) aln (b1 func113) func113
def q9n:FIn:=⟨[(.agg [(.int .i64),(.int .i64)])],[]⟩
def q9G:List FOut:=[⟨(.int .i64),[],none⟩]
noncomputable def qnH:=qa [(113,q8 q7r q73 q0f)] [(87,f87)] [] 0
noncomputable def q0E:=qj qnH 87 f87 true q9n q9G
theorem qgh:qP prog qc 87 (q8 q9n q9G q0E):=sk qnH qe q9 (alc qk0 aln) aln (b1 func87) func87
def q3Q:FIn:=⟨[(.int .i64),(.ptr 0 0)],[.cells [(.int .i64),(.int .i64)]]⟩
def q3C:List FOut:=[⟨.bool,[.cells [(.int .i64),(.int .i64)]],none⟩]
noncomputable def qke:=qa [] [(89,f89)] [] 1
noncomputable def q1F:=qj qke 89 f89 true q3Q q3C
theorem q7e:qP prog qc 89 (q8 q3Q q3C q1F):=sk qke qe q9 aln aln (b1 func89) func89
def uf:FIn:=⟨[(.imm [(.int .i64)]),(.fn 89 [] [(.ptr 0 0)])],[.cells [(.int .i64),(.int .i64)]]⟩
def ua:List FOut:=[⟨(.int .i64),[.cells [(.int .i64),(.int .i64)]],none⟩]
def yf:Tmpl:={ t:=((.imm [(.int .i64)])::(.fn 89 [] [(.ptr 0 0)])::ql 5 ((.int .i64)::(.int .i64)::ql 10 [])),h:=[.cells [(.int .i64),(.int .i64)]] }
def yk:List Out:=[⟨(.exit 0),{ t:=(ql 19 []),h:=[.cells [(.int .i64),(.int .i64)]] }⟩,⟨.ret,{ t:=(ql 4 ((.int .i64)::ql 14 [])),h:=[.cells [(.int .i64),(.int .i64)]] }⟩]
noncomputable def vj:=qa [(89,q8 q3Q q3C q1F)] [(88,f88)] [] 1
noncomputable def z7:=z8 vj 88 f88 3 yf yk
theorem q7g:qt prog qc vj.nimp (qH prog vj.iter 88) (w8 f88 3) (qh yf yk (qf z7)):=gk vj qe q9 (alc q7e aln) aln (b1 func88) func88
noncomputable def q39:=qa [(89,q8 q3Q q3C q1F)] [(88,f88)] [((88,3),qh yf yk (qf z7))] 1
noncomputable def w9:=qj q39 88 f88 true uf ua
theorem q8R:qP prog qc 88 (q8 uf ua w9):=sk q39 qe q9 (alc q7e aln) (alc (lk func88 q7g) aln) (b1 func88) func88
def qis:FIn:=⟨[(.imm [(.int .i64),(.int .i64),(.int .i64),(.int .i64),(.int .i64),(.int .i64)]),(.agg [(.int .i64),(.int .i64)])],[]⟩
def qhU:List FOut:=[⟨(.tuple [.bool,(.int .i64),(.int .i64)]),[],none⟩]
noncomputable def qpZ:=qa [(34,q8 q9F qa2 q0t),(87,q8 q9n q9G q0E),(88,q8 uf ua w9),(89,q8 q3Q q3C q1F)] [(31,f31)] [] 0
noncomputable def q4Z:=qj qpZ 31 f31 true qis qhU
theorem qrO:qP prog qc 31 (q8 qis qhU q4Z):=sk qpZ qe q9 (alc qgj (alc qgh (alc q8R (alc q7e aln)))) aln (b1 func31) func31
def q1O:FIn:=⟨[(.imm [(.int .i64)]),(.imm [(.int .i64)])],[]⟩
def q1G:List FOut:=[⟨.bool,[],none⟩]
def kN:Tmpl:={ t:=((.imm [(.int .i64)])::(.imm [(.int .i64)])::ql 10 ((.int .i64)::(.int .i64)::ql 12 [])),h:=[] }
def kJ:List Out:=[⟨(.exit 0),{ t:=(ql 26 []),h:=[] }⟩,⟨.ret,{ t:=(ql 4 (.bool::ql 21 [])),h:=[] }⟩]
noncomputable def jF:=qa [] [(39,f39)] [] 0
noncomputable def zF:=z8 jF 39 f39 6 kN kJ
theorem qau:qt prog qc jF.nimp (qH prog jF.iter 39) (w8 f39 6) (qh kN kJ (qf zF)):=gk jF qe q9 aln aln (b1 func39) func39
noncomputable def q6J:=qa [] [(39,f39)] [((39,6),qh kN kJ (qf zF))] 0
noncomputable def vZ:=qj q6J 39 f39 true q1O q1G
theorem qd2:qP prog qc 39 (q8 q1O q1G vZ):=sk q6J qe q9 aln (alc (lk func39 qau) aln) (b1 func39) func39
def qj0:FIn:=⟨[],[]⟩
def qja:List FOut:=[⟨(.agg [(.int .i64),(.imm [(.int .i64),(.int .i64),(.int .i64)]),(.imm [(.int .i64),(.int .i64),(.int .i64)])]),[],none⟩]
noncomputable def qpL:=qa [] [(67,f67)] [] 0
noncomputable def qbE:=qj qpL 67 f67 true qj0 qja
theorem qtx:qP prog qc 67 (q8 qj0 qja qbE):=sk qpL qe q9 aln aln (b1 func67) func67
def q5g:FIn:=⟨[],[]⟩
def q6c:List FOut:=[⟨.bool,[],none⟩]
noncomputable def qnr:=qa [(20,q8 q5q q5T zT),(22,q8 q5n q6g ym),(27,q8 qpf qp6 q2M),(31,q8 qis qhU q4Z),(34,q8 q9F qa2 q0t),(39,q8 q1O q1G vZ),(67,q8 qj0 qja qbE)] [(19,f19)] [] 0
noncomputable def zA:=qj qnr 19 f19 true q5g q6c
theorem q95:qP prog qc 19 (q8 q5g q6c zA):=sk qnr qe q9 (alc q8C (alc q8p (alc qym (alc qrO (alc qgj (alc qd2 (alc qtx aln))))))) aln (b1 func19) func19
def q0Y:FIn:=⟨[(.agg [(.int .i64),(.int .i64),(.int .i64)])],[]⟩
def q0V:List FOut:=[⟨(.agg [(.int .i64),(.int .i64),(.int .i64)]),[],none⟩]
noncomputable def qbb:=qa [] [(182,f182)] [] 0
noncomputable def yS:=qj qbb 182 f182 true q0Y q0V
theorem q6V:qP prog qc 182 (q8 q0Y q0V yS):=sk qbb qe q9 aln aln (b1 func182) func182
def q2C:FIn:=⟨[(.imm [(.int .i64),(.int .i64),(.int .i64)]),(.int .i64)],[]⟩
def q2K:List FOut:=[⟨(.imm [(.int .i64)]),[],none⟩]
def qaD:Tmpl:={ t:=((.imm [(.int .i64),(.int .i64),(.int .i64)])::(.int .i64)::.any::.any::.any::(.vec 0)::(.int .i64)::ql 17 []),h:=[.vec 3 [(.int .i64)]],pro:=[(5,3,[(.int .i64)])] }
def qbf:List Out:=[⟨(.exit 0),{ t:=(ql 5 ((.vec 0)::ql 18 [])),h:=[.vec 3 [(.int .i64)]] }⟩]
noncomputable def q5t:=qa [(182,q8 q0Y q0V yS)] [(124,f124)] [] 0
noncomputable def q0h:=z8 q5t 124 f124 4 qaD qbf
theorem qmj:qt prog qc q5t.nimp (qH prog q5t.iter 124) (w8 f124 4) (qh qaD qbf (qf q0h)):=gk q5t qe q9 (alc q6V aln) aln (b1 func124) func124
noncomputable def qnz:=qa [(182,q8 q0Y q0V yS)] [(124,f124)] [((124,4),qh qaD qbf (qf q0h))] 0
noncomputable def vB:=qj qnz 124 f124 true q2C q2K
theorem q43:qP prog qc 124 (q8 q2C q2K vB):=sk qnz qe q9 (alc q6V aln) (alc (lk func124 qmj) aln) (b1 func124) func124
def q6u:FIn:=⟨[(.agg [(.int .i64),(.imm [(.int .i64),(.int .i64),(.int .i64)]),(.imm [(.int .i64),(.int .i64),(.int .i64)])])],[]⟩
def q5F:List FOut:=[⟨(.imm [(.int .i64)]),[],none⟩]
def q8o:Tmpl:={ t:=(.any::.any::.any::(.imm [(.int .i64)])::(.imm [(.int .i64)])::(.vec 1)::(.int .i64)::(.int .i64)::ql 35 []),h:=[.dead,.vec 3 [(.int .i64)]] }
def q8A:List Out:=[⟨(.exit 2),{ t:=(.any::.any::.any::(.imm [(.int .i64)])::(.imm [(.int .i64)])::(.vec 1)::(.int .i64)::ql 36 []),h:=[.dead,.vec 3 [(.int .i64)]] }⟩]
noncomputable def q3X:=qa [(124,q8 q2C q2K vB)] [(71,f71)] [] 0
noncomputable def uo:=z8 q3X 71 f71 10 q8o q8A
theorem qlM:qt prog qc q3X.nimp (qH prog q3X.iter 71) (w8 f71 10) (qh q8o q8A (qf uo)):=gk q3X qe q9 (alc q43 aln) aln (b1 func71) func71
def qaY:Tmpl:={ t:=(.any::.any::.any::(.imm [(.int .i64)])::(.imm [(.int .i64)])::(.vec 1)::(.int .i64)::ql 36 []),h:=[.dead,.vec 3 [(.int .i64)]],pro:=[(5,3,[(.int .i64)])] }
def qbk:List Out:=[⟨(.exit 0),{ t:=(ql 5 ((.vec 1)::ql 37 [])),h:=[.dead,.vec 3 [(.int .i64)]] }⟩]
noncomputable def q5f:=qa [(124,q8 q2C q2K vB)] [(71,f71)] [((71,10),qh q8o q8A (qf uo))] 0
noncomputable def q03:=z8 q5f 71 f71 5 qaY qbk
theorem qne:qt prog qc q5f.nimp (qH prog q5f.iter 71) (w8 f71 5) (qh qaY qbk (qf q03)):=gk q5f qe q9 (alc q43 aln) (alc (lk func71 qlM) aln) (b1 func71) func71
noncomputable def qnb:=qa [(124,q8 q2C q2K vB)] [(71,f71)] [((71,5),qh qaY qbk (qf q03))] 0
noncomputable def yh:=qj qnb 71 f71 true q6u q5F
theorem q8S:qP prog qc 71 (q8 q6u q5F yh):=sk qnb qe q9 (alc q43 aln) (alc (lk func71 qne) aln) (b1 func71) func71
def qiw:FIn:=⟨[(.int .i64)],[]⟩
def qiZ:List FOut:=[⟨(.int .i64),[],none⟩]
noncomputable def qpU:=qa [] [(74,f74)] [] 0
noncomputable def q84:=qj qpU 74 f74 true qiw qiZ
theorem qrv:qP prog qc 74 (q8 qiw qiZ q84):=sk qpU qe q9 aln aln (b1 func74) func74
def qjD:FIn:=⟨[(.int .i64)],[]⟩
def qjr:List FOut:=[⟨.bool,[],none⟩]
noncomputable def qwc:=qa [] [(96,f96)] [] 0
noncomputable def j8:=qj qwc 96 f96 true qjD qjr
theorem qyA:qP prog qc 96 (q8 qjD qjr j8):=sk qwc qe q9 aln aln (b1 func96) func96
def q2L:FIn:=⟨[(.agg [(.int .i64),(.int .i64),(.int .i64)])],[]⟩
def q2T:List FOut:=[⟨.bool,[],none⟩]
noncomputable def qea:=qa [(96,q8 qjD qjr j8)] [(153,f153)] [] 0
noncomputable def yB:=qj qea 153 f153 true q2L q2T
theorem q9k:qP prog qc 153 (q8 q2L q2T yB):=sk qea qe q9 (alc qyA aln) aln (b1 func153) func153
def q68:FIn:=⟨[(.imm [(.int .i64),(.int .i64),(.int .i64)])],[]⟩
def q61:List FOut:=[⟨(.int .i64),[],none⟩]
def q3h:Tmpl:={ t:=((.imm [(.int .i64),(.int .i64),(.int .i64)])::.any::.any::(.int .i64)::ql 15 []),h:=[] }
def q3l:List Out:=[⟨(.exit 0),{ t:=(ql 19 []),h:=[] }⟩,⟨.ret,{ t:=(.any::.any::(.int .i64)::ql 16 []),h:=[] }⟩]
noncomputable def ky:=qa [(153,q8 q2L q2T yB)] [(129,f129)] [] 0
noncomputable def wi:=z8 ky 129 f129 6 q3h q3l
theorem qff:qt prog qc ky.nimp (qH prog ky.iter 129) (w8 f129 6) (qh q3h q3l (qf wi)):=gk ky qe q9 (alc q9k aln) aln (b1 func129) func129
noncomputable def qcf:=qa [(153,q8 q2L q2T yB)] [(129,f129)] [((129,6),qh q3h q3l (qf wi))] 0
noncomputable def jG:=qj qcf 129 f129 true q68 q61
theorem qhz:qP prog qc 129 (q8 q68 q61 jG):=sk qcf qe q9 (alc q9k aln) (alc (lk func129 qff) aln) (b1 func129) func129
def qhn:FIn:=⟨[(.imm [(.int .i64),(.int .i64),(.int .i64)])],[]⟩
def qiR:List FOut:=[⟨(.int .i64),[],none⟩]
noncomputable def qq6:=qa [(129,q8 q68 q61 jG)] [(75,f75)] [] 0
noncomputable def q4U:=qj qq6 75 f75 true qhn qiR
theorem qt5:qP prog qc 75 (q8 qhn qiR q4U):=sk qq6 qe q9 (alc qhz aln) aln (b1 func75) func75
def q0Z:FIn:=⟨[(.agg [(.int .i64),(.imm [(.int .i64),(.int .i64),(.int .i64)]),(.imm [(.int .i64),(.int .i64),(.int .i64)])])],[]⟩
def q0O:List FOut:=[⟨(.int .i64),[],none⟩]
def q8I:Tmpl:={ t:=(ql 6 ((.imm [(.int .i64)])::(.int .i64)::ql 31 [])),h:=[] }
def q8J:List Out:=[⟨(.exit 0),{ t:=(ql 39 []),h:=[] }⟩,⟨.ret,{ t:=(.any::.any::(.int .i64)::ql 36 []),h:=[] }⟩]
noncomputable def qdu:List (FuncId×za):=[(71,q8 q6u q5F yh),(74,q8 qiw qiZ q84),(75,q8 qhn qiR q4U)]
theorem qiD:∀x,x∈qdu->qP prog qc x.1 x.2:=(alc q8S (alc qrv (alc qt5 aln)))
noncomputable def q4d:=qa qdu [(25,f25)] [] 0
noncomputable def jP:=z8 q4d 25 f25 16 q8I q8J
theorem qlx:qt prog qc q4d.nimp (qH prog q4d.iter 25) (w8 f25 16) (qh q8I q8J (qf jP)):=gk q4d qe q9 qiD aln (b1 func25) func25
noncomputable def qme:=qa qdu [(25,f25)] [((25,16),qh q8I q8J (qf jP))] 0
noncomputable def zB:=qj qme 25 f25 true q0Z q0O
theorem q1n:qP prog qc 25 (q8 q0Z q0O zB):=sk qme qe q9 qiD (alc (lk func25 qlx) aln) (b1 func25) func25
def q8k:FIn:=⟨[(.imm [(.int .i64)])],[]⟩
def q88:List FOut:=[⟨(.tuple [(.int .i64),(.int .i64)]),[],none⟩]
def qcV:Tmpl:={ t:=((.imm [(.int .i64)])::.any::.any::.any::(.int .i64)::(.int .i64)::(.int .i64)::ql 26 []),h:=[] }
def qdm:List Out:=[⟨(.exit 0),{ t:=(ql 4 ((.int .i64)::(.int .i64)::ql 27 [])),h:=[] }⟩]
noncomputable def q7B:=qa [] [(70,f70)] [] 0
noncomputable def q1z:=z8 q7B 70 f70 4 qcV qdm
theorem qo6:qt prog qc q7B.nimp (qH prog q7B.iter 70) (w8 f70 4) (qh qcV qdm (qf q1z)):=gk q7B qe q9 aln aln (b1 func70) func70
noncomputable def qpP:=qa [] [(70,f70)] [((70,4),qh qcV qdm (qf q1z))] 0
noncomputable def vW:=qj qpP 70 f70 true q8k q88
theorem qaG:qP prog qc 70 (q8 q8k q88 vW):=sk qpP qe q9 aln (alc (lk func70 qo6) aln) (b1 func70) func70
def q9D:FIn:=⟨[(.agg [(.int .i64),(.imm [(.int .i64),(.int .i64),(.int .i64)]),(.imm [(.int .i64),(.int .i64),(.int .i64)])]),.bool],[]⟩
def q9m:List FOut:=[⟨(.int .i64),[],none⟩]
noncomputable def qn8:=qa [(70,q8 q8k q88 vW),(124,q8 q2C q2K vB)] [(69,f69)] [] 0
noncomputable def uO:=qj qn8 69 f69 true q9D q9m
theorem qg4:qP prog qc 69 (q8 q9D q9m uO):=sk qn8 qe q9 (alc qaG (alc q43 aln)) aln (b1 func69) func69
def qd9:FIn:=⟨[(.agg [(.int .i64),(.imm [(.int .i64),(.int .i64),(.int .i64)]),(.imm [(.int .i64),(.int .i64),(.int .i64)])]),.bool],[]⟩
def qcL:List FOut:=[⟨(.tuple [(.int .i64),(.int .i64)]),[],none⟩]
noncomputable def qkh:=qa [(25,q8 q0Z q0O zB),(69,q8 q9D q9m uO)] [(21,f21)] [] 0
noncomputable def km:=qj qkh 21 f21 true qd9 qcL
theorem qpg:qP prog qc 21 (q8 qd9 qcL km):=sk qkh qe q9 (alc q1n (alc qg4 aln)) aln (b1 func21) func21
def qcx:FIn:=⟨[(.agg [(.int .i64),(.imm [(.int .i64),(.int .i64),(.int .i64)]),(.imm [(.int .i64),(.int .i64),(.int .i64)])])],[]⟩
def qd8:List FOut:=[⟨(.tuple [(.agg [(.int .i64),(.int .i64)]),(.int .i64)]),[],none⟩]
noncomputable def qkc:=qa [(25,q8 q0Z q0O zB),(70,q8 q8k q88 vW),(71,q8 q6u q5F yh)] [(23,f23)] [] 0
noncomputable def q3F:=qj qkc 23 f23 true qcx qd8
theorem qoX:qP prog qc 23 (q8 qcx qd8 q3F):=sk qkc qe q9 (alc q1n (alc qaG (alc q8S aln))) aln (b1 func23) func23
def q79:FIn:=⟨[(.agg [(.int .i64),(.imm [(.int .i64),(.int .i64),(.int .i64)]),(.imm [(.int .i64),(.int .i64),(.int .i64)])]),.bool],[]⟩
def q7q:List FOut:=[⟨.bool,[],none⟩]
noncomputable def je:=qa [(18,q8 q1j q1d zO),(19,q8 q5g q6c zA),(20,q8 q5q q5T zT),(21,q8 qd9 qcL km),(22,q8 q5n q6g ym),(23,q8 qcx qd8 q3F),(24,q8 q4L q4G wA),(25,q8 q0Z q0O zB)] [(4,f4)] [] 0
noncomputable def q0a:=qj je 4 f4 true q79 q7q
theorem qk1:qP prog qc 4 (q8 q79 q7q q0a):=sk je qe q9 (alc q4y (alc q95 (alc q8C (alc qpg (alc q8p (alc qoX (alc q6a (alc q1n aln)))))))) aln (b1 func4) func4
def qf2:FIn:=⟨[(.agg [(.int .i64),(.int .i64)])],[]⟩
def qfy:List FOut:=[⟨.bool,[],none⟩]
noncomputable def qwJ:=qa [(96,q8 qjD qjr j8)] [(48,f48)] [] 0
noncomputable def q5R:=qj qwJ 48 f48 true qf2 qfy
def qfn:FIn:=⟨[(.imm [(.int .i64),(.int .i64)])],[]⟩
def qfP:List FOut:=[⟨(.int .i64),[],none⟩]
def qiX:Tmpl:={ t:=((.imm [(.int .i64),(.int .i64)])::.any::.any::(.int .i64)::ql 15 []),h:=[] }
def qjb:List Out:=[⟨(.exit 0),{ t:=(ql 19 []),h:=[] }⟩,⟨.ret,{ t:=(.any::.any::(.int .i64)::ql 16 []),h:=[] }⟩]
noncomputable def qsD:=qa [(48,q8 qf2 qfy q5R)] [(29,f29)] [] 0
noncomputable def kP:=z8 qsD 29 f29 6 qiX qjb
noncomputable def qxG:=qa [(48,q8 qf2 qfy q5R)] [(29,f29)] [((29,6),qh qiX qjb (qf kP))] 0
noncomputable def q33:=qj qxG 29 f29 true qfn qfP
def qpy:FIn:=⟨[(.imm [(.int .i64),(.int .i64)])],[]⟩
def qpH:List FOut:=[⟨(.int .i64),[],none⟩]
noncomputable def qzM:=qa [(29,q8 qfn qfP q33)] [(140,f140)] [] 0
noncomputable def qbT:=qj qzM 140 f140 true qpy qpH
def q7M:FIn:=⟨[(.int .i64),(.int .i64)],[]⟩
def q7G:List FOut:=[⟨(.imm [(.sl [(.int .i64)])]),[],none⟩]
noncomputable def quP:=qa [] [] [] 0
noncomputable def kf:=qj quP 195 f195 true q7M q7G
def q7S:FIn:=⟨[(.int .i64),(.int .i64)],[]⟩
def q7W:List FOut:=[⟨(.imm [(.sl [(.int .i64)])]),[],none⟩]
def qeH:Tmpl:={ t:=((.int .i64)::ql 4 ((.vec 0)::.any::(.imm [(.int .i64)])::.any::(.int .i64)::ql 6 ((.imm [(.sl [(.int .i64)])])::(.int .i64)::(.int .i64)::ql 30 []))),h:=[.vec 38 [(.sl [(.int .i64)])]] }
def qdO:List Out:=[⟨(.exit 2),{ t:=((.int .i64)::ql 4 ((.vec 0)::ql 10 ((.imm [(.sl [(.int .i64)])])::(.int .i64)::(.int .i64)::ql 30 []))),h:=[.vec 38 [(.sl [(.int .i64)])]] }⟩]
noncomputable def qoq:=qa [(195,q8 q7M q7G kf)] [] [] 0
noncomputable def q0k:=z8 qoq 195 f195 16 qeH qdO
def qg0:Tmpl:={ t:=((.int .i64)::ql 4 ((.vec 0)::ql 10 ((.imm [(.sl [(.int .i64)])])::(.int .i64)::(.int .i64)::ql 30 []))),h:=[.vec 38 [(.sl [(.int .i64)])]],pro:=[(5,38,[(.sl [(.int .i64)])])] }
def qgT:List Out:=[⟨(.exit 0),{ t:=(ql 5 ((.vec 0)::ql 43 [])),h:=[.vec 38 [(.sl [(.int .i64)])]] }⟩]
noncomputable def qqT:=qa [(195,q8 q7M q7G kf)] [] [((195,16),qh qeH qdO (qf q0k))] 0
noncomputable def q41:=z8 qqT 195 f195 7 qg0 qgT
noncomputable def qud:=qa [(195,q8 q7M q7G kf)] [] [((195,7),qh qg0 qgT (qf q41))] 0
noncomputable def q1r:=qj qud 195 f195 true q7S q7W
def q7y:FIn:=⟨[(.int .i64),(.int .i64)],[]⟩
def q7I:List FOut:=[⟨(.imm [(.sl [(.int .i64)])]),[],none⟩]
def qdK:Tmpl:={ t:=((.int .i64)::ql 4 ((.vec 0)::.any::(.imm [(.int .i64)])::.any::(.int .i64)::ql 6 ((.imm [(.sl [(.int .i64)])])::(.int .i64)::(.int .i64)::ql 30 []))),h:=[.vec 38 [(.sl [(.int .i64)])]] }
def qe6:List Out:=[⟨(.exit 2),{ t:=((.int .i64)::ql 4 ((.vec 0)::ql 10 ((.imm [(.sl [(.int .i64)])])::(.int .i64)::(.int .i64)::ql 30 []))),h:=[.vec 38 [(.sl [(.int .i64)])]] }⟩]
noncomputable def qoR:=qa [(195,q8 q7S q7W q1r)] [] [] 0
noncomputable def kK:=z8 qoR 195 f195 16 qdK qe6
def qgR:Tmpl:={ t:=((.int .i64)::ql 4 ((.vec 0)::ql 10 ((.imm [(.sl [(.int .i64)])])::(.int .i64)::(.int .i64)::ql 30 []))),h:=[.vec 38 [(.sl [(.int .i64)])]],pro:=[(5,38,[(.sl [(.int .i64)])])] }
def qgA:List Out:=[⟨(.exit 0),{ t:=(ql 5 ((.vec 0)::ql 43 [])),h:=[.vec 38 [(.sl [(.int .i64)])]] }⟩]
noncomputable def qqP:=qa [(195,q8 q7S q7W q1r)] [] [((195,16),qh qdK qe6 (qf kK))] 0
noncomputable def q4c:=z8 qqP 195 f195 7 qgR qgA
noncomputable def quk:=qa [(195,q8 q7S q7W q1r)] [] [((195,7),qh qgR qgA (qf q4c))] 0
noncomputable def q1y:=qj quk 195 f195 true q7y q7I
def q7v:FIn:=⟨[(.int .i64),(.int .i64)],[]⟩
def q7U:List FOut:=[⟨(.imm [(.sl [(.int .i64)])]),[],none⟩]
def qeF:Tmpl:={ t:=((.int .i64)::ql 4 ((.vec 0)::.any::(.imm [(.int .i64)])::.any::(.int .i64)::ql 6 ((.imm [(.sl [(.int .i64)])])::(.int .i64)::(.int .i64)::ql 30 []))),h:=[.vec 38 [(.sl [(.int .i64)])]] }
def qdM:List Out:=[⟨(.exit 2),{ t:=((.int .i64)::ql 4 ((.vec 0)::ql 10 ((.imm [(.sl [(.int .i64)])])::(.int .i64)::(.int .i64)::ql 30 []))),h:=[.vec 38 [(.sl [(.int .i64)])]] }⟩]
noncomputable def qoE:=qa [(195,q8 q7y q7I q1y)] [] [] 0
noncomputable def kM:=z8 qoE 195 f195 16 qeF qdM
def qg5:Tmpl:={ t:=((.int .i64)::ql 4 ((.vec 0)::ql 10 ((.imm [(.sl [(.int .i64)])])::(.int .i64)::(.int .i64)::ql 30 []))),h:=[.vec 38 [(.sl [(.int .i64)])]],pro:=[(5,38,[(.sl [(.int .i64)])])] }
def qg2:List Out:=[⟨(.exit 0),{ t:=(ql 5 ((.vec 0)::ql 43 [])),h:=[.vec 38 [(.sl [(.int .i64)])]] }⟩]
noncomputable def qqL:=qa [(195,q8 q7y q7I q1y)] [] [((195,16),qh qeF qdM (qf kM))] 0
noncomputable def q4f:=z8 qqL 195 f195 7 qg5 qg2
noncomputable def qur:=qa [(195,q8 q7y q7I q1y)] [] [((195,7),qh qg5 qg2 (qf q4f))] 0
noncomputable def q1B:=qj qur 195 f195 true q7v q7U
def qnU:FIn:=⟨[(.int .i64),(.int .i64)],[]⟩
def qn0:List FOut:=[⟨(.imm [(.sl [(.int .i64)])]),[],none⟩]
def qgJ:Tmpl:={ t:=((.int .i64)::ql 4 ((.vec 0)::.any::(.imm [(.int .i64)])::.any::(.int .i64)::ql 6 ((.imm [(.sl [(.int .i64)])])::(.int .i64)::(.int .i64)::ql 30 []))),h:=[.vec 38 [(.sl [(.int .i64)])]] }
def qgM:List Out:=[⟨(.exit 2),{ t:=((.int .i64)::ql 4 ((.vec 0)::ql 10 ((.imm [(.sl [(.int .i64)])])::(.int .i64)::(.int .i64)::ql 30 []))),h:=[.vec 38 [(.sl [(.int .i64)])]] }⟩]
noncomputable def qqh:=qa [(195,q8 q7v q7U q1B)] [] [] 0
noncomputable def q1g:=z8 qqh 195 f195 16 qgJ qgM
def qhS:Tmpl:={ t:=((.int .i64)::ql 4 ((.vec 0)::ql 10 ((.imm [(.sl [(.int .i64)])])::(.int .i64)::(.int .i64)::ql 30 []))),h:=[.vec 38 [(.sl [(.int .i64)])]],pro:=[(5,38,[(.sl [(.int .i64)])])] }
def qjg:List Out:=[⟨(.exit 0),{ t:=(ql 5 ((.vec 0)::ql 43 [])),h:=[.vec 38 [(.sl [(.int .i64)])]] }⟩]
noncomputable def qt1:=qa [(195,q8 q7v q7U q1B)] [] [((195,16),qh qgJ qgM (qf q1g))] 0
noncomputable def q58:=z8 qt1 195 f195 7 qhS qjg
noncomputable def qwE:=qa [(195,q8 q7v q7U q1B)] [] [((195,7),qh qhS qjg (qf q58))] 0
noncomputable def q9J:=qj qwE 195 f195 true qnU qn0
def yt:FIn:=⟨[.str],[]⟩
def yv:List FOut:=[⟨.bool,[],none⟩]
noncomputable def qxS:=qa [] [(203,f203)] [] 0
noncomputable def qy:=qj qxS 203 f203 true yt yv
def q1s:FIn:=⟨[.str,.bool],[]⟩
def q1E:List FOut:=[⟨.str,[],none⟩]
noncomputable def quQ:=qa [] [(254,f254)] [] 0
noncomputable def z6:=qj quQ 254 f254 true q1s q1E
def uX:FIn:=⟨[.str],[]⟩
def uT:List FOut:=[⟨.str,[],none⟩]
noncomputable def qAe:=qa [] [(256,f256)] [] 0
noncomputable def qw:=qj qAe 256 f256 true uX uT
def kq:FIn:=⟨[.str],[]⟩
def kp:List FOut:=[⟨.str,[],none⟩]
noncomputable def qub:=qa [(203,q8 yt yv qy),(254,q8 q1s q1E z6),(256,q8 uX uT qw)] [(205,f205)] [] 0
noncomputable def wI:=qj qub 205 f205 true kq kp
def qle:FIn:=⟨[(.int .i64)],[]⟩
def qlU:List FOut:=[⟨.str,[],none⟩]
def qm6:Tmpl:={ t:=((.int .i64)::.any::.any::.str::ql 33 []),h:=[] }
def qmx:List Out:=[⟨(.exit 0),{ t:=((.int .i64)::.any::.any::.str::ql 33 []),h:=[] }⟩]
noncomputable def qxt:=qa [(205,q8 kq kp wI)] [] [] 0
noncomputable def qfc:=z8 qxt 148 f148 9 qm6 qmx
noncomputable def qBa:=qa [(205,q8 kq kp wI)] [] [((148,9),qh qm6 qmx (qf qfc))] 0
noncomputable def q7k:=qj qBa 148 f148 true qle qlU
def qaa:FIn:=⟨[(.int .i64)],[]⟩
def qac:List FOut:=[⟨.str,[],none⟩]
def qq4:Tmpl:={ t:=((.int .i64)::.any::.any::.str::ql 33 []),h:=[] }
def qqc:List Out:=[⟨(.exit 0),{ t:=((.int .i64)::.any::.any::.str::ql 33 []),h:=[] }⟩]
noncomputable def qzp:=qa [(148,q8 qle qlU q7k),(205,q8 kq kp wI)] [] [] 0
noncomputable def qil:=z8 qzp 148 f148 9 qq4 qqc
noncomputable def qE5:=qa [(148,q8 qle qlU q7k),(205,q8 kq kp wI)] [] [((148,9),qh qq4 qqc (qf qil))] 0
noncomputable def zR:=qj qE5 148 f148 true qaa qac
def q6h:FIn:=⟨[(.int .i64)],[]⟩
def q5a:List FOut:=[⟨.str,[],none⟩]
noncomputable def qxn:=qa [(148,q8 qaa qac zR)] [(82,f82)] [] 0
noncomputable def zC:=qj qxn 82 f82 true q6h q5a
def qch:FIn:=⟨[(.agg [(.int .i64),(.int .i64),(.int .i64)]),(.agg [(.int .i64),(.int .i64),(.int .i64)])],[]⟩
def qco:List FOut:=[⟨(.int .i64),[],none⟩]
noncomputable def qnP:=qa [] [(154,f154)] [] 0
noncomputable def vO:=qj qnP 154 f154 true qch qco
def qpV:FIn:=⟨[(.agg [(.int .i64),(.int .i64),(.int .i64)]),(.agg [(.int .i64),(.int .i64),(.int .i64)])],[]⟩
def qqe:List FOut:=[⟨(.agg [(.int .i64),(.int .i64),(.int .i64)]),[],none⟩]
noncomputable def qzI:=qa [] [(155,f155)] [] 0
noncomputable def q8i:=qj qzI 155 f155 true qpV qqe
def qmp:FIn:=⟨[.str],[]⟩
def qnm:List FOut:=[⟨(.int .i64),[],none⟩]
def qhO:Tmpl:={ t:=(.str::.any::.any::(.int .i64)::ql 11 []),h:=[] }
def qiS:List Out:=[⟨(.exit 0),{ t:=(ql 15 []),h:=[] }⟩,⟨.ret,{ t:=(.any::.any::(.int .i64)::ql 12 []),h:=[] }⟩]
noncomputable def qsQ:=qa [] [(252,f252)] [] 0
noncomputable def q5i:=z8 qsQ 252 f252 3 qhO qiS
noncomputable def qxg:=qa [] [(252,f252)] [((252,3),qh qhO qiS (qf q5i))] 0
noncomputable def q9N:=qj qxg 252 f252 true qmp qnm
def qfh:FIn:=⟨[.str],[]⟩
def qeR:List FOut:=[⟨(.tuple [.str,.str]),[],none⟩]
noncomputable def qyd:=qa [(252,q8 qmp qnm q9N)] [(200,f200)] [] 0
noncomputable def uu:=qj qyd 200 f200 true qfh qeR
def qk8:FIn:=⟨[.str],[]⟩
def qkU:List FOut:=[⟨(.int .i64),[],none⟩]
def qgL:Tmpl:={ t:=(.str::.any::.any::(.int .i64)::.str::(.int .i64)::ql 21 []),h:=[] }
def qg6:List Out:=[⟨(.exit 0),{ t:=(.str::.any::.any::(.int .i64)::ql 23 []),h:=[] }⟩]
noncomputable def qqq:=qa [(203,q8 yt yv qy),(256,q8 uX uT qw)] [(301,f301)] [] 0
noncomputable def q1i:=z8 qqq 301 f301 4 qgL qg6
noncomputable def qu8:=qa [(203,q8 yt yv qy),(256,q8 uX uT qw)] [(301,f301)] [((301,4),qh qgL qg6 (qf q1i))] 0
noncomputable def ki:=qj qu8 301 f301 true qk8 qkU
def q6p:FIn:=⟨[.str,.str],[]⟩
def q62:List FOut:=[⟨(.tuple [(.int .i64),(.int .i64),.bool]),[],none⟩]
noncomputable def qya:=qa [(256,q8 uX uT qw),(301,q8 qk8 qkU ki)] [(253,f253)] [] 0
noncomputable def jp:=qj qya 253 f253 true q6p q62
def qbH:FIn:=⟨[.str],[]⟩
def qcj:List FOut:=[⟨.str,[],none⟩]
def qko:Tmpl:={ t:=(.str::ql 13 []),h:=[] }
def qkQ:List Out:=[⟨(.exit 0),{ t:=(.str::ql 13 []),h:=[] }⟩]
noncomputable def qv5:=qa [] [(302,f302)] [] 0
noncomputable def q7F:=z8 qv5 302 f302 2 qko qkQ
noncomputable def qyS:=qa [] [(302,f302)] [((302,2),qh qko qkQ (qf q7F))] 0
noncomputable def uR:=qj qyS 302 f302 true qbH qcj
def qhX:FIn:=⟨[.str,.str],[]⟩
def qhk:List FOut:=[⟨.str,[],none⟩]
def qem:Tmpl:={ t:=(.str::.str::.any::.any::.any::(.vec 0)::(.int .i64)::(.int .i64)::ql 69 []),h:=[.vec 3 [(.int .i64)]] }
def qdG:List Out:=[⟨(.exit 2),{ t:=(.str::.str::.any::.any::.any::(.vec 0)::(.int .i64)::ql 70 []),h:=[.vec 3 [(.int .i64)]] }⟩]
noncomputable def q45:List (FuncId×za):=[(302,q8 qbH qcj uR)]
noncomputable def qoy:=qa q45 [(255,f255)] [] 0
noncomputable def kX:=z8 qoy 255 f255 9 qem qdG
def qen:Tmpl:={ t:=(.str::.str::.any::.any::.any::(.vec 0)::(.int .i64)::ql 70 []),h:=[.vec 3 [(.int .i64)]] }
def qe8:List Out:=[⟨(.exit 0),{ t:=(ql 5 ((.vec 0)::ql 71 [])),h:=[.vec 3 [(.int .i64)]] }⟩]
noncomputable def qoi:=qa q45 [(255,f255)] [((255,9),qh qem qdG (qf kX))] 0
noncomputable def q0n:=z8 qoi 255 f255 4 qen qe8
def qc8:Tmpl:={ t:=(ql 5 ((.vec 0)::.any::.any::(.vec 1)::(.int .i64)::(.int .i64)::ql 66 [])),h:=[.vec 3 [(.int .i64)],.vec 5 [(.int .u8)]] }
def qcb:List Out:=[⟨(.exit 4),{ t:=(ql 8 ((.vec 1)::ql 68 [])),h:=[.dead,.vec 5 [(.int .u8)]] }⟩]
noncomputable def qnM:=qa q45 [(255,f255)] [] 0
noncomputable def ut:=z8 qnM 255 f255 17 qc8 qcb
noncomputable def qrJ:=qa q45 [(255,f255)] [((255,4),qh qen qe8 (qf q0n)),((255,17),qh qc8 qcb (qf ut))] 0
noncomputable def q6w:=qj qrJ 255 f255 true qhX qhk
def qfp:FIn:=⟨[.str,.str],[]⟩
def qfA:List FOut:=[⟨.str,[],none⟩]
noncomputable def qy1:=qa [(148,q8 qaa qac zR),(203,q8 yt yv qy),(253,q8 q6p q62 jp),(254,q8 q1s q1E z6),(255,q8 qhX qhk q6w),(256,q8 uX uT qw)] [(201,f201)] [] 0
noncomputable def vG:=qj qy1 201 f201 true qfp qfA
def kZ:FIn:=⟨[.str,.str],[]⟩
def kQ:List FOut:=[⟨(.imm [.str]),[],none⟩]
noncomputable def qse:=qa [(200,q8 qfh qeR uu),(201,q8 qfp qfA vG)] [(145,f145)] [] 0
noncomputable def zr:=qj qse 145 f145 true kZ kQ
def qqb:FIn:=⟨[.str,(.int .i64)],[]⟩
def qpJ:List FOut:=[⟨.str,[],none⟩]
def qkM:Tmpl:={ t:=(.str::(.int .i64)::.any::.any::.any::(.vec 0)::(.int .i64)::ql 20 []),h:=[.vec 5 [(.int .u8)]] }
def qkj:List Out:=[⟨(.exit 0),{ t:=(.str::(.int .i64)::.any::.any::.any::(.vec 0)::ql 21 []),h:=[.vec 5 [(.int .u8)]] }⟩]
noncomputable def qvi:=qa [] [(362,f362)] [] 0
noncomputable def q3V:=z8 qvi 362 f362 4 qkM qkj
noncomputable def qzU:=qa [] [(362,f362)] [((362,4),qh qkM qkj (qf q3V))] 0
noncomputable def q8c:=qj qzU 362 f362 true qqb qpJ
def qkm:FIn:=⟨[(.int .u8),(.int .u8),(.int .i64),.bool],[]⟩
def qkd:List FOut:=[⟨(.tuple [(.int .u8),(.int .i64)]),[],none⟩]
noncomputable def qvv:=qa [] [(363,f363)] [] 0
noncomputable def q7N:=qj qvv 363 f363 true qkm qkd
def qf1:FIn:=⟨[.str,.str,.bool],[]⟩
def qf3:List FOut:=[⟨.str,[],none⟩]
def qiz:Tmpl:={ t:=(.str::.str::.bool::ql 5 ((.vec 0)::(.int .i64)::(.int .i64)::ql 38 [])),h:=[.vec 5 [(.int .u8)]] }
def qj7:List Out:=[⟨(.exit 0),{ t:=(ql 8 ((.vec 0)::ql 40 [])),h:=[.vec 5 [(.int .u8)]] }⟩]
noncomputable def qkG:List (FuncId×za):=[(302,q8 qbH qcj uR),(362,q8 qqb qpJ q8c),(363,q8 qkm qkd q7N)]
noncomputable def qsn:=qa qkG [(303,f303)] [] 0
noncomputable def q2w:=z8 qsn 303 f303 7 qiz qj7
noncomputable def qyB:=qa qkG [(303,f303)] [((303,7),qh qiz qj7 (qf q2w))] 0
noncomputable def uI:=qj qyB 303 f303 true qf1 qf3
def qj4:FIn:=⟨[.str,.str],[]⟩
def qiN:List FOut:=[⟨.bool,[],none⟩]
noncomputable def qz0:=qa [] [(304,f304)] [] 0
noncomputable def q4H:=qj qz0 304 f304 true qj4 qiN
def qi9:FIn:=⟨[.str,.str],[]⟩
def qiu:List FOut:=[⟨.str,[],none⟩]
noncomputable def qzD:=qa [(148,q8 qaa qac zR),(203,q8 yt yv qy),(253,q8 q6p q62 jp),(254,q8 q1s q1E z6),(256,q8 uX uT qw),(303,q8 qf1 qf3 uI),(304,q8 qj4 qiN q4H)] [(257,f257)] [] 0
noncomputable def q4R:=qj qzD 257 f257 true qi9 qiu
def q9l:FIn:=⟨[.str,.str],[]⟩
def q9X:List FOut:=[⟨.str,[],none⟩]
noncomputable def qxC:=qa [(205,q8 kq kp wI),(257,q8 qi9 qiu q4R)] [(202,f202)] [] 0
noncomputable def jn:=qj qxC 202 f202 true q9l q9X
def qie:FIn:=⟨[.str,.str],[]⟩
def qin:List FOut:=[⟨(.tuple [.str,.str]),[],none⟩]
def qbD:Tmpl:={ t:=(.str::.str::ql 4 (.str::.str::(.int .i64)::(.int .u8)::ql 31 [])),h:=[] }
def qc3:List Out:=[⟨(.exit 2),{ t:=(.str::.str::ql 4 (.str::.str::(.int .i64)::(.int .u8)::ql 31 [])),h:=[] }⟩]
noncomputable def q98:List (FuncId×za):=[(302,q8 qbH qcj uR),(303,q8 qf1 qf3 uI),(304,q8 qj4 qiN q4H)]
noncomputable def qnj:=qa q98 [(258,f258)] [] 0
noncomputable def uD:=z8 qnj 258 f258 11 qbD qc3
def qe0:Tmpl:={ t:=(.str::.str::ql 4 (.str::.str::(.int .i64)::ql 32 [])),h:=[] }
def qeh:List Out:=[⟨(.exit 0),{ t:=(ql 6 (.str::.str::ql 33 [])),h:=[] }⟩]
noncomputable def qo1:=qa q98 [(258,f258)] [((258,11),qh qbD qc3 (qf uD))] 0
noncomputable def q2N:=z8 qo1 258 f258 4 qe0 qeh
noncomputable def qsS:=qa q98 [(258,f258)] [((258,4),qh qe0 qeh (qf q2N))] 0
noncomputable def q5E:=qj qsS 258 f258 true qie qin
def qdd:FIn:=⟨[.str,.str],[]⟩
def qcC:List FOut:=[⟨(.tuple [.str,.str]),[],none⟩]
noncomputable def qvg:=qa [(148,q8 qaa qac zR),(201,q8 qfp qfA vG),(202,q8 q9l q9X jn),(203,q8 yt yv qy),(253,q8 q6p q62 jp),(254,q8 q1s q1E z6),(256,q8 uX uT qw),(258,q8 qie qin q5E)] [(206,f206)] [] 0
noncomputable def jl:=qj qvg 206 f206 true qdd qcC
def qkL:FIn:=⟨[.str,.str],[]⟩
def qkw:List FOut:=[⟨.str,[],none⟩]
def qdY:Tmpl:={ t:=(ql 5 ((.int .i64)::(.int .i64)::ql 36 [])),h:=[] }
def qe4:List Out:=[⟨(.exit 2),{ t:=(ql 5 ((.int .i64)::ql 37 [])),h:=[] }⟩]
noncomputable def qaF:List (FuncId×za):=[(148,q8 qaa qac zR),(206,q8 qdd qcC jl),(253,q8 q6p q62 jp),(254,q8 q1s q1E z6),(256,q8 uX uT qw)]
noncomputable def qoP:=qa qaF [(204,f204)] [] 0
noncomputable def q05:=z8 qoP 204 f204 10 qdY qe4
def qg9:Tmpl:={ t:=(.str::.str::ql 41 []),h:=[] }
def qga:List Out:=[⟨(.exit 0),{ t:=(.str::ql 42 []),h:=[] }⟩,⟨.ret,{ t:=(ql 4 (.str::ql 38 [])),h:=[] }⟩]
noncomputable def qqC:=qa qaF [(204,f204)] [((204,10),qh qdY qe4 (qf q05))] 0
noncomputable def q47:=z8 qqC 204 f204 3 qg9 qga
noncomputable def quU:=qa qaF [(204,f204)] [((204,3),qh qg9 qga (qf q47))] 0
noncomputable def q7P:=qj quU 204 f204 true qkL qkw
def q3o:FIn:=⟨[.str,.str],[]⟩
def q3u:List FOut:=[⟨.str,[],none⟩]
noncomputable def quW:=qa [(203,q8 yt yv qy),(204,q8 qkL qkw q7P),(205,q8 kq kp wI),(206,q8 qdd qcC jl)] [(147,f147)] [] 0
noncomputable def vw:=qj quW 147 f147 true q3o q3u
def q5U:FIn:=⟨[.str,.str],[]⟩
def q6k:List FOut:=[⟨.str,[],none⟩]
noncomputable def qxm:=qa [(145,q8 kZ kQ zr),(147,q8 q3o q3u vw)] [(81,f81)] [] 0
noncomputable def zn:=qj qxm 81 f81 true q5U q6k
def qfm:FIn:=⟨[.str,.str],[]⟩
def qfF:List FOut:=[⟨.str,[],none⟩]
noncomputable def qwL:=qa [(145,q8 kZ kQ zr),(147,q8 q3o q3u vw),(202,q8 q9l q9X jn)] [(249,f249)] [] 0
noncomputable def jo:=qj qwL 249 f249 true qfm qfF
def qhB:FIn:=⟨[(.imm [(.sl [.str])]),(.int .i64)],[]⟩
def qiQ:List FOut:=[⟨(.tuple [(.imm [(.sl [.str])]),.bool]),[],none⟩]
def qe1:Tmpl:={ t:=((.imm [(.sl [.str])])::(.int .i64)::ql 4 ((.vec 0)::(.int .i64)::ql 33 [])),h:=[.vec 212 [(.sl [.str])]] }
def qek:List Out:=[⟨(.exit 0),{ t:=(ql 41 []),h:=[] }⟩,⟨.ret,{ t:=(ql 4 ((.vec 0)::.bool::ql 35 [])),h:=[.vec 212 [(.sl [.str])]] }⟩]
noncomputable def qp7:=qa [] [(299,f299)] [] 0
noncomputable def yE:=z8 qp7 299 f299 4 qe1 qek
noncomputable def qs6:=qa [] [(299,f299)] [((299,4),qh qe1 qek (qf yE))] 0
noncomputable def q5M:=qj qs6 299 f299 true qhB qiQ
def qwi:FIn:=⟨[.str,.str],[]⟩
def qvB:List FOut:=[⟨.str,[],none⟩]
noncomputable def qEq:=qa [(145,q8 kZ kQ zr),(147,q8 q3o q3u vw)] [(300,f300)] [] 0
noncomputable def qjj:=qj qEq 300 f300 true qwi qvB
def q8g:FIn:=⟨[.str,.str],[]⟩
def q89:List FOut:=[⟨.str,[],none⟩]
noncomputable def qzW:=qa [(145,q8 kZ kQ zr),(147,q8 q3o q3u vw),(257,q8 qi9 qiu q4R)] [(251,f251)] [] 0
noncomputable def wu:=qj qzW 251 f251 true q8g q89
def qmw:FIn:=⟨[(.imm [.str])],[]⟩
def qmR:List FOut:=[⟨.str,[],none⟩]
def qht:Tmpl:={ t:=((.imm [.str])::.any::.any::.str::(.int .i64)::ql 13 []),h:=[] }
def qhW:List Out:=[⟨(.exit 0),{ t:=(.any::.any::.any::.str::ql 14 []),h:=[] }⟩]
noncomputable def qsT:=qa [(251,q8 q8g q89 wu)] [(250,f250)] [] 0
noncomputable def q2k:=z8 qsT 250 f250 4 qht qhW
noncomputable def qx5:=qa [(251,q8 q8g q89 wu)] [(250,f250)] [((250,4),qh qht qhW (qf q2k))] 0
noncomputable def q5Q:=qj qx5 250 f250 true qmw qmR
end Go.Eng

namespace Go.Eng
open Go.Proofs
open Tryz
def q5A:FIn:=⟨[(.imm [(.int .i64),(.int .i64),(.int .i64)])],[]⟩
def q5Y:List FOut:=[⟨(.tuple [(.imm [.str]),.bool]),[],none⟩]
def qbK:Tmpl:={ t:=((.imm [(.int .i64),(.int .i64),(.int .i64)])::.any::.any::.any::(.vec 0)::(.int .i64)::(.ptr 1 0)::(.vec 2)::(.int .i64)::ql 60 []),h:=[.vec 212 [(.sl [.str])],.cells [(.int .i64),(.int .i64),(.int .i64)],.vec 108 [.str]],pro:=[(7,108,[.str])] }
def qcc:List Out:=[⟨(.exit 2),{ t:=((.imm [(.int .i64),(.int .i64),(.int .i64)])::.any::.any::.any::(.vec 0)::(.int .i64)::(.ptr 1 0)::(.vec 2)::ql 61 []),h:=[.vec 212 [(.sl [.str])],.cells [(.int .i64),(.int .i64),(.int .i64)],.vec 108 [.str]] }⟩]
noncomputable def jQ:List (FuncId×za):=[(82,q8 q6h q5a zC),(154,q8 qch qco vO),(155,q8 qpV qqe q8i),(249,q8 qfm qfF jo),(250,q8 qmw qmR q5Q),(81,q8 q5U q6k zn),(299,q8 qhB qiQ q5M),(300,q8 qwi qvB qjj)]
noncomputable def qnt:=qa jQ [(197,f197),(248,f248)] [] 0
noncomputable def uC:=z8 qnt 197 f197 12 qbK qcc
def qeE:Tmpl:={ t:=((.imm [(.int .i64),(.int .i64),(.int .i64)])::.any::.any::.any::(.vec 0)::(.int .i64)::ql 63 []),h:=[.vec 212 [(.sl [.str])]],pro:=[(4,212,[(.sl [.str])])] }
def qeC:List Out:=[⟨(.exit 0),{ t:=(ql 4 ((.vec 0)::ql 64 [])),h:=[.vec 212 [(.sl [.str])]] }⟩]
noncomputable def qot:=qa jQ [(197,f197),(248,f248)] [((197,12),qh qbK qcc (qf uC))] 0
noncomputable def kY:=z8 qot 197 f197 4 qeE qeC
def q6S:Tmpl:={ t:=(ql 4 ((.int .i64)::(.imm [(.sl [.str])])::.any::(.vec 1)::(.int .i64)::(.vec 2)::(.int .i64)::ql 94 [])),h:=[.dead,.vec 212 [(.sl [.str])],.vec 108 [.str]],pro:=[(9,108,[.str])],fs:=[(ql 69 []),[]] }
def q6K:List Out:=[⟨(.exit 4),{ t:=(ql 4 ((.int .i64)::(.imm [(.sl [.str])])::.any::(.vec 1)::(.int .i64)::(.vec 2)::ql 95 [])),h:=[.dead,.vec 212 [(.sl [.str])],.vec 108 [.str]],fs:=[(ql 69 []),[]] }⟩]
noncomputable def qha:=qa jQ [(197,f197),(248,f248)] [] 0
noncomputable def wD:=z8 qha 248 f248 21 q6S q6K
def q6N:Tmpl:={ t:=(ql 4 ((.int .i64)::(.imm [(.sl [.str])])::.any::(.vec 1)::(.int .i64)::ql 96 [])),h:=[.dead,.vec 212 [(.sl [.str])]],pro:=[(7,212,[(.sl [.str])])],fs:=[(ql 69 []),[]] }
def q6U:List Out:=[⟨(.exit 2),{ t:=(ql 4 ((.int .i64)::.any::.any::(.vec 1)::ql 97 [])),h:=[.dead,.vec 212 [(.sl [.str])]],fs:=[(ql 69 []),[]] }⟩]
noncomputable def qhe:=qa jQ [(197,f197),(248,f248)] [((248,21),qh q6S q6K (qf wD))] 0
noncomputable def j0:=z8 qhe 248 f248 14 q6N q6U
def q81:Tmpl:={ t:=((.vec 0)::.any::.any::.any::(.int .i64)::ql 100 []),h:=[.vec 212 [(.sl [.str])]],sw:=[(0,0)],swn:=0,fs:=[(ql 69 []),[]] }
def q86:List Out:=[⟨(.exit 0),{ t:=((.vec 0)::ql 104 []),h:=[.vec 212 [(.sl [.str])]],fs:=[(ql 69 []),[]] }⟩,⟨.ret,{ t:=(.any::.any::.nils::.bool::ql 101 []),h:=[],fs:=[(ql 69 []),[]] }⟩]
noncomputable def qhJ:=qa jQ [(197,f197),(248,f248)] [((248,14),qh q6N q6U (qf j0))] 0
noncomputable def va:=z8 qhJ 248 f248 3 q81 q86
def q6I:Tmpl:={ t:=((.vec 0)::ql 11 ((.vec 1)::(.int .i64)::ql 91 [])),h:=[.vec 212 [(.sl [.str])],.vec 108 [.str]],pro:=[(12,108,[.str])],fs:=[(ql 69 []),[]] }
def q6P:List Out:=[⟨(.exit 6),{ t:=(ql 12 ((.vec 1)::ql 92 [])),h:=[.dead,.vec 108 [.str]],fs:=[(ql 69 []),[]] }⟩]
noncomputable def qhc:=qa jQ [(197,f197),(248,f248)] [] 0
noncomputable def j4:=z8 qhc 248 f248 31 q6I q6P
noncomputable def qtK:=qa jQ [(197,f197),(248,f248)] [((197,4),qh qeE qeC (qf kY)),((248,3),qh q81 q86 (qf va)),((248,31),qh q6I q6P (qf j4))] 0
noncomputable def jy:=qj qtK 197 f197 true q5A q5Y
def qkq:FIn:=⟨[(.imm [(.int .i64),(.int .i64),(.int .i64)]),(.imm [.str])],[]⟩
def qkW:List FOut:=[⟨(.agg [.str,.str,.str]),[],none⟩]
def qgP:Tmpl:={ t:=((.imm [(.int .i64),(.int .i64),(.int .i64)])::(.imm [.str])::.any::.any::(.ptr 0 0)::(.ptr 1 0)::(.int .i64)::ql 24 ((.agg [(.int .i64),(.int .i64),(.int .i64)])::(.int .i64)::ql 18 [])),h:=[.cells [.str,.str,.str],.cells [.str,.str,.str]] }
def qfX:List Out:=[⟨(.exit 2),{ t:=((.imm [(.int .i64),(.int .i64),(.int .i64)])::(.imm [.str])::.any::.any::(.ptr 0 0)::(.ptr 1 0)::(.int .i64)::ql 44 []),h:=[.cells [.str,.str,.str],.cells [.str,.str,.str]] }⟩]
noncomputable def qb4:List (FuncId×za):=[(81,q8 q5U q6k zn),(82,q8 q6h q5a zC),(251,q8 q8g q89 wu)]
noncomputable def qqF:=qa qb4 [(198,f198)] [] 0
noncomputable def q17:=z8 qqF 198 f198 9 qgP qfX
def qgl:Tmpl:={ t:=((.imm [(.int .i64),(.int .i64),(.int .i64)])::(.imm [.str])::.any::.any::(.ptr 0 0)::(.ptr 1 0)::(.int .i64)::ql 44 []),h:=[.cells [.str,.str,.str],.cells [.str,.str,.str]] }
def qgc:List Out:=[⟨(.exit 0),{ t:=(ql 4 ((.ptr 0 0)::(.ptr 1 0)::ql 45 [])),h:=[.cells [.str,.str,.str],.cells [.str,.str,.str]] }⟩]
noncomputable def qqE:=qa qb4 [(198,f198)] [((198,9),qh qgP qfX (qf q17))] 0
noncomputable def q1b:=z8 qqE 198 f198 4 qgl qgc
noncomputable def qv0:=qa qb4 [(198,f198)] [((198,4),qh qgl qgc (qf q1b))] 0
noncomputable def q7O:=qj qv0 198 f198 true qkq qkW
def qbY:FIn:=⟨[(.agg [.str,.str,.str]),(.agg [(.int .i64),(.int .i64),(.int .i64)])],[]⟩
def qc6:List FOut:=[⟨.str,[],none⟩]
def qki:Tmpl:={ t:=(.any::.any::(.ptr 0 0)::.any::.any::.str::ql 9 ((.agg [(.int .i64),(.int .i64),(.int .i64)])::(.int .i64)::ql 16 [])),h:=[.cells [.str,.str,.str]] }
def qkn:List Out:=[⟨(.exit 0),{ t:=(ql 5 (.str::ql 27 [])),h:=[] }⟩]
noncomputable def qmL:List (FuncId×za):=[(81,q8 q5U q6k zn),(82,q8 q6h q5a zC),(249,q8 qfm qfF jo),(251,q8 q8g q89 wu)]
noncomputable def qu9:=qa qmL [(199,f199)] [] 0
noncomputable def q3y:=z8 qu9 199 f199 4 qki qkn
noncomputable def qA1:=qa qmL [(199,f199)] [((199,4),qh qki qkn (qf q3y))] 0
noncomputable def uQ:=qj qA1 199 f199 true qbY qc6
def qjc:FIn:=⟨[(.imm [(.int .i64),(.int .i64),(.int .i64)])],[]⟩
def qiC:List FOut:=[⟨(.tuple [(.agg [.str,.str,.str]),.str,.bool]),[],none⟩]
noncomputable def qzR:=qa [(197,q8 q5A q5Y jy),(198,q8 qkq qkW q7O),(199,q8 qbY qc6 uQ)] [(143,f143)] [] 0
noncomputable def q0r:=qj qzR 143 f143 true qjc qiC
def qcF:FIn:=⟨[(.imm [(.int .i64),(.int .i64),(.int .i64)]),(.imm [(.int .i64)])],[]⟩
def qcU:List FOut:=[⟨(.imm [(.int .i64),(.int .i64),(.int .i64)]),[],none⟩]
def qgm:Tmpl:={ t:=((.imm [(.int .i64),(.int .i64),(.int .i64)])::(.imm [(.int .i64)])::.any::.any::.any::(.vec 0)::(.int .i64)::ql 17 []),h:=[.vec 71 [(.int .i64),(.int .i64),(.int .i64)]],pro:=[(5,71,[(.int .i64),(.int .i64),(.int .i64)])] }
def qgs:List Out:=[⟨(.exit 0),{ t:=(ql 5 ((.vec 0)::ql 18 [])),h:=[.vec 71 [(.int .i64),(.int .i64),(.int .i64)]] }⟩]
noncomputable def qqj:=qa [] [(144,f144)] [] 0
noncomputable def q1k:=z8 qqj 144 f144 4 qgm qgs
noncomputable def quj:=qa [] [(144,f144)] [((144,4),qh qgm qgs (qf q1k))] 0
noncomputable def q1v:=qj quj 144 f144 true qcF qcU
def qfU:FIn:=⟨[.str,.str],[]⟩
def qf4:List FOut:=[⟨(.int .i64),[],none⟩]
noncomputable def qx4:=qa [(202,q8 q9l q9X jn),(203,q8 yt yv qy)] [(146,f146)] [] 0
noncomputable def q2R:=qj qx4 146 f146 true qfU qf4
def qdD:FIn:=⟨[.str],[]⟩
def qdB:List FOut:=[⟨(.int .i64),[],none⟩]
noncomputable def qu3:=qa [(146,q8 qfU qf4 q2R),(200,q8 qfh qeR uu)] [(298,f298)] [] 0
noncomputable def q1C:=qj qu3 298 f298 true qdD qdB
def qkK:FIn:=⟨[(.imm [(.int .i64),(.int .i64),(.int .i64)])],[]⟩
def qkI:List FOut:=[⟨.bool,[],none⟩]
def qg1:Tmpl:={ t:=(.any::.any::.any::(.imm [.str])::.bool::(.int .i64)::ql 21 []),h:=[] }
def qgo:List Out:=[⟨(.exit 0),{ t:=(ql 4 (.bool::ql 22 [])),h:=[] }⟩]
noncomputable def qql:=qa [(197,q8 q5A q5Y jy),(298,q8 qdD qdB q1C)] [(246,f246)] [] 0
noncomputable def q1p:=z8 qql 246 f246 4 qg1 qgo
noncomputable def qvc:=qa [(197,q8 q5A q5Y jy),(298,q8 qdD qdB q1C)] [(246,f246)] [((246,4),qh qg1 qgo (qf q1p))] 0
noncomputable def q7V:=qj qvc 246 f246 true qkK qkI
def q9Q:FIn:=⟨[.str,.str],[]⟩
def q9z:List FOut:=[⟨(.int .i64),[],none⟩]
noncomputable def qy0:=qa [(145,q8 kZ kQ zr),(146,q8 qfU qf4 q2R)] [(80,f80)] [] 0
noncomputable def uq:=qj qy0 80 f80 true q9Q q9z
def qgu:FIn:=⟨[(.imm [(.int .i64),(.int .i64),(.int .i64)]),(.agg [.str,.str,.str]),.str],[]⟩
def qgK:List FOut:=[⟨.bool,[],none⟩]
def qbN:Tmpl:={ t:=((.imm [(.int .i64),(.int .i64),(.int .i64)])::.any::.str::.any::(.ptr 0 0)::.any::.any::(.int .i64)::ql 15 []),h:=[.cells [.str,.str,.str]] }
def qcm:List Out:=[⟨(.exit 0),{ t:=(ql 23 []),h:=[] }⟩,⟨.ret,{ t:=(ql 6 (.bool::ql 16 [])),h:=[] }⟩]
noncomputable def qmD:=qa [(80,q8 q9Q q9z uq),(199,q8 qbY qc6 uQ)] [(247,f247)] [] 0
noncomputable def jC:=z8 qmD 247 f247 3 qbN qcm
noncomputable def qqK:=qa [(80,q8 q9Q q9z uq),(199,q8 qbY qc6 uQ)] [(247,f247)] [((247,3),qh qbN qcm (qf jC))] 0
noncomputable def q3Y:=qj qqK 247 f247 true qgu qgK
def qgx:FIn:=⟨[(.imm [(.int .i64),(.int .i64),(.int .i64)]),(.imm [(.int .i64)])],[]⟩
def qgq:List FOut:=[⟨.bool,[],none⟩]
noncomputable def qqM:=qa [(143,q8 qjc qiC q0r),(144,q8 qcF qcU q1v),(246,q8 qkK qkI q7V),(247,q8 qgu qgK q3Y)] [(196,f196)] [] 0
noncomputable def q3Z:=qj qqM 196 f196 true qgx qgq
def qmV:FIn:=⟨[(.imm [(.int .i64),(.int .i64),(.int .i64)]),(.int .i64)],[]⟩
def qng:List FOut:=[⟨(.imm [(.int .i64)]),[],none⟩]
def qhj:Tmpl:={ t:=((.imm [(.int .i64),(.int .i64),(.int .i64)])::(.int .i64)::.any::.any::.any::(.int .i64)::ql 10 ((.imm [(.sl [(.int .i64)])])::(.int .i64)::(.int .i64)::ql 8 [])),h:=[] }
def qii:List Out:=[⟨(.exit 2),{ t:=((.imm [(.int .i64),(.int .i64),(.int .i64)])::(.int .i64)::.any::.any::.any::(.int .i64)::ql 21 []),h:=[] }⟩,⟨.ret,{ t:=(ql 4 ((.imm [(.int .i64)])::ql 22 [])),h:=[] }⟩]
noncomputable def qcH:List (FuncId×za):=[(195,q8 qnU qn0 q9J),(196,q8 qgx qgq q3Z)]
noncomputable def qsH:=qa qcH [(141,f141)] [] 0
noncomputable def q2n:=z8 qsH 141 f141 8 qhj qii
def qhY:Tmpl:={ t:=((.imm [(.int .i64),(.int .i64),(.int .i64)])::(.int .i64)::.any::.any::.any::(.int .i64)::ql 21 []),h:=[] }
def qiK:List Out:=[⟨(.exit 0),{ t:=(ql 27 []),h:=[] }⟩,⟨.ret,{ t:=(ql 4 ((.imm [(.int .i64)])::ql 22 [])),h:=[] }⟩]
noncomputable def qtg:=qa qcH [(141,f141)] [((141,8),qh qhj qii (qf q2n))] 0
noncomputable def q2h:=z8 qtg 141 f141 3 qhY qiK
noncomputable def qyr:=qa qcH [(141,f141)] [((141,3),qh qhY qiK (qf q2h))] 0
noncomputable def q5S:=qj qyr 141 f141 true qmV qng
def qkz:FIn:=⟨[(.imm [(.int .i64),(.int .i64)])],[]⟩
def qkH:List FOut:=[⟨(.imm [(.int .i64),(.int .i64),(.int .i64)]),[],none⟩]
def qgv:Tmpl:={ t:=((.imm [(.int .i64),(.int .i64)])::.any::.any::(.vec 0)::(.int .i64)::ql 21 []),h:=[.vec 71 [(.int .i64),(.int .i64),(.int .i64)]],pro:=[(3,71,[(.int .i64),(.int .i64),(.int .i64)])] }
def qgr:List Out:=[⟨(.exit 0),{ t:=(.any::.any::.any::(.vec 0)::ql 22 []),h:=[.vec 71 [(.int .i64),(.int .i64),(.int .i64)]] }⟩]
noncomputable def qqv:=qa [] [(142,f142)] [] 0
noncomputable def q1c:=z8 qqv 142 f142 4 qgv qgr
noncomputable def qv7:=qa [] [(142,f142)] [((142,4),qh qgv qgr (qf q1c))] 0
noncomputable def q7w:=qj qv7 142 f142 true qkz qkH
def qkB:FIn:=⟨[(.imm [(.int .i64),(.int .i64)])],[]⟩
def qk7:List FOut:=[⟨(.tuple [(.agg [.str,.str]),.str,(.imm [(.int .i64)]),(.int .i64)]),[],none⟩]
noncomputable def quA:=qa [(140,q8 qpy qpH qbT),(141,q8 qmV qng q5S),(142,q8 qkz qkH q7w),(143,q8 qjc qiC q0r),(144,q8 qcF qcU q1v)] [(79,f79)] [] 0
noncomputable def q7z:=qj quA 79 f79 true qkB qk7
def qCl:FIn:=⟨[(.imm [(.int .i64),(.int .i64)]),(.int .i64)],[]⟩
def qC7:List FOut:=[⟨(.tuple [.bool,(.int .i64)]),[],none⟩]
noncomputable def qBE:=qa [(29,q8 qfn qfP q33),(79,q8 qkB qk7 q7z),(80,q8 q9Q q9z uq),(81,q8 q5U q6k zn),(82,q8 q6h q5a zC)] [(28,f28)] [] 0
noncomputable def qt4:=qj qBE 28 f28 true qCl qC7
def qoC:FIn:=⟨[(.int .i64)],[]⟩
def qpn:List FOut:=[⟨.bool,[],none⟩]
noncomputable def qvH:=qa [] [(156,f156)] [] 0
noncomputable def q4F:=qj qvH 156 f156 true qoC qpn
theorem qxd:qP prog qc 156 (q8 qoC qpn q4F):=sk qvH qe q9 aln aln (b1 func156) func156
def qf5:FIn:=⟨[(.agg [(.int .i64),(.int .i64)])],[]⟩
def qfE:List FOut:=[⟨(.int .i64),[],none⟩]
noncomputable def qmM:=qa [(156,q8 qoC qpn q4F)] [(95,f95)] [] 0
noncomputable def q6o:=qj qmM 95 f95 true qf5 qfE
theorem qqr:qP prog qc 95 (q8 qf5 qfE q6o):=sk qmM qe q9 (alc qxd aln) aln (b1 func95) func95
def qbS:FIn:=⟨[(.agg [(.int .i64),(.int .i64)])],[]⟩
def qbO:List FOut:=[⟨(.int .i64),[],none⟩]
noncomputable def qq5:=qa [(95,q8 qf5 qfE q6o)] [(43,f43)] [] 0
noncomputable def q0q:=qj qq5 43 f43 true qbS qbO
theorem qiT:qP prog qc 43 (q8 qbS qbO q0q):=sk qq5 qe q9 (alc qqr aln) aln (b1 func43) func43
def q54:FIn:=⟨[(.agg [(.int .i64),(.imm [(.int .i64),(.int .i64),(.int .i64)]),(.imm [(.int .i64),(.int .i64),(.int .i64)])]),.bool,(.agg [(.int .i64),(.int .i64)])],[]⟩
def q5P:List FOut:=[⟨(.tuple [.bool,(.int .i64)]),[],none⟩]
noncomputable def qhZ:=qa [(24,q8 q4L q4G wA),(68,q8 q5z q6x yi),(87,q8 q9n q9G q0E)] [(40,f40)] [] 0
noncomputable def yP:=qj qhZ 40 f40 true q54 q5P
theorem qbV:qP prog qc 40 (q8 q54 q5P yP):=sk qhZ qe q9 (alc q6a (alc q8B (alc qgh aln))) aln (b1 func40) func40
def q8O:FIn:=⟨[(.agg [(.int .i64),(.imm [(.int .i64),(.int .i64),(.int .i64)]),(.imm [(.int .i64),(.int .i64),(.int .i64)])]),.bool,(.agg [(.int .i64),(.int .i64)])],[]⟩
def q92:List FOut:=[⟨(.tuple [.bool,(.int .i64)]),[],none⟩]
noncomputable def qg3:=qa [(25,q8 q0Z q0O zB),(43,q8 qbS qbO q0q),(69,q8 q9D q9m uO),(70,q8 q8k q88 vW),(71,q8 q6u q5F yh)] [(41,f41)] [] 0
noncomputable def q1f:=qj qg3 41 f41 true q8O q92
theorem ql1:qP prog qc 41 (q8 q8O q92 q1f):=sk qg3 qe q9 (alc q1n (alc qiT (alc qg4 (alc qaG (alc q8S aln))))) aln (b1 func41) func41
def q29:FIn:=⟨[(.agg [(.int .i64),(.imm [(.int .i64),(.int .i64),(.int .i64)]),(.imm [(.int .i64),(.int .i64),(.int .i64)])]),.bool,(.agg [(.int .i64),(.int .i64)])],[]⟩
def q2j:List FOut:=[⟨.bool,[],none⟩]
noncomputable def qX:=qa [(18,q8 q1j q1d zO),(19,q8 q5g q6c zA),(40,q8 q54 q5P yP),(41,q8 q8O q92 q1f)] [(8,f8)] [] 0
noncomputable def jv:=qj qX 8 f8 true q29 q2j
theorem qex:qP prog qc 8 (q8 q29 q2j jv):=sk qX qe q9 (alc q4y (alc q95 (alc qbV (alc ql1 aln)))) aln (b1 func8) func8
def qf7:FIn:=⟨[(.agg [(.int .i64),(.imm [(.int .i64),(.int .i64),(.int .i64)]),(.imm [(.int .i64),(.int .i64),(.int .i64)])])],[]⟩
def qeN:List FOut:=[⟨.bool,[],none⟩]
noncomputable def qmy:=qa [(18,q8 q1j q1d zO),(25,q8 q0Z q0O zB)] [(42,f42)] [] 0
noncomputable def q2O:=qj qmy 42 f42 true qf7 qeN
theorem qqD:qP prog qc 42 (q8 qf7 qeN q2O):=sk qmy qe q9 (alc q4y (alc q1n aln)) aln (b1 func42) func42
def ql6:FIn:=⟨[(.agg [(.int .i64),(.int .i64)]),(.int .i64)],[]⟩
def qlQ:List FOut:=[⟨.bool,[],none⟩]
noncomputable def qs4:=qa [] [(44,f44)] [] 0
noncomputable def q75:=qj qs4 44 f44 true ql6 qlQ
theorem qvn:qP prog qc 44 (q8 ql6 qlQ q75):=sk qs4 qe q9 aln aln (b1 func44) func44
def q6X:FIn:=⟨[(.agg [(.int .i64),(.imm [(.int .i64),(.int .i64),(.int .i64)]),(.imm [(.int .i64),(.int .i64),(.int .i64)])]),.bool,(.agg [(.int .i64),(.int .i64)])],[]⟩
def q72:List FOut:=[⟨.bool,[],none⟩]
noncomputable def zQ:=qa [(19,q8 q5g q6c zA),(20,q8 q5q q5T zT),(22,q8 q5n q6g ym),(40,q8 q54 q5P yP),(42,q8 qf7 qeN q2O),(43,q8 qbS qbO q0q),(44,q8 ql6 qlQ q75)] [(9,f9)] [] 0
noncomputable def kU:=qj zQ 9 f9 true q6X q72
theorem qjO:qP prog qc 9 (q8 q6X q72 kU):=sk zQ qe q9 (alc q95 (alc q8C (alc q8p (alc qbV (alc qqD (alc qiT (alc qvn aln))))))) aln (b1 func9) func9
end Go.Eng

namespace Go.Eng
abbrev qNU(r t:TR):TR:=.br (okR r) t .fail
abbrev qNV(c:Bool)(t:TR):TR:=.br c t .fail
abbrev qNW(l:List PV):TR:=.leaf (0,l)
variable (a0 a1 a2 a3 a4 a5 a6 a7 a8 a9 a10 a11 a12 a13 a14 a15:R)
variable (c0 c1 c2 c3 c4 c5 c6 c7 c8 c9 c10 c11 c12 c13:Int)
variable (d0 d1 d2 d3 d4 d5 d7 d8 d10 d11:Bool)
variable (e0 e1 e2 e3 e4 e5 e6 e7 e8 e9 e10 e11 e12 e13 e14:qNX)
theorem qoI:un [.r a0]=(.br (ile (qg a0) 6) (qNW [.b true]) (.br (ilt 64 (qg a0)) (qNW [.b (ilt (qg a0) 128)]) (qNW [.b false]))):=by kernel_rfl
theorem qoF:zO [.i c0,.r a1,.r a2]=(let r0:=un [.r a1];qNU r0 (.br (gB r0 0) (let r1:=un [.r a2];qNU r1 (qNW [.b (gB r1 0)])) (qNW [.b false]))):=by kernel_rfl
theorem qqw:qU [.i c0]=(.br (ile (-100000) c0) (qNW [.b (ile c0 100000)]) (qNW [.b false])):=by kernel_rfl
theorem qvr:yq [.i c0,.i c1,.i c2]=(qNU (qU [.i c0]) (.br (gB (qU [.i c0]) 0) (qNU (qU [.i c1]) (.br (gB (qU [.i c1]) 0) (qNU (qU [.i c2]) (qNW [.b (gB (qU [.i c2]) 0)])) (qNW [.b false]))) (qNW [.b false]))):=by kernel_rfl
theorem q4X:zq [.r a0,.i c1,.i c2]=(.br (ilt c2 c1) (qNV (inb c2 (qg a0)) (let r0:=yq [.i (cI a0 c2 0),.i (cI a0 c2 1),.i (cI a0 c2 2)];qNU r0 (.br (not (gB r0 0)) (.leaf (2,[.i 2])) (qNW [.r a0,.i c1,.i (qm .i64 c2 1)])))) (.leaf (1,[]))):=by kernel_rfl
theorem qhb:zl [.r a0]=(let r0:=qf zq [.r a0,.i (qg a0),.i 0];qNU r0 (.br (jIs r0 0) (qNW [.i 0]) (qNW [.i (gI r0 0)]))):=by kernel_rfl
theorem qbq:wJ [.r a0]=(.br (ilt 64 (qg a0)) (qNW [.i 5]) (let r0:=zl [.r a0];qNU r0 (qNW [.i (gI r0 0)]))):=by kernel_rfl
theorem qjU:wS [.r a0]=(let r0:=wJ [.r a0];qNU r0 (qNW [.i (gI r0 0)])):=by kernel_rfl
theorem qik:qE [.i c0,.i c1,.i c2,.i c3]=(qNV (inb c3 3) (qNW [.i (ql7 [c0,c1,c2] c3),.i c3])):=by kernel_rfl
theorem q2e:zm [.r a0,.r a1,.i c2,.i c3,.i c4,.i c5,.i c6,.i c7,.i c8]=(let t0:=qE [.i (cI a1 c3 0),.i (cI a1 c3 1),.i (cI a1 c3 2),.i c4];let t1:=qE [.i (cI a0 c7 0),.i (cI a0 c7 1),.i (cI a0 c7 2),.i (gI t0 1)];let t2:=qE [.i (cI a1 c3 0),.i (cI a1 c3 1),.i (cI a1 c3 2),.i (gI t1 1)];let t3:=qE [.i (cI a0 c8 0),.i (cI a0 c8 1),.i (cI a0 c8 2),.i (gI t2 1)];let b0:Bool:=(ilt (gI t3 0) (gI t2 0));let i0:Int:=(gI t3 1);let i1:Int:=(qm .i64 c3 1);let p0:List PV:=[.i c5,.i c6,.i c7,.i c8];(.br (ilt c3 c2) (qNV (inb c3 (qg a1)) (qNU t0 (qNV (inb c7 (qg a0)) (qNU t1 (.br (ilt (gI t0 0) (gI t1 0)) (qNU t2 (qNV (inb c8 (qg a0)) (qNU t3 (.br b0 (qNW [.r a0,.r a1,.i c2,.i i1,.i i0,.i c5,.i c6,.i c3,.i c3]) (qNW [.r a0,.r a1,.i c2,.i i1,.i i0,.i c5,.i c6,.i c3,.i c8]))))) (qNU t2 (qNV (inb c8 (qg a0)) (qNU t3 (.br b0 (qNW [.r a0,.r a1,.i c2,.i i1,.i i0,.i c5,.i c6,.i c7,.i c3]) (qNW ((.r a0)::(.r a1)::(.i c2)::(.i i1)::(.i i0)::p0))))))))))) (.leaf (1,((.i c4)::p0))))):=by kernel_rfl
theorem qcP:vb [.r a0,.i c1]=(let r0:=qf zm [.r a0,.r a0,.i (qg a0),.i 0,.i c1,.i 0,.i 0,.i 0,.i 0];qNU r0 (qNW [.i (gI r0 3),.i (gI r0 4),.i (gI r0 0)])):=by kernel_rfl
theorem qlT:zg [.r a0,.i c1]=(let r0:=vb [.r a0,.i c1];qNU r0 (qNV (inb (gI r0 0) (qg a0)) (let r1:=qE [.i (cI a0 (gI r0 0) 0),.i (cI a0 (gI r0 0) 1),.i (cI a0 (gI r0 0) 2),.i (gI r0 2)];qNU r1 (qNV (inb (gI r0 1) (qg a0)) (let r2:=qE [.i (cI a0 (gI r0 1) 0),.i (cI a0 (gI r0 1) 1),.i (cI a0 (gI r0 1) 2),.i (gI r1 1)];qNU r2 (qNW [.i (gI r1 0),.i (gI r2 0)])))))):=by kernel_rfl
theorem qix:jj [.r a0,.r a1,.i c2,.i c3,.r a4,.r a5]=(.br (ilt c2 2) (.br (ieq c2 0) (.br (ieq (qg a0) 0) (.leaf (2,[.i 13])) (let r0:=wS [.r a0];qNU r0 (.br (ine (gI r0 0) 0) (.leaf (2,[.i (gI r0 0)])) (qNW [.r a0,.r a1,.i (qm .i64 c2 1),.i c3,.r a4,.r a5])))) (qNV (ieq c2 1) (.br (ieq (qg a1) 0) (.leaf (2,[.i 13])) (let r0:=wS [.r a1];qNU r0 (.br (ine (gI r0 0) 0) (.leaf (2,[.i (gI r0 0)])) (qNW [.r a0,.r a1,.i (qm .i64 c2 1),.i c3,.r a4,.r a5])))))) (.leaf (1,[.i c3,.r a4,.r a5]))):=by kernel_rfl
theorem qxJ:wA [.i c0,.r a1,.r a2]=(.br (ilt c0 0) (qNW [.i 1]) (.br (ile 3 c0) (qNW [.i 1]) (let r0:=qf jj [.r a1,.r a2,.i 0,.i c0,.r a1,.r a2];qNU r0 (.br (jIs r0 0) (let r1:=zg [.r (gR r0 1),.i (gI r0 0)];qNU r1 (let r2:=zg [.r (gR r0 2),.i (gI r0 0)];qNU r2 (.br (ile (gI r2 0) (gI r1 1)) (qNW [.i 9]) (qNW [.i 0])))) (qNW [.i (gI r0 0)]))))):=by kernel_rfl
theorem qtS:yi [.i c0,.r a1,.r a2]=(let r0:=zg [.r a1,.i c0];qNU r0 (let r1:=zg [.r a2,.i c0];qNU r1 (qNW [.i (zY .i64 (gI r1 0) (gI r0 1)),.i (zY .i64 (gI r1 1) (gI r0 0))]))):=by kernel_rfl
theorem qvd:zT [.i c0,.r a1,.r a2,.b d3]=(let p0:List PV:=[.i c0,.r a1,.r a2];let t0:=yi p0;(qNU (wA p0) (.br (ine (gI (wA p0) 0) 0) (qNW [.i 0,.i (gI (wA p0) 0)]) (.br d3 (qNU t0 (qNW [.i (gI t0 0),.i 0])) (qNU t0 (qNW [.i (gI t0 1),.i 0])))))):=by kernel_rfl
theorem quV:ym [.i c0,.r a1,.r a2]=(let r0:=wA [.i c0,.r a1,.r a2];qNU r0 (.br (ine (gI r0 0) 0) (qNW [.i 0,.i 0,.i (gI r0 0)]) (let r1:=yi [.i c0,.r a1,.r a2];qNU r1 (qNW [.i (gI r1 0),.i (gI r1 1),.i 0])))):=by kernel_rfl
theorem qBN:wB [.i c0]=(qNU (q3R [.i c0]) (qNW [.s (gS (q3R [.i c0]) 0)])):=by kernel_rfl
theorem quN:wP [.i c0]=(qNU (wB [.i c0]) (qNW [.s (gS (wB [.i c0]) 0)])):=by kernel_rfl
theorem qvm:uS [.i c0,.i c1]=(qNU (qU [.i c0]) (.br (gB (qU [.i c0]) 0) (qNU (qU [.i c1]) (qNW [.b (gB (qU [.i c1]) 0)])) (qNW [.b false]))):=by kernel_rfl
theorem q3S:ze [.r a0,.i c1,.i c2]=(.br (ilt c2 c1) (qNV (inb c2 (qg a0)) (let r0:=uS [.i (cI a0 c2 0),.i (cI a0 c2 1)];qNU r0 (.br (not (gB r0 0)) (.leaf (2,[.i 2])) (qNW [.r a0,.i c1,.i (qm .i64 c2 1)])))) (.leaf (1,[]))):=by kernel_rfl
theorem qfi:j6 [.r a0]=(let r0:=qf ze [.r a0,.i (qg a0),.i 0];qNU r0 (.br (jIs r0 0) (qNW [.i 0]) (qNW [.i (gI r0 0)]))):=by kernel_rfl
theorem qaH:zZ [.r a0]=(.br (ilt 64 (qg a0)) (qNW [.i 5]) (let r0:=j6 [.r a0];qNU r0 (qNW [.i (gI r0 0)]))):=by kernel_rfl
theorem qtp:q3t [.r a0]=(let r0:=zZ [.r a0];qNU r0 (qNW [.i (gI r0 0)])):=by kernel_rfl
theorem qrn:q3G [.i c0]=(.br (ieq c0 0) (qNW [.i 13]) (qNW [.i 0])):=by kernel_rfl
theorem qrV:q3r [.r a0]=(let r0:=q3t [.r a0];qNU r0 (.br (ine (gI r0 0) 0) (qNW [.i (gI r0 0)]) (let r1:=q3G [.i (qg a0)];qNU r1 (qNW [.i (gI r1 0)])))):=by kernel_rfl
theorem q56:wC [.r a0]=(qNV (ile (qg a0) 17592186044416) (qNW [.r a0])):=by kernel_rfl
theorem q5w:qC [.s e0,.s e1]=(.br (ile (qu e1) (qu e0)) (qNV (q6E (qu e1) (qu e0)) (qNV (q6E 0 (qu e1)) (qNW [.b (seq (qdh e0 0 (qu e1)) e1)]))) (qNW [.b false])):=by kernel_rfl
theorem q53:qY [.s e0,.s e1]=(let r0:=qC [.s e0,.s e1];qNU r0 (.br (gB r0 0) (qNV (q6E (qu e0) (qu e0)) (qNV (q6E (qu e1) (qu e0)) (qNW [.s (qdh e0 (qu e1) (qu e0))]))) (qNW [.s e0]))):=by kernel_rfl
theorem qiY:qW [.s e0,.s e1]=(let r0:=qY [.s e0,.s e1];qNU r0 (qNW [.s (gS r0 0)])):=by kernel_rfl
theorem qv4:qV [.s e0]=(let t0:=qW [.s e0,.s [45]];let s0:List UInt8:=(gS t0 0);let t1:TR:=(qNW [.i 3]);let t2:=q7E [.s s0,.s [48,49,50,51,52,53,54,55,56,57]];let t3:TR:=(.br (ilt 1024 (qu s0)) (qNW [.i 11]) (qNW [.i 0]));(qNU t0 (.br (seq s0 []) t1 (qNU t2 (.br (not (seq (gS t2 0) [])) t1 (qNV (inb 0 (qu s0)) (.br (ieq (sat s0 0) 48) (.br (not (seq e0 [48])) t1 t3) t3))))))):=by kernel_rfl
theorem qkZ:q5X [.r a0,.i c1,.i c2]=(.br (ilt c2 c1) (qNV (inb c2 (qg a0)) (let r0:=qV [.s (cS a0 c2 0)];qNU r0 (.br (ine (gI r0 0) 0) (.leaf (2,[.i (gI r0 0)])) (qNW [.r a0,.i c1,.i (qm .i64 c2 1)])))) (.leaf (1,[]))):=by kernel_rfl
theorem qzy:we [.r a0]=(let r0:=qf q5X [.r a0,.i (qg a0),.i 0];qNU r0 (.br (jIs r0 0) (qNW [.i 0]) (qNW [.i (gI r0 0)]))):=by kernel_rfl
theorem qvb:yg [.s e0,.s e1]=(.br (ilt 9 (qu e0)) (qNW [.i 0,.i 0,.b false]) (.br (ilt 9 (qu e1)) (qNW [.i 0,.i 0,.b false]) (qNU (ju [.s e0]) (qNU (ju [.s e1]) (qNW [.i (gI (ju [.s e0]) 0),.i (gI (ju [.s e1]) 0),.b true]))))):=by kernel_rfl
theorem qt3:kt [.i c0]=(qNU (wB [.i c0]) (qNW [.s (gS (wB [.i c0]) 0),.i 0])):=by kernel_rfl
theorem qfI:j3 [.b d0,.i c1,.r a2]=(let i0:Int:=(zY .i64 c1 1);let t0:TR:=(.leaf (1,[.b d0,.i c1,.r a2]));(.br (ilt 0 c1) (qNV (inb i0 232) (qNV (inb i0 232) (.br (ieq (cI a2 i0 0) 0) (qNW [.b d0,.i i0,.r a2]) t0))) t0)):=by kernel_rfl
theorem qiJ:qL [.b d0,.i c1,.r a2]=(let r0:=qf j3 [.b d0,.i c1,.r a2];qNU r0 (qNW [.b (gB r0 0),.i (gI r0 1),.r (gR r0 2)])):=by kernel_rfl
theorem qrU:q3I [.s e0,.b d1,.i c2,.r a3]=(let i0:Int:=(qu e0);let i1:Int:=(quL 0 (zY .i64 i0 9));let t0:=ju [.s (qdh e0 i1 i0)];(.br (ilt 0 i0) (qNV (q6E i0 i0) (qNV (q6E i1 i0) (qNU t0 (qNV (inb c2 232) (qNV (inb c2 232) (qNV (q6E i1 i0) (qNV (q6E 0 i1) (qNW [.s (qdh e0 0 i1),.b d1,.i (qm .i64 c2 1),.r (qaz a3 c2 0 [.i (gI t0 0)])])))))))) (.leaf (1,[.b d1,.i c2,.r a3])))):=by kernel_rfl
theorem qwN:wy [.s e0]=(qNV (inb 0 (qu e0)) (let r0:=qW [.s e0,.s [45]];qNU r0 (let r1:=qf q3I [.s (gS r0 0),.b (ieq (sat e0 0) 45),.i 0,.r (q3f 232 [.i 0])];qNU r1 (let r2:=qL [.b (gB r1 0),.i (gI r1 1),.r (gR r1 2)];qNU r2 (qNW [.b (gB r2 0),.i (gI r2 1),.r (gR r2 2)]))))):=by kernel_rfl
theorem q8f:vQ [.i c0,.i c1,.i c2,.i c3,.b d4,.i c5,.r a6,.b d7,.i c8,.r a9]=(let i0:Int:=(qm .i64 c3 c1);let b0:Bool:=(inb i0 232);let i1:Int:=(qm .i64 (cI a6 i0 0) c2);let i2:Int:=(qm .i64 i1 (wL .i64 c0 (cI a9 c3 0)));let i3:Int:=(qcl .i64 i2 1000000000);let i4:Int:=(zY .i64 i2 (wL .i64 i3 1000000000));let p0:List PV:=[.b d7,.i c8,.r a9];let i5:Int:=(quL c5 (qm .i64 i0 1));let i6:Int:=(qm .i64 c3 1);let i7:Int:=(qcl .i64 i1 1000000000);let i8:Int:=(zY .i64 i1 (wL .i64 i7 1000000000));let t0:TR:=(qNV b0 (qNV b0 (.br (ilt c3 c8) (qNV (inb c3 232) (qNV (inb c3 232) (.br (ilt i4 0) (qNV b0 (qNV b0 (qNW ((.i c0)::(.i c1)::(.i (zY .i64 i3 1))::(.i i6)::(.b d4)::(.i i5)::(.r (qaz a6 i0 0 [.i (qm .i64 i4 1000000000)]))::p0)))) (qNV b0 (qNV b0 (qNW ((.i c0)::(.i c1)::(.i i3)::(.i i6)::(.b d4)::(.i i5)::(.r (qaz a6 i0 0 [.i i4]))::p0))))))) (.br (ilt i8 0) (qNV b0 (qNV b0 (qNW ((.i c0)::(.i c1)::(.i (zY .i64 i7 1))::(.i i6)::(.b d4)::(.i i5)::(.r (qaz a6 i0 0 [.i (qm .i64 i8 1000000000)]))::p0)))) (qNV b0 (qNV b0 (qNW ((.i c0)::(.i c1)::(.i i7)::(.i i6)::(.b d4)::(.i i5)::(.r (qaz a6 i0 0 [.i i8]))::p0))))))));(.br (ilt c3 c8) t0 (.br (ine c2 0) t0 (.leaf (1,((.b d4)::(.i c5)::(.r a6)::p0)))))):=by kernel_rfl
theorem ql4:qQ [.i c0,.i c1,.b d2,.i c3,.r a4,.b d5,.i c6,.r a7]=(let r0:=qf vQ [.i c0,.i c1,.i 0,.i 0,.b d2,.i c3,.r a4,.b d5,.i c6,.r a7];qNU r0 (let r1:=qL [.b (gB r0 0),.i (gI r0 1),.r (gR r0 2)];qNU r1 (qNW [.b (gB r1 0),.i (gI r1 1),.r (gR r1 2),.b (gB r0 3),.i (gI r0 4),.r (gR r0 5)]))):=by kernel_rfl
theorem qi3:ya [.i c0,.i c1,.b d2,.i c3,.r a4,.b d5,.i c6,.r a7,.b d8,.i c9,.r a10]=(.br (ilt c1 c0) (qNV (inb c1 232) (qNV (inb c1 232) (let r0:=qQ [.i (cI a7 c1 0),.i c1,.b d8,.i c9,.r a10,.b d2,.i c3,.r a4];qNU r0 (qNW [.i c0,.i (qm .i64 c1 1),.b (gB r0 3),.i (gI r0 4),.r (gR r0 5),.b d5,.i c6,.r a7,.b (gB r0 0),.i (gI r0 1),.r (gR r0 2)])))) (.leaf (1,[.b d2,.i c3,.r a4,.b d5,.i c6,.r a7,.b d8,.i c9,.r a10]))):=by kernel_rfl
theorem ql5:uW [.b d0,.i c1,.r a2,.b d3,.i c4,.r a5]=(let r0:=qf ya [.i c4,.i 0,.b d0,.i c1,.r a2,.b d3,.i c4,.r a5,.b (not (beq d0 d3)),.i 0,.r (q3f 232 [.i 0])];qNU r0 (qNW [.b (gB r0 0),.i (gI r0 1),.r (gR r0 2),.b (gB r0 3),.i (gI r0 4),.r (gR r0 5),.b (gB r0 6),.i (gI r0 7),.r (gR r0 8)])):=by kernel_rfl
theorem qj5:wg [.b d0,.i c1,.r a2]=(let r0:=zb [.b d0,.i c1,.r a2];qNU r0 (let r1:=qV [.s (gS r0 0)];qNU r1 (.br (ine (gI r1 0) 0) (qNW [.s [],.i (gI r1 0),.b (gB r0 1),.i (gI r0 2),.r (gR r0 3)]) (qNW [.s (gS r0 0),.i 0,.b (gB r0 1),.i (gI r0 2),.r (gR r0 3)])))):=by kernel_rfl
theorem qAt:q4z [.s e0,.s e1]=(let r0:=we [.r [[.s e0],[.s e1]]];qNU r0 (.br (ine (gI r0 0) 0) (qNW [.s [],.i (gI r0 0)]) (let r1:=yg [.s e0,.s e1];qNU r1 (.br (gB r1 2) (let r2:=kt [.i (wL .i64 (gI r1 0) (gI r1 1))];qNU r2 (qNW [.s (gS r2 0),.i (gI r2 1)])) (let r2:=wy [.s e0];qNU r2 (let r3:=wy [.s e1];qNU r3 (let r4:=uW [.b (gB r2 0),.i (gI r2 1),.r (gR r2 2),.b (gB r3 0),.i (gI r3 1),.r (gR r3 2)];qNU r4 (let r5:=wg [.b (gB r4 6),.i (gI r4 7),.r (gR r4 8)];qNU r5 (qNW [.s (gS r5 0),.i (gI r5 1)]))))))))):=by kernel_rfl
theorem qbv:zv [.s e0,.s e1,.i c2]=(.br (ine c2 0) (qNW [.s [48],.i c2]) (let r0:=q4z [.s e0,.s e1];qNU r0 (.br (ine (gI r0 1) 0) (qNW [.s [48],.i (gI r0 1)]) (qNW [.s (gS r0 0),.i (gI r0 1)])))):=by kernel_rfl
theorem qbe:jK [.s e0,.r a1,.i c2,.i c3,.i c4]=(.br (ilt c3 c2) (qNV (inb c3 (qg a1)) (let r0:=zv [.s e0,.s (cS a1 c3 0),.i c4];qNU r0 (qNW [.s (gS r0 0),.r a1,.i c2,.i (qm .i64 c3 1),.i (gI r0 1)]))) (.leaf (1,[.s e0,.i c4]))):=by kernel_rfl
theorem qoL:qp [.r a0,.i c1]=(let r0:=qf jK [.s [49],.r a0,.i (qg a0),.i 0,.i c1];qNU r0 (qNW [.s (gS r0 0),.i (gI r0 1)])):=by kernel_rfl
theorem qh4:jx [.i c0,.b d1,.i c2,.r a3,.b d4,.i c5,.r a6]=(let b0:Bool:=(inb c0 232);let p0:List PV:=[.b d1,.i c2,.r a3,.b d4,.i c5,.r a6];(.br (ile 0 c0) (qNV b0 (qNV b0 (qNV b0 (qNV b0 (.br (ine (cI a3 c0 0) (cI a6 c0 0)) (qNV b0 (qNV b0 (qNV b0 (qNV b0 (.leaf (2,((.i (zY .i64 (cI a3 c0 0) (cI a6 c0 0)))::p0))))))) (qNW ((.i (zY .i64 c0 1))::p0))))))) (.leaf (1,p0)))):=by kernel_rfl
theorem qjY:wR [.b d0,.i c1,.r a2,.b d3,.i c4,.r a5]=(.br (ine c1 c4) (qNW [.i (zY .i64 c1 c4),.b d0,.i c1,.r a2,.b d3,.i c4,.r a5]) (let r0:=qf jx [.i (zY .i64 c1 1),.b d0,.i c1,.r a2,.b d3,.i c4,.r a5];qNU r0 (.br (jIs r0 0) (qNW [.i 0,.b (gB r0 0),.i (gI r0 1),.r (gR r0 2),.b (gB r0 3),.i (gI r0 4),.r (gR r0 5)]) (qNW [.i (gI r0 0),.b (gB r0 1),.i (gI r0 2),.r (gR r0 3),.b (gB r0 4),.i (gI r0 5),.r (gR r0 6)])))):=by kernel_rfl
theorem qmz:vd [.b d0,.i c1,.r a2,.b d3,.i c4,.r a5]=(.br (beq d0 d3) (let r0:=qQ [.i 1,.i 0,.b d0,.i c1,.r a2,.b d3,.i c4,.r a5];qNU r0 (qNW [.b (gB r0 0),.i (gI r0 1),.r (gR r0 2),.b (gB r0 3),.i (gI r0 4),.r (gR r0 5)])) (let r0:=wR [.b d0,.i c1,.r a2,.b d3,.i c4,.r a5];qNU r0 (.br (ile 0 (gI r0 0)) (let r1:=qQ [.i (-1),.i 0,.b (gB r0 1),.i (gI r0 2),.r (gR r0 3),.b (gB r0 4),.i (gI r0 5),.r (gR r0 6)];qNU r1 (qNW [.b (gB r1 0),.i (gI r1 1),.r (gR r1 2),.b (gB r1 3),.i (gI r1 4),.r (gR r1 5)])) (let r1:=qQ [.i (-1),.i 0,.b (gB r0 4),.i (gI r0 5),.r (gR r0 6),.b (gB r0 1),.i (gI r0 2),.r (gR r0 3)];qNU r1 (qNW [.b (gB r1 0),.i (gI r1 1),.r (gR r1 2),.b (gB r0 4),.i (gI r0 5),.r (gR r0 6)]))))):=by kernel_rfl
theorem qd6:q69 [.r a0,.i c1,.i c2,.b d3,.i c4,.r a5]=(.br (ilt c2 c1) (qNV (inb c2 (qg a0)) (let r0:=wy [.s (cS a0 c2 0)];qNU r0 (let r1:=vd [.b d3,.i c4,.r a5,.b (gB r0 0),.i (gI r0 1),.r (gR r0 2)];qNU r1 (qNW [.r a0,.i c1,.i (qm .i64 c2 1),.b (gB r1 0),.i (gI r1 1),.r (gR r1 2)])))) (.leaf (1,[.b d3,.i c4,.r a5]))):=by kernel_rfl
theorem qAc:qax [.r a0]=(let r0:=qf q69 [.r a0,.i (qg a0),.i 0,.b false,.i 0,.r (q3f 232 [.i 0])];qNU r0 (let r1:=wg [.b (gB r0 0),.i (gI r0 1),.r (gR r0 2)];qNU r1 (qNW [.s (gS r1 0),.i (gI r1 1)]))):=by kernel_rfl
theorem qAA:q2i [.s e0,.s e1]=(let r0:=we [.r [[.s e0],[.s e1]]];qNU r0 (.br (ine (gI r0 0) 0) (qNW [.s [],.i (gI r0 0)]) (let r1:=yg [.s e0,.s e1];qNU r1 (.br (gB r1 2) (let r2:=kt [.i (qm .i64 (gI r1 0) (gI r1 1))];qNU r2 (qNW [.s (gS r2 0),.i (gI r2 1)])) (let r2:=qax [.r [[.s e0],[.s e1]]];qNU r2 (qNW [.s (gS r2 0),.i (gI r2 1)])))))):=by kernel_rfl
theorem qxA:yw [.s e0]=(.br (seq e0 [48]) (qNW [.i 0]) (qNV (inb 0 (qu e0)) (.br (ieq (sat e0 0) 45) (qNW [.i (-1)]) (qNW [.i 1])))):=by kernel_rfl
theorem qok:q1q [.s e0]=(let r0:=yw [.s e0];qNU r0 (.br (ieq (gI r0 0) 0) (qNW [.s e0]) (.br (ieq (gI r0 0) 1) (qNV (ile ((qu [45])+(qu e0)) 140737488355328) (qNW [.s (qeJ [45] e0)])) (qNV (q6E (qu e0) (qu e0)) (qNV (q6E 1 (qu e0)) (qNW [.s (qdh e0 1 (qu e0))])))))):=by kernel_rfl
theorem qyI:q7f [.s e0,.s e1]=(let r0:=we [.r [[.s e0],[.s e1]]];qNU r0 (.br (ine (gI r0 0) 0) (qNW [.s [],.i (gI r0 0)]) (let r1:=q1q [.s e1];qNU r1 (let r2:=q2i [.s e0,.s (gS r1 0)];qNU r2 (qNW [.s (gS r2 0),.i (gI r2 1)]))))):=by kernel_rfl
theorem qbt:wM [.s e0,.s e1,.i c2]=(.br (ine c2 0) (qNW [.s [48],.i c2]) (let r0:=q7f [.s e0,.s e1];qNU r0 (.br (ine (gI r0 1) 0) (qNW [.s [48],.i (gI r0 1)]) (qNW [.s (gS r0 0),.i (gI r0 1)])))):=by kernel_rfl
theorem qo8:vV [.s e0,.s e1,.i c2]=(let r0:=wM [.s e0,.s e1,.i c2];qNU r0 (qNW [.s (gS r0 0),.i (gI r0 1)])):=by kernel_rfl
theorem quS:q2B [.s e0,.s e1,.s e2,.s e3,.i c4]=(let r0:=qp [.r [[.s e0],[.s e3]],.i c4];qNU r0 (let r1:=qp [.r [[.s e2],[.s e1]],.i (gI r0 1)];qNU r1 (let r2:=vV [.s (gS r0 0),.s (gS r1 0),.i (gI r1 1)];qNU r2 (let r3:=qp [.r [[.s e1],[.s e3]],.i (gI r2 1)];qNU r3 (qNW [.s (gS r2 0),.s (gS r3 0),.i (gI r3 1)]))))):=by kernel_rfl
theorem qaX:wd [.s e0,.s e1]=(let r0:=vh [.s e0,.s e1];qNU r0 (.br (ile 0 (gI r0 0)) (qNV (q6E (gI r0 0) (qu e0)) (qNV (q6E 0 (gI r0 0)) (qNV (q6E (qu e0) (qu e0)) (qNV (q6E (qm .i64 (gI r0 0) (qu e1)) (qu e0)) (qNW [.s (qdh e0 0 (gI r0 0)),.s (qdh e0 (qm .i64 (gI r0 0) (qu e1)) (qu e0)),.b true]))))) (qNW [.s e0,.s [],.b false]))):=by kernel_rfl
theorem qvw:q5j [.s e0,.s e1]=(let r0:=wd [.s e0,.s e1];qNU r0 (qNW [.s (gS r0 0),.s (gS r0 1),.b (gB r0 2)])):=by kernel_rfl
theorem qzV:qS [.s e0]=(let r0:=q5j [.s e0,.s [47]];qNU r0 (.br (not (gB r0 2)) (qNW [.s (gS r0 0),.s [49],.b (gB r0 2)]) (qNW [.s (gS r0 0),.s (gS r0 1),.b (gB r0 2)]))):=by kernel_rfl
theorem quf:q5J [.s e0,.s e1]=(.br (ine (qu e0) (qu e1)) (.br (ilt (qu e0) (qu e1)) (qNW [.i (-1)]) (qNW [.i 1])) (let r0:=q2y [.s e0,.s e1];qNU r0 (qNW [.i (gI r0 0)]))):=by kernel_rfl
theorem qqu:yG [.s e0,.s e1]=(let r0:=we [.r [[.s e0],[.s e1]]];qNU r0 (.br (ine (gI r0 0) 0) (qNW [.i 0,.i (gI r0 0)]) (let r1:=yw [.s e0];qNU r1 (let r2:=yw [.s e1];qNU r2 (.br (ilt (gI r1 0) (gI r2 0)) (qNW [.i (-1),.i 0]) (qNU r2 (.br (ilt (gI r2 0) (gI r1 0)) (qNW [.i 1,.i 0]) (let r3:=qW [.s e0,.s [45]];qNU r3 (let r4:=qW [.s e1,.s [45]];qNU r4 (let r5:=q5J [.s (gS r3 0),.s (gS r4 0)];qNU r5 (qNW [.i (wL .i64 (gI r1 0) (gI r5 0)),.i 0]))))))))))):=by kernel_rfl
theorem qpd:q1m [.b d0,.i c1,.r a2,.b d3,.i c4,.r a5]=(let i0:Int:=(zY .i64 c4 1);let b0:Bool:=(ilt i0 0);let b1:Bool:=(ilt 1 c4);let p0:List PV:=[.b d0,.i c1,.r a2,.b d3,.i c4,.r a5];let t0:TR:=(qNW ((.i 1)::p0));let b2:Bool:=(ile c4 i0);let b3:Bool:=(inb i0 232);let i1:Int:=(cI a5 i0 0);let i2:Int:=(qm .i64 i1 1);let b4:Bool:=(ine i2 0);let b5:Bool:=(ine i1 0);let t1:TR:=(.br b0 (qNV b1 t0) (.br b2 (qNV b1 t0) (qNV b3 (qNV b3 (.br b1 (qNV b4 (.br (ilt 0 (qcl .i64 0 i2)) (qNW ((.i (qjL (qcl .i64 0 i2) 999999999))::p0)) t0)) (qNV b5 (.br (ilt 0 (qcl .i64 0 i1)) (qNW ((.i (qjL (qcl .i64 0 i1) 999999999))::p0)) t0)))))));let i3:Int:=(qm .i64 0 (cI a2 i0 0));let t2:TR:=(qNV b1 (.br (ilt 0 (qcl .i64 i3 1)) (qNW ((.i (qjL (qcl .i64 i3 1) 999999999))::p0)) t0));let t3:TR:=(.br b0 t1 (.br (ile c1 i0) t1 (qNV b3 (qNV b3 (.br b0 t2 (.br b2 t2 (qNV b3 (qNV b3 (.br b1 (qNV b4 (.br (ilt 0 (qcl .i64 i3 i2)) (qNW ((.i (qjL (qcl .i64 i3 i2) 999999999))::p0)) t0)) (qNV b5 (.br (ilt 0 (qcl .i64 i3 i1)) (qNW ((.i (qjL (qcl .i64 i3 i1) 999999999))::p0)) t0)))))))))));let i4:Int:=(wL .i64 (cI a2 c4 0) 1000000000);let i5:Int:=(qm .i64 i4 0);let t4:TR:=(qNV b1 (.br (ilt 0 (qcl .i64 i5 1)) (qNW ((.i (qjL (qcl .i64 i5 1) 999999999))::p0)) t0));let t5:TR:=(.br b0 t4 (.br b2 t4 (qNV b3 (qNV b3 (.br b1 (qNV b4 (.br (ilt 0 (qcl .i64 i5 i2)) (qNW ((.i (qjL (qcl .i64 i5 i2) 999999999))::p0)) t0)) (qNV b5 (.br (ilt 0 (qcl .i64 i5 i1)) (qNW ((.i (qjL (qcl .i64 i5 i1) 999999999))::p0)) t0)))))));let i6:Int:=(qm .i64 i4 (cI a2 i0 0));let t6:TR:=(qNV b1 (.br (ilt 0 (qcl .i64 i6 1)) (qNW ((.i (qjL (qcl .i64 i6 1) 999999999))::p0)) t0));(.br (ilt c4 0) t3 (.br (ile c1 c4) t3 (qNV (inb c4 232) (qNV (inb c4 232) (.br b0 t5 (.br (ile c1 i0) t5 (qNV b3 (qNV b3 (.br b0 t6 (.br b2 t6 (qNV b3 (qNV b3 (.br b1 (qNV b4 (.br (ilt 0 (qcl .i64 i6 i2)) (qNW ((.i (qjL (qcl .i64 i6 i2) 999999999))::p0)) t0)) (qNV b5 (.br (ilt 0 (qcl .i64 i6 i1)) (qNW ((.i (qjL (qcl .i64 i6 i1) 999999999))::p0)) t0)))))))))))))))):=by kernel_rfl
theorem qlE:jJ [.i c0,.i c1,.b d2,.i c3,.r a4,.b d5,.i c6,.r a7,.b d8,.i c9,.r a10,.b d11,.i c12,.r a13]=(let r0:=wR [.b d11,.i c12,.r a13,.b d5,.i c6,.r a7];qNU r0 (.br (ile 0 (gI r0 0)) (let r1:=q1m [.b (gB r0 1),.i (gI r0 2),.r (gR r0 3),.b (gB r0 4),.i (gI r0 5),.r (gR r0 6)];qNU r1 (let r2:=qQ [.i (zY .i64 0 (gI r1 0)),.i 0,.b (gB r1 1),.i (gI r1 2),.r (gR r1 3),.b (gB r1 4),.i (gI r1 5),.r (gR r1 6)];qNU r2 (qNW [.i c0,.i (qm .i64 c1 (gI r1 0)),.b d2,.i c3,.r a4,.b (gB r2 3),.i (gI r2 4),.r (gR r2 5),.b d8,.i c9,.r a10,.b (gB r2 0),.i (gI r2 1),.r (gR r2 2)]))) (.leaf (1,[.i c0,.i c1,.b d2,.i c3,.r a4,.b (gB r0 4),.i (gI r0 5),.r (gR r0 6),.b d8,.i c9,.r a10,.b (gB r0 1),.i (gI r0 2),.r (gR r0 3)])))):=by kernel_rfl
theorem qm9:kR [.i c0,.b d1,.i c2,.r a3,.b d4,.i c5,.r a6,.b d7,.i c8,.r a9,.b d10,.i c11,.r a12]=(.br (ile 0 c0) (qNV (q6E 232 232) (qNV (q6E 1 232) (qNV (q6E c11 232) (qNV (q6E 0 c11) (qNV (inb c0 232) (qNV (inb c0 232) (let r0:=qL [.b d10,.i (qm .i64 c11 1),.r (qaz (qmH a12 1 a12 0 (qjL (qB6 c11 0) (qB6 232 1))) 0 0 [.i (cI a3 c0 0)])];qNU r0 (let r1:=qf jJ [.i c0,.i 0,.b d1,.i c2,.r a3,.b d4,.i c5,.r a6,.b d7,.i c8,.r a9,.b (gB r0 0),.i (gI r0 1),.r (gR r0 2)];qNU r1 (qNV (inb (gI r1 0) 232) (qNV (inb (gI r1 0) 232) (qNW [.i (zY .i64 (gI r1 0) 1),.b (gB r1 2),.i (gI r1 3),.r (gR r1 4),.b (gB r1 5),.i (gI r1 6),.r (gR r1 7),.b (gB r1 8),.i (quL (gI r1 9) (qm .i64 (gI r1 0) 1)),.r (qaz (gR r1 10) (gI r1 0) 0 [.i (gI r1 1)]),.b (gB r1 11),.i (gI r1 12),.r (gR r1 13)]))))))))))) (.leaf (1,[.b d1,.i c2,.r a3,.b d4,.i c5,.r a6,.b d7,.i c8,.r a9,.b d10,.i c11,.r a12]))):=by kernel_rfl
theorem qqy:yI [.b d0,.i c1,.r a2,.b d3,.i c4,.r a5]=(let r0:=qf kR [.i (zY .i64 c1 1),.b d0,.i c1,.r a2,.b d3,.i c4,.r a5,.b false,.i 0,.r (q3f 232 [.i 0]),.b false,.i 0,.r (q3f 232 [.i 0])];qNU r0 (let r1:=qL [.b (gB r0 6),.i (gI r0 7),.r (gR r0 8)];qNU r1 (qNW [.b (gB r0 0),.i (gI r0 1),.r (gR r0 2),.b (gB r0 3),.i (gI r0 4),.r (gR r0 5),.b (gB r1 0),.i (gI r1 1),.r (gR r1 2),.b (gB r0 9),.i (gI r0 10),.r (gR r0 11)]))):=by kernel_rfl
theorem qrD:q1D [.i c0,.i c1]=(.br (ine c1 0) (qNV (ine c1 0) (qNW [.i c1,.i (qby c0 c1)])) (.leaf (1,[.i c0]))):=by kernel_rfl
theorem quT:q64 [.b d0,.i c1,.r a2,.b d3,.i c4,.r a5]=(let t0:=qf q1D [.i (cI a2 0 0),.i (cI a5 0 0)];let t1:=wB [.i (gI t0 0)];let t2:=yI [.b d0,.i c1,.r a2,.b d3,.i c4,.r a5];let t3:TR:=(qNU t2 (qNW [.b (gB t2 3),.i (gI t2 4),.r (gR t2 5),.b (gB t2 9),.i (gI t2 10),.r (gR t2 11)]));(.br (ilt 0 c4) (.br (ile c1 1) (.br (ile c4 1) (qNU t0 (qNU t1 (.leaf (2,[.s (gS t1 0),.i 0])))) t3) t3) (.leaf (1,[.b d0,.i c1,.r a2])))):=by kernel_rfl
theorem qz2:q2p [.s e0,.s e1]=(let r0:=we [.r [[.s e0],[.s e1]]];qNU r0 (.br (ine (gI r0 0) 0) (qNW [.s [],.i (gI r0 0)]) (let r1:=wy [.s e0];qNU r1 (let r2:=wy [.s e1];qNU r2 (let r3:=qf q64 [.b (gB r1 0),.i (gI r1 1),.r (gR r1 2),.b (gB r2 0),.i (gI r2 1),.r (gR r2 2)];qNU r3 (.br (jIs r3 0) (let r4:=zb [.b false,.i (gI r3 1),.r (gR r3 2)];qNU r4 (qNW [.s (gS r4 0),.i 0])) (qNW [.s (gS r3 0),.i (gI r3 1)]))))))):=by kernel_rfl
theorem qtX:zp [.s e0]=(let t0:=qS [.s e0];let t1:=qV [.s (gS t0 0)];let p0:List PV:=[.s (gS t0 1)];let t2:TR:=(qNW [.i 3]);let i0:Int:=(gI (qV p0) 0);let t3:TR:=(qNW [.i (quL (gI t1 0) i0)]);let t4:TR:=(qNW [.i 0]);let t5:=yG [.s (gS t0 1),.s [49]];let t6:=q2p ((.s (gS t0 0))::p0);(qNU t0 (qNU t1 (qNU (qV p0) (.br (ieq (gI t1 0) 3) t2 (.br (ieq i0 3) t2 (.br (ine (gI t1 0) 0) t3 (.br (ine i0 0) t3 (.br (not (gB t0 2)) t4 (qNU t5 (qNU t6 (.br (ine (gI t5 1) 0) t2 (.br (ine (gI t6 1) 0) t2 (.br (ile (gI t5 0) 0) t2 (.br (not (seq (gS t6 0) [49])) t2 t4))))))))))))))):=by kernel_rfl
theorem qec:q16 [.r a0,.i c1,.i c2]=(.br (ilt c2 c1) (qNV (inb c2 (qg a0)) (let r0:=zp [.s (cS a0 c2 0)];qNU r0 (.br (ine (gI r0 0) 0) (.leaf (2,[.i (gI r0 0)])) (qNW [.r a0,.i c1,.i (qm .i64 c2 1)])))) (.leaf (1,[]))):=by kernel_rfl
theorem qsO:qA [.r a0]=(let r0:=qf q16 [.r a0,.i (qg a0),.i 0];qNU r0 (.br (jIs r0 0) (qNW [.i 0]) (qNW [.i (gI r0 0)]))):=by kernel_rfl
theorem qjV:yO [.s e0,.s e1]=(let r0:=qC [.s e0,.s e1];qNU r0 (qNW [.b (gB r0 0)])):=by kernel_rfl
theorem qt9:q1w [.s e0,.s e1]=(.br (seq e1 [49]) (qNW [.s e0]) (qNV (ile ((qu e0)+(qu [47])) 140737488355328) (qNV (ile ((qu (qeJ e0 [47]))+(qu e1)) 140737488355328) (qNW [.s (qeJ (qeJ e0 [47]) e1)])))):=by kernel_rfl
theorem qsg:q3s [.s e0,.s e1]=(let t0:=we [.r [[.s e0],[.s e1]]];let t1:=yg [.s e0,.s e1];let i0:Int:=(gI t1 1);let i1:Int:=(qby (gI t1 0) i0);let i2:Int:=(qcl .i64 (gI t1 0) i0);let t2:=wB [.i (zY .i64 i2 1)];let t3:=wB [.i (qm .i64 i1 i0)];let t4:TR:=(qNU (wB [.i i2]) (qNU (wB [.i i1]) (qNW [.s (gS (wB [.i i2]) 0),.s (gS (wB [.i i1]) 0),.i 0])));let t5:=wy [.s e0];let t6:=wy [.s e1];let t7:=yI [.b (gB t5 0),.i (gI t5 1),.r (gR t5 2),.b (gB t6 0),.i (gI t6 1),.r (gR t6 2)];let b0:Bool:=(not (beq (gB t7 0) (gB t7 3)));let t8:=vd [.b true,.i (gI t7 7),.r (gR t7 8),.b true,.i 1,.r (qaz (q3f 232 [.i 0]) 0 0 [.i 1])];let t9:=vd [.b (gB t7 0),.i (gI t7 10),.r (gR t7 11),.b (gB t7 3),.i (gI t7 4),.r (gR t7 5)];let t10:=zb [.b (gB t8 0),.i (gI t8 1),.r (gR t8 2)];let t11:=zb [.b (gB t9 0),.i (gI t9 1),.r (gR t9 2)];let t12:=zb [.b b0,.i (gI t7 7),.r (gR t7 8)];let t13:=zb [.b (gB t7 0),.i (gI t7 10),.r (gR t7 11)];let t14:TR:=(qNU t12 (qNU t13 (qNW [.s (gS t12 0),.s (gS t13 0),.i 0])));(qNU t0 (.br (ine (gI t0 0) 0) (qNW [.s [],.s [],.i (gI t0 0)]) (.br (seq e1 [48]) (qNW [.s [],.s [],.i 10]) (qNU t1 (.br (gB t1 2) (qNV (ine i0 0) (qNV (ine i0 0) (.br (ine i1 0) (.br (not (beq (ilt i1 0) (ilt i0 0))) (qNU t2 (qNU t3 (qNW [.s (gS t2 0),.s (gS t3 0),.i 0]))) t4) t4))) (qNU t5 (qNU t6 (qNU t7 (.br (ilt 0 (gI t7 10)) (.br b0 (qNU t8 (qNU t9 (qNU t10 (qNU t11 (qNW [.s (gS t10 0),.s (gS t11 0),.i 0]))))) t14) t14)))))))))):=by kernel_rfl
theorem qyR:q7s [.s e0,.s e1]=(let r0:=q3s [.s e0,.s e1];qNU r0 (.br (ine (gI r0 2) 0) (qNW [.s [],.i (gI r0 2)]) (let r1:=qV [.s (gS r0 0)];qNU r1 (.br (ine (gI r1 0) 0) (qNW [.s [],.i (gI r1 0)]) (qNW [.s (gS r0 0),.i 0]))))):=by kernel_rfl
theorem qbz:wK [.s e0,.s e1,.i c2]=(.br (ine c2 0) (qNW [.s [48],.i c2]) (let r0:=q2p [.s e0,.s e1];qNU r0 (.br (ine (gI r0 1) 0) (qNW [.s [48],.i (gI r0 1)]) (qNW [.s (gS r0 0),.i (gI r0 1)])))):=by kernel_rfl
theorem qbx:qN [.s e0,.s e1,.i c2]=(.br (ine c2 0) (qNW [.s [48],.i c2]) (let r0:=q7s [.s e0,.s e1];qNU r0 (.br (ine (gI r0 1) 0) (qNW [.s [48],.i (gI r0 1)]) (qNW [.s (gS r0 0),.i (gI r0 1)])))):=by kernel_rfl
theorem qjZ:qT [.s e0,.s e1,.i c2]=(let r0:=wK [.s e0,.s e1,.i c2];qNU r0 (let r1:=yO [.s e1,.s [45]];qNU r1 (.br (gB r1 0) (let r2:=vV [.s [48],.s (gS r0 0),.i (gI r0 1)];qNU r2 (.br (ine (gI r2 1) 0) (qNW [.s [],.i (gI r2 1)]) (let r3:=qN [.s e0,.s (gS r2 0),.i (gI r2 1)];qNU r3 (let r4:=qN [.s e1,.s (gS r2 0),.i (gI r3 1)];qNU r4 (let r5:=q1w [.s (gS r3 0),.s (gS r4 0)];qNU r5 (qNW [.s (gS r5 0),.i (gI r4 1)])))))) (.br (ine (gI r0 1) 0) (qNW [.s [],.i (gI r0 1)]) (let r2:=qN [.s e0,.s (gS r0 0),.i (gI r0 1)];qNU r2 (let r3:=qN [.s e1,.s (gS r0 0),.i (gI r2 1)];qNU r3 (let r4:=q1w [.s (gS r2 0),.s (gS r3 0)];qNU r4 (qNW [.s (gS r4 0),.i (gI r3 1)])))))))):=by kernel_rfl
theorem qcw:wT [.s e0,.s e1]=(let r0:=qA [.r [[.s e0],[.s e1]]];qNU r0 (.br (ine (gI r0 0) 0) (qNW [.s [],.i (gI r0 0)]) (let r1:=qS [.s e0];qNU r1 (let r2:=qS [.s e1];qNU r2 (let r3:=q2B [.s (gS r1 0),.s (gS r1 1),.s (gS r2 0),.s (gS r2 1),.i 0];qNU r3 (.br (ine (gI r3 2) 0) (qNW [.s [],.i (gI r3 2)]) (.br (seq (gS r3 1) [48]) (qNW [.s [],.i 10]) (let r4:=qT [.s (gS r3 0),.s (gS r3 1),.i (gI r3 2)];qNU r4 (qNW [.s (gS r4 0),.i (gI r4 1)]))))))))):=by kernel_rfl
theorem qzm:wn [.s e0,.s e1]=(let r0:=wT [.s e0,.s e1];qNU r0 (qNW [.s (gS r0 0),.i (gI r0 1)])):=by kernel_rfl
theorem qhd:qB [.i c0,.i c1,.i c2]=(qNW [.i c0,.i c1,.i c2]):=by kernel_rfl
theorem qgg:q0i [.i c0,.i c1,.i c2,.i c3,.i c4,.i c5,.i c6,.i c7,.i c8,.i c9,.i c10]=(let b0:Bool:=(ieq c1 2);let p0:List PV:=[.i (qm .i64 c1 1),.i c2,.i c3,.i c4,.i c5,.i c6,.i c7,.i c8,.i c9,.i c10];let i0:Int:=(zY .i64 c7 c4);let i1:Int:=(zY .i64 c10 c4);let b1:Bool:=(ieq c1 1);let i2:Int:=(zY .i64 c10 c3);let b2:Bool:=(ieq c1 0);let i3:Int:=(zY .i64 c10 c2);let i4:Int:=(zY .i64 c9 c4);let i5:Int:=(zY .i64 c9 c3);let i6:Int:=(zY .i64 c9 c2);let i7:Int:=(zY .i64 c8 c4);let i8:Int:=(zY .i64 c8 c3);let i9:Int:=(zY .i64 c8 c2);let i10:Int:=(zY .i64 c7 c3);let i11:Int:=(zY .i64 c7 c2);let i12:Int:=(zY .i64 c6 c4);let i13:Int:=(zY .i64 c6 c3);let i14:Int:=(zY .i64 c6 c2);let i15:Int:=(zY .i64 c5 c4);let i16:Int:=(zY .i64 c5 c3);let i17:Int:=(zY .i64 c5 c2);(.br (ilt c1 3) (.br b0 (.br b0 (.br b0 (.br b0 (qNW ((.i (qm .i64 c0 (wL .i64 i0 i1)))::p0)) (.br b1 (qNW ((.i (qm .i64 c0 (wL .i64 i0 i2)))::p0)) (qNV b2 (qNW ((.i (qm .i64 c0 (wL .i64 i0 i3)))::p0))))) (.br b1 (.br b0 (qNW ((.i (qm .i64 c0 (wL .i64 i0 i4)))::p0)) (.br b1 (qNW ((.i (qm .i64 c0 (wL .i64 i0 i5)))::p0)) (qNV b2 (qNW ((.i (qm .i64 c0 (wL .i64 i0 i6)))::p0))))) (qNV b2 (.br b0 (qNW ((.i (qm .i64 c0 (wL .i64 i0 i7)))::p0)) (.br b1 (qNW ((.i (qm .i64 c0 (wL .i64 i0 i8)))::p0)) (qNV b2 (qNW ((.i (qm .i64 c0 (wL .i64 i0 i9)))::p0)))))))) (.br b1 (.br b0 (.br b0 (qNW ((.i (qm .i64 c0 (wL .i64 i10 i1)))::p0)) (.br b1 (qNW ((.i (qm .i64 c0 (wL .i64 i10 i2)))::p0)) (qNV b2 (qNW ((.i (qm .i64 c0 (wL .i64 i10 i3)))::p0))))) (.br b1 (.br b0 (qNW ((.i (qm .i64 c0 (wL .i64 i10 i4)))::p0)) (.br b1 (qNW ((.i (qm .i64 c0 (wL .i64 i10 i5)))::p0)) (qNV b2 (qNW ((.i (qm .i64 c0 (wL .i64 i10 i6)))::p0))))) (qNV b2 (.br b0 (qNW ((.i (qm .i64 c0 (wL .i64 i10 i7)))::p0)) (.br b1 (qNW ((.i (qm .i64 c0 (wL .i64 i10 i8)))::p0)) (qNV b2 (qNW ((.i (qm .i64 c0 (wL .i64 i10 i9)))::p0)))))))) (qNV b2 (.br b0 (.br b0 (qNW ((.i (qm .i64 c0 (wL .i64 i11 i1)))::p0)) (.br b1 (qNW ((.i (qm .i64 c0 (wL .i64 i11 i2)))::p0)) (qNV b2 (qNW ((.i (qm .i64 c0 (wL .i64 i11 i3)))::p0))))) (.br b1 (.br b0 (qNW ((.i (qm .i64 c0 (wL .i64 i11 i4)))::p0)) (.br b1 (qNW ((.i (qm .i64 c0 (wL .i64 i11 i5)))::p0)) (qNV b2 (qNW ((.i (qm .i64 c0 (wL .i64 i11 i6)))::p0))))) (qNV b2 (.br b0 (qNW ((.i (qm .i64 c0 (wL .i64 i11 i7)))::p0)) (.br b1 (qNW ((.i (qm .i64 c0 (wL .i64 i11 i8)))::p0)) (qNV b2 (qNW ((.i (qm .i64 c0 (wL .i64 i11 i9)))::p0))))))))))) (.br b1 (.br b0 (.br b0 (.br b0 (qNW ((.i (qm .i64 c0 (wL .i64 i12 i1)))::p0)) (.br b1 (qNW ((.i (qm .i64 c0 (wL .i64 i12 i2)))::p0)) (qNV b2 (qNW ((.i (qm .i64 c0 (wL .i64 i12 i3)))::p0))))) (.br b1 (.br b0 (qNW ((.i (qm .i64 c0 (wL .i64 i12 i4)))::p0)) (.br b1 (qNW ((.i (qm .i64 c0 (wL .i64 i12 i5)))::p0)) (qNV b2 (qNW ((.i (qm .i64 c0 (wL .i64 i12 i6)))::p0))))) (qNV b2 (.br b0 (qNW ((.i (qm .i64 c0 (wL .i64 i12 i7)))::p0)) (.br b1 (qNW ((.i (qm .i64 c0 (wL .i64 i12 i8)))::p0)) (qNV b2 (qNW ((.i (qm .i64 c0 (wL .i64 i12 i9)))::p0)))))))) (.br b1 (.br b0 (.br b0 (qNW ((.i (qm .i64 c0 (wL .i64 i13 i1)))::p0)) (.br b1 (qNW ((.i (qm .i64 c0 (wL .i64 i13 i2)))::p0)) (qNV b2 (qNW ((.i (qm .i64 c0 (wL .i64 i13 i3)))::p0))))) (.br b1 (.br b0 (qNW ((.i (qm .i64 c0 (wL .i64 i13 i4)))::p0)) (.br b1 (qNW ((.i (qm .i64 c0 (wL .i64 i13 i5)))::p0)) (qNV b2 (qNW ((.i (qm .i64 c0 (wL .i64 i13 i6)))::p0))))) (qNV b2 (.br b0 (qNW ((.i (qm .i64 c0 (wL .i64 i13 i7)))::p0)) (.br b1 (qNW ((.i (qm .i64 c0 (wL .i64 i13 i8)))::p0)) (qNV b2 (qNW ((.i (qm .i64 c0 (wL .i64 i13 i9)))::p0)))))))) (qNV b2 (.br b0 (.br b0 (qNW ((.i (qm .i64 c0 (wL .i64 i14 i1)))::p0)) (.br b1 (qNW ((.i (qm .i64 c0 (wL .i64 i14 i2)))::p0)) (qNV b2 (qNW ((.i (qm .i64 c0 (wL .i64 i14 i3)))::p0))))) (.br b1 (.br b0 (qNW ((.i (qm .i64 c0 (wL .i64 i14 i4)))::p0)) (.br b1 (qNW ((.i (qm .i64 c0 (wL .i64 i14 i5)))::p0)) (qNV b2 (qNW ((.i (qm .i64 c0 (wL .i64 i14 i6)))::p0))))) (qNV b2 (.br b0 (qNW ((.i (qm .i64 c0 (wL .i64 i14 i7)))::p0)) (.br b1 (qNW ((.i (qm .i64 c0 (wL .i64 i14 i8)))::p0)) (qNV b2 (qNW ((.i (qm .i64 c0 (wL .i64 i14 i9)))::p0))))))))))) (qNV b2 (.br b0 (.br b0 (.br b0 (qNW ((.i (qm .i64 c0 (wL .i64 i15 i1)))::p0)) (.br b1 (qNW ((.i (qm .i64 c0 (wL .i64 i15 i2)))::p0)) (qNV b2 (qNW ((.i (qm .i64 c0 (wL .i64 i15 i3)))::p0))))) (.br b1 (.br b0 (qNW ((.i (qm .i64 c0 (wL .i64 i15 i4)))::p0)) (.br b1 (qNW ((.i (qm .i64 c0 (wL .i64 i15 i5)))::p0)) (qNV b2 (qNW ((.i (qm .i64 c0 (wL .i64 i15 i6)))::p0))))) (qNV b2 (.br b0 (qNW ((.i (qm .i64 c0 (wL .i64 i15 i7)))::p0)) (.br b1 (qNW ((.i (qm .i64 c0 (wL .i64 i15 i8)))::p0)) (qNV b2 (qNW ((.i (qm .i64 c0 (wL .i64 i15 i9)))::p0)))))))) (.br b1 (.br b0 (.br b0 (qNW ((.i (qm .i64 c0 (wL .i64 i16 i1)))::p0)) (.br b1 (qNW ((.i (qm .i64 c0 (wL .i64 i16 i2)))::p0)) (qNV b2 (qNW ((.i (qm .i64 c0 (wL .i64 i16 i3)))::p0))))) (.br b1 (.br b0 (qNW ((.i (qm .i64 c0 (wL .i64 i16 i4)))::p0)) (.br b1 (qNW ((.i (qm .i64 c0 (wL .i64 i16 i5)))::p0)) (qNV b2 (qNW ((.i (qm .i64 c0 (wL .i64 i16 i6)))::p0))))) (qNV b2 (.br b0 (qNW ((.i (qm .i64 c0 (wL .i64 i16 i7)))::p0)) (.br b1 (qNW ((.i (qm .i64 c0 (wL .i64 i16 i8)))::p0)) (qNV b2 (qNW ((.i (qm .i64 c0 (wL .i64 i16 i9)))::p0)))))))) (qNV b2 (.br b0 (.br b0 (qNW ((.i (qm .i64 c0 (wL .i64 i17 i1)))::p0)) (.br b1 (qNW ((.i (qm .i64 c0 (wL .i64 i17 i2)))::p0)) (qNV b2 (qNW ((.i (qm .i64 c0 (wL .i64 i17 i3)))::p0))))) (.br b1 (.br b0 (qNW ((.i (qm .i64 c0 (wL .i64 i17 i4)))::p0)) (.br b1 (qNW ((.i (qm .i64 c0 (wL .i64 i17 i5)))::p0)) (qNV b2 (qNW ((.i (qm .i64 c0 (wL .i64 i17 i6)))::p0))))) (qNV b2 (.br b0 (qNW ((.i (qm .i64 c0 (wL .i64 i17 i7)))::p0)) (.br b1 (qNW ((.i (qm .i64 c0 (wL .i64 i17 i8)))::p0)) (qNV b2 (qNW ((.i (qm .i64 c0 (wL .i64 i17 i9)))::p0)))))))))))))) (.leaf (1,[.i c0])))):=by kernel_rfl
theorem qu5:q0L [.i c0,.i c1,.i c2,.i c3,.i c4,.i c5,.i c6,.i c7,.i c8]=(let r0:=qB [.i c0,.i c1,.i c2];qNU r0 (let r1:=qB [.i c3,.i c4,.i c5];qNU r1 (let r2:=qB [.i c6,.i c7,.i c8];qNU r2 (let r3:=qf q0i [.i 0,.i 0,.i (gI r0 0),.i (gI r0 1),.i (gI r0 2),.i (gI r1 0),.i (gI r1 1),.i (gI r1 2),.i (gI r2 0),.i (gI r2 1),.i (gI r2 2)];qNU r3 (qNW [.i (gI r3 0)]))))):=by kernel_rfl
theorem quY:vE [.i c0]=(.br (ile 0 c0) (qNW [.b (ile c0 16)]) (qNW [.b false])):=by kernel_rfl
theorem quG:uH [.i c0,.i c1,.r a2,.i c3]=(qNV (inb (qm .i64 (wL .i64 c0 c3) c1) (qg a2)) (let r0:=wP [.i (cI a2 (qm .i64 (wL .i64 c0 c3) c1) 0)];qNU r0 (qNW [.s (gS r0 0),.r a2,.i c3]))):=by kernel_rfl
theorem qe7:ul [.i c0,.i c1,.i c2,.i c3,.i c4,.i c5,.r a6,.i c7,.i c8,.i c9,.i c10,.i c11,.r a12]=(.br (ilt c5 c4) (let r0:=uH [.i c1,.i c5,.r a6,.i c7];qNU r0 (qNV (ile ((qg a12)+(qg [[.s (gS r0 0)]])) 8796093022208) (qNW [.i c0,.i c1,.i c2,.i c3,.i c4,.i (qm .i64 c5 1),.r (gR r0 1),.i (gI r0 2),.i c8,.i c9,.i c10,.i c11,.r (zD a12 [[.s (gS r0 0)]])]))) (.leaf (1,[.i c0,.i c2,.i c3,.r a6,.i c7,.i c8,.i c9,.i c10,.i c11,.r a12]))):=by kernel_rfl
theorem qfZ:q0d [.i c0,.i c1,.i c2,.r a3,.i c4,.i c5,.i c6,.i c7,.i c8,.r a9]=(.br (ilt c2 c1) (let r0:=qf ul [.i c0,.i c2,.i c1,.i c2,.i c0,.i 0,.r a3,.i c4,.i c5,.i c6,.i c7,.i c8,.r a9];qNU r0 (qNW [.i (gI r0 0),.i (gI r0 1),.i (qm .i64 (gI r0 2) 1),.r (gR r0 3),.i (gI r0 4),.i (gI r0 5),.i (gI r0 6),.i (gI r0 7),.i (gI r0 8),.r (gR r0 9)])) (.leaf (1,[.r a3,.i c4,.i c5,.i c6,.i c7,.i c8,.r a9]))):=by kernel_rfl
theorem qvh:q5m [.i c0,.i c1,.r a2,.i c3]=(let r0:=qf q0d [.i c1,.i c0,.i 0,.r a2,.i c3,.i 0,.i 0,.i c0,.i c1,.r []];qNU r0 (qNW [.i (gI r0 4),.i (gI r0 5),.r (gR r0 6),.r (gR r0 0),.i (gI r0 1)])):=by kernel_rfl
theorem qzf:qar [.i c0,.i c1,.r a2]=(let r0:=vE [.i c0];qNU r0 (.br (not (gB r0 0)) (qNW [.i 0,.i 0,.r [],.i 2]) (let r1:=vE [.i c1];qNU r1 (.br (not (gB r1 0)) (qNW [.i 0,.i 0,.r [],.i 2]) (.br (ine (qg a2) (wL .i64 c0 c1)) (qNW [.i 0,.i 0,.r [],.i 8]) (let r2:=q5m [.i c0,.i c1,.r a2,.i c1];qNU r2 (qNW [.i (gI r2 0),.i (gI r2 1),.r (gR r2 2),.i 0]))))))):=by kernel_rfl
theorem qaJ:jL [.r a0,.i c1,.i c2]=(.br (ilt c2 c1) (qNV (inb c2 (qg a0)) (let r0:=zp [.s (cS a0 c2 0)];qNU r0 (.br (ine (gI r0 0) 0) (.leaf (2,[.i (gI r0 0)])) (qNW [.r a0,.i c1,.i (qm .i64 c2 1)])))) (.leaf (1,[]))):=by kernel_rfl
theorem qp9:vU [.r a0]=(let r0:=qf jL [.r a0,.i (qg a0),.i 0];qNU r0 (.br (jIs r0 0) (qNW [.i 0]) (qNW [.i (gI r0 0)]))):=by kernel_rfl
theorem qsM:jq [.i c0,.i c1,.r a2]=(qNU (vE [.i c0]) (.br (not (gB (vE [.i c0]) 0)) (qNW [.i 2]) (qNU (vE [.i c1]) (.br (not (gB (vE [.i c1]) 0)) (qNW [.i 2]) (.br (ine (qg a2) (wL .i64 c0 c1)) (qNW [.i 8]) (qNU (vU [.r a2]) (qNW [.i (gI (vU [.r a2]) 0)]))))))):=by kernel_rfl
theorem quR:q37 [.s e0,.s e1,.s e2,.s e3,.i c4]=(let r0:=qp [.r [[.s e0],[.s e2]],.i c4];qNU r0 (let r1:=qp [.r [[.s e1],[.s e3]],.i (gI r0 1)];qNU r1 (qNW [.s (gS r0 0),.s (gS r1 0),.i (gI r1 1)]))):=by kernel_rfl
theorem qda:wZ [.s e0,.s e1]=(let r0:=qA [.r [[.s e0],[.s e1]]];qNU r0 (.br (ine (gI r0 0) 0) (qNW [.s [],.i (gI r0 0)]) (let r1:=qS [.s e0];qNU r1 (let r2:=qS [.s e1];qNU r2 (let r3:=q37 [.s (gS r1 0),.s (gS r1 1),.s (gS r2 0),.s (gS r2 1),.i 0];qNU r3 (.br (ine (gI r3 2) 0) (qNW [.s [],.i (gI r3 2)]) (.br (seq (gS r3 1) [48]) (qNW [.s [],.i 10]) (let r4:=qT [.s (gS r3 0),.s (gS r3 1),.i (gI r3 2)];qNU r4 (qNW [.s (gS r4 0),.i (gI r4 1)]))))))))):=by kernel_rfl
theorem qzz:vK [.s e0,.s e1]=(let r0:=wZ [.s e0,.s e1];qNU r0 (qNW [.s (gS r0 0),.i (gI r0 1)])):=by kernel_rfl
theorem quJ:q34 [.s e0,.s e1,.s e2,.s e3,.i c4]=(let r0:=qp [.r [[.s e0],[.s e3]],.i c4];qNU r0 (let r1:=qp [.r [[.s e1],[.s e2]],.i (gI r0 1)];qNU r1 (qNW [.s (gS r0 0),.s (gS r1 0),.i (gI r1 1)]))):=by kernel_rfl
theorem qcG:v8 [.s e0,.s e1]=(let r0:=qA [.r [[.s e0],[.s e1]]];qNU r0 (.br (ine (gI r0 0) 0) (qNW [.s [],.i (gI r0 0)]) (let r1:=qS [.s e0];qNU r1 (let r2:=qS [.s e1];qNU r2 (let r3:=q34 [.s (gS r1 0),.s (gS r1 1),.s (gS r2 0),.s (gS r2 1),.i 0];qNU r3 (.br (ine (gI r3 2) 0) (qNW [.s [],.i (gI r3 2)]) (.br (seq (gS r3 1) [48]) (qNW [.s [],.i 10]) (let r4:=qT [.s (gS r3 0),.s (gS r3 1),.i (gI r3 2)];qNU r4 (qNW [.s (gS r4 0),.i (gI r4 1)]))))))))):=by kernel_rfl
theorem qA4:q4i [.s e0,.s e1]=(let r0:=qA [.r [[.s e0],[.s e1]]];qNU r0 (.br (ine (gI r0 0) 0) (qNW [.s [],.i (gI r0 0)]) (.br (seq e1 [48]) (qNW [.s [],.i 10]) (let r1:=v8 [.s e0,.s e1];qNU r1 (qNW [.s (gS r1 0),.i (gI r1 1)]))))):=by kernel_rfl
theorem qbu:wN [.s e0,.s e1,.i c2]=(.br (ine c2 0) (qNW [.s [48],.i c2]) (let r0:=q2i [.s e0,.s e1];qNU r0 (.br (ine (gI r0 1) 0) (qNW [.s [48],.i (gI r0 1)]) (qNW [.s (gS r0 0),.i (gI r0 1)])))):=by kernel_rfl
theorem qol:q1e [.s e0,.s e1,.i c2]=(let r0:=wN [.s e0,.s e1,.i c2];qNU r0 (qNW [.s (gS r0 0),.i (gI r0 1)])):=by kernel_rfl
theorem qus:q2D [.s e0,.s e1,.s e2,.s e3,.i c4]=(let r0:=qp [.r [[.s e0],[.s e3]],.i c4];qNU r0 (let r1:=qp [.r [[.s e2],[.s e1]],.i (gI r0 1)];qNU r1 (let r2:=q1e [.s (gS r0 0),.s (gS r1 0),.i (gI r1 1)];qNU r2 (let r3:=qp [.r [[.s e1],[.s e3]],.i (gI r2 1)];qNU r3 (qNW [.s (gS r2 0),.s (gS r3 0),.i (gI r3 1)]))))):=by kernel_rfl
theorem qdg:wY [.s e0,.s e1]=(let r0:=qA [.r [[.s e0],[.s e1]]];qNU r0 (.br (ine (gI r0 0) 0) (qNW [.s [],.i (gI r0 0)]) (let r1:=qS [.s e0];qNU r1 (let r2:=qS [.s e1];qNU r2 (let r3:=q2D [.s (gS r1 0),.s (gS r1 1),.s (gS r2 0),.s (gS r2 1),.i 0];qNU r3 (.br (ine (gI r3 2) 0) (qNW [.s [],.i (gI r3 2)]) (.br (seq (gS r3 1) [48]) (qNW [.s [],.i 10]) (let r4:=qT [.s (gS r3 0),.s (gS r3 1),.i (gI r3 2)];qNU r4 (qNW [.s (gS r4 0),.i (gI r4 1)]))))))))):=by kernel_rfl
theorem qzu:yQ [.s e0,.s e1]=(let r0:=wY [.s e0,.s e1];qNU r0 (qNW [.s (gS r0 0),.i (gI r0 1)])):=by kernel_rfl
theorem qjS:wQ [.s e0,.i c1,.i c2]=(let t0:TR:=(.br (ine c2 0) (qNW [.s [48],.i c2]) (qNW [.s e0,.i c2]));(.br (ine c1 0) (.br (ieq c2 0) (.br (ine c1 0) (qNW [.s [48],.i c1]) (qNW [.s e0,.i c1])) t0) t0)):=by kernel_rfl
theorem qlF:ur [.s e0,.s e1,.i c2]=(let r0:=yQ [.s e0,.s e1];qNU r0 (let r1:=wQ [.s (gS r0 0),.i (gI r0 1),.i c2];qNU r1 (qNW [.s (gS r1 0),.i (gI r1 1)]))):=by kernel_rfl
theorem qlD:uA [.s e0,.s e1,.i c2]=(let r0:=vK [.s e0,.s e1];qNU r0 (let r1:=wQ [.s (gS r0 0),.i (gI r0 1),.i c2];qNU r1 (qNW [.s (gS r1 0),.i (gI r1 1)]))):=by kernel_rfl
theorem qsf:q3N [.i c0,.i c1,.r a2,.i c3,.i c4]=(qNV (inb (qm .i64 (wL .i64 c3 c1) c4) (qg a2)) (qNW [.s (cS a2 (qm .i64 (wL .i64 c3 c1) c4) 0)])):=by kernel_rfl
theorem qce:yD [.r a0,.i c1,.s e2,.i c3,.i c4,.r a5,.i c6,.i c7,.i c8,.i c9,.r a10,.i c11,.r a12]=(.br (ilt c7 c6) (qNV (inb c7 (qg a5)) (let r0:=q3N [.i c8,.i c9,.r a10,.i c1,.i c7];qNU r0 (let r1:=uA [.s (gS r0 0),.s (cS a5 c7 0),.i c11];qNU r1 (let r2:=ur [.s e2,.s (gS r1 0),.i (gI r1 1)];qNU r2 (qNW [.r a0,.i c1,.s (gS r2 0),.i c3,.i c4,.r a5,.i c6,.i (qm .i64 c7 1),.i c8,.i c9,.r a10,.i (gI r2 1),.r a12]))))) (.leaf (1,[.r a0,.s e2,.i c3,.i c4,.i c8,.i c9,.r a10,.i c11,.r a12]))):=by kernel_rfl
theorem qc7:yx [.r a0,.i c1,.i c2,.i c3,.i c4,.r a5,.i c6,.r a7]=(.br (ilt c2 c1) (let r0:=qf yD [.r a0,.i c2,.s [48],.i c1,.i c2,.r a0,.i (qg a0),.i 0,.i c3,.i c4,.r a5,.i c6,.r a7];qNU r0 (qNV (ile ((qg (gR r0 8))+(qg [[.s (gS r0 1)]])) 8796093022208) (qNW [.r (gR r0 0),.i (gI r0 2),.i (qm .i64 (gI r0 3) 1),.i (gI r0 4),.i (gI r0 5),.r (gR r0 6),.i (gI r0 7),.r (zD (gR r0 8) [[.s (gS r0 1)]])]))) (.leaf (1,[.i c6,.r a7]))):=by kernel_rfl
theorem qrQ:q3p [.i c0,.i c1,.r a2,.r a3]=(let r0:=jq [.i c0,.i c1,.r a2];qNU r0 (.br (ine (gI r0 0) 0) (qNW [.r [],.i (gI r0 0)]) (.br (ine (qg a3) c1) (qNW [.r [],.i 8]) (let r1:=vU [.r a3];qNU r1 (.br (ine (gI r1 0) 0) (qNW [.r [],.i (gI r1 0)]) (let r2:=qf yx [.r a3,.i c0,.i 0,.i c0,.i c1,.r a2,.i 0,.r []];qNU r2 (.br (ine (gI r2 0) 0) (qNW [.r [],.i (gI r2 0)]) (qNW [.r (gR r2 1),.i 0])))))))):=by kernel_rfl
theorem qij:q1t [.s e0,.r a1,.i c2,.i c3]=(.br (ilt c3 c2) (qNV (inb c3 (qg a1)) (let r0:=yQ [.s e0,.s (cS a1 c3 0)];qNU r0 (.br (ine (gI r0 1) 0) (.leaf (2,[.s [],.i (gI r0 1)])) (qNW [.s (gS r0 0),.r a1,.i c2,.i (qm .i64 c3 1)])))) (.leaf (1,[.s e0]))):=by kernel_rfl
theorem qzq:qaT [.r a0]=(.br (ilt 4096 (qg a0)) (qNW [.s [],.i 5]) (let r0:=qA [.r a0];qNU r0 (.br (ine (gI r0 0) 0) (qNW [.s [],.i (gI r0 0)]) (let r1:=qf q1t [.s [48],.r a0,.i (qg a0),.i 0];qNU r1 (.br (jIs r1 0) (qNW [.s (gS r1 0),.i 0]) (qNW [.s (gS r1 0),.i (gI r1 1)])))))):=by kernel_rfl
theorem u4:qI [.r a0,.s e1,.r a2,.i c3,.i c4]=(.br (ilt c4 c3) (qNV (inb c4 (qg a2)) (qNV (inb c4 (qg a0)) (let r0:=vK [.s (cS a2 c4 0),.s (cS a0 c4 0)];qNU r0 (.br (ine (gI r0 1) 0) (.leaf (2,[.s [],.i (gI r0 1)])) (let r1:=yQ [.s e1,.s (gS r0 0)];qNU r1 (.br (ine (gI r1 1) 0) (.leaf (2,[.s [],.i (gI r1 1)])) (qNW [.r a0,.s (gS r1 0),.r a2,.i c3,.i (qm .i64 c4 1)]))))))) (.leaf (1,[.s e1]))):=by kernel_rfl
theorem q6F:qx [.r a0,.r a1]=(let r0:=qf qI [.r a1,.s [48],.r a0,.i (qg a0),.i 0];qNU r0 (.br (jIs r0 0) (qNW [.s (gS r0 0),.i 0]) (qNW [.s (gS r0 0),.i (gI r0 1)]))):=by kernel_rfl
theorem qdV:uk [.i c0,.i c1,.i c2,.i c3,.s e4,.s e5,.s e6,.r a7]=(let t0:=wP [.i (ql7 [c0,c1,c2] c3)];let p0:List PV:=[.s (gS t0 0)];let t1:=wn ((.s e6)::p0);let i0:Int:=(qm .i64 c3 1);let t2:=wn ((.s e5)::p0);let t3:=wn ((.s e4)::p0);(.br (ilt c3 3) (qNV (inb c3 3) (.br (ieq c3 2) (qNU t0 (qNU t1 (.br (ine (gI t1 1) 0) (.leaf (2,[.s [],.i (gI t1 1)])) (qNV (ile ((qg a7)+(qg [[.s (gS t1 0)]])) 8796093022208) (qNW [.i c0,.i c1,.i c2,.i i0,.s e4,.s e5,.s e6,.r (zD a7 [[.s (gS t1 0)]])]))))) (.br (ieq c3 1) (qNU t0 (qNU t2 (.br (ine (gI t2 1) 0) (.leaf (2,[.s [],.i (gI t2 1)])) (qNV (ile ((qg a7)+(qg [[.s (gS t2 0)]])) 8796093022208) (qNW [.i c0,.i c1,.i c2,.i i0,.s e4,.s e5,.s e6,.r (zD a7 [[.s (gS t2 0)]])]))))) (qNV (ieq c3 0) (qNU t0 (qNU t3 (.br (ine (gI t3 1) 0) (.leaf (2,[.s [],.i (gI t3 1)])) (qNV (ile ((qg a7)+(qg [[.s (gS t3 0)]])) 8796093022208) (qNW [.i c0,.i c1,.i c2,.i i0,.s e4,.s e5,.s e6,.r (zD a7 [[.s (gS t3 0)]])]))))))))) (.leaf (1,[.r a7])))):=by kernel_rfl
theorem qsP:vu [.s e0,.s e1,.s e2,.i c3,.i c4,.i c5]=(let r0:=qB [.i c3,.i c4,.i c5];qNU r0 (let r1:=qf uk [.i (gI r0 0),.i (gI r0 1),.i (gI r0 2),.i 0,.s e0,.s e1,.s e2,.r []];qNU r1 (.br (jIs r1 0) (let r2:=qx [.r (gR r1 0),.r (gR r1 0)];qNU r2 (qNW [.s (gS r2 0),.i (gI r2 1)])) (qNW [.s (gS r1 0),.i (gI r1 1)])))):=by kernel_rfl
theorem q9f:jc [.r a0,.i c1,.i c2,.i c3,.i c4,.i c5,.i c6,.s e7,.s e8,.s e9,.s e10,.r a11,.r a12]=(.br (ilt c6 c5) (qNV (inb 0 (qg a0)) (qNV (inb (qm .i64 c2 1) (qg a0)) (qNV (inb (qm .i64 c6 1) (qg a0)) (let r0:=q0L [.i (cI a0 0 0),.i (cI a0 0 1),.i (cI a0 0 2),.i (cI a0 (qm .i64 c2 1) 0),.i (cI a0 (qm .i64 c2 1) 1),.i (cI a0 (qm .i64 c2 1) 2),.i (cI a0 (qm .i64 c6 1) 0),.i (cI a0 (qm .i64 c6 1) 1),.i (cI a0 (qm .i64 c6 1) 2)];qNU r0 (qNV (ile ((qg a11)+(qg [[.i (wL .i64 2 (gI r0 0))]])) 17592186044416) (qNW [.r a0,.i c1,.i c2,.i c3,.i c4,.i c5,.i (qm .i64 c6 1),.s e7,.s e8,.s e9,.s e10,.r (zD a11 [[.i (wL .i64 2 (gI r0 0))]]),.r a12])))))) (.leaf (1,[.r a0,.i c1,.i c2,.i c3,.i c4,.s e7,.s e8,.s e9,.s e10,.r a11,.r a12]))):=by kernel_rfl
theorem qb9:jH [.r a0,.i c1,.i c2,.i c3,.s e4,.s e5,.s e6,.s e7,.r a8,.r a9]=(let p0:List PV:=[.s e4,.s e5,.s e6,.s e7,.r a8,.r a9];let t0:=qf jc ((.r a0)::(.i c1)::(.i c3)::(.i c2)::(.i c3)::(.i c1)::(.i 0)::p0);let l0:R:=(gR t0 0);let i0:Int:=(qm .i64 (gI t0 2) 1);let t1:=q0L [.i (cI l0 0 0),.i (cI l0 0 1),.i (cI l0 0 2),.i (cI l0 i0 0),.i (cI l0 i0 1),.i (cI l0 i0 2),.i (cI l0 i0 0),.i (cI l0 i0 1),.i (cI l0 i0 2)];let t2:=wP [.i (gI t1 0)];(.br (ilt c3 c2) (qNU t0 (qNV (inb 0 (qg l0)) (qNV (inb i0 (qg l0)) (qNV (inb i0 (qg l0)) (qNU t1 (qNU t2 (qNV (ile ((qg (gR t0 10))+(qg [[.s (gS t2 0)]])) 8796093022208) (qNW [.r l0,.i (gI t0 1),.i (gI t0 3),.i (qm .i64 (gI t0 4) 1),.s (gS t0 5),.s (gS t0 6),.s (gS t0 7),.s (gS t0 8),.r (gR t0 9),.r (zD (gR t0 10) [[.s (gS t2 0)]])])))))))) (.leaf (1,((.r a0)::(.i c1)::p0))))):=by kernel_rfl
theorem q9j:j7 [.r a0,.i c1,.i c2,.r a3,.i c4,.i c5,.s e6,.s e7,.s e8,.s e9,.r a10,.s e11,.s e12,.s e13,.s e14,.r a15]=(.br (ilt c5 c4) (qNV (inb c5 (qg a3)) (let r0:=qB [.i (cI a3 c5 0),.i (cI a3 c5 1),.i (cI a3 c5 2)];qNU r0 (qNV (inb c1 3) (let r1:=wP [.i (ql7 [(gI r0 0),(gI r0 1),(gI r0 2)] c1)];qNU r1 (qNV (ile ((qg a15)+(qg [[.s (gS r1 0)]])) 8796093022208) (qNW [.r a0,.i c1,.i c2,.r a3,.i c4,.i (qm .i64 c5 1),.s e6,.s e7,.s e8,.s e9,.r a10,.s e11,.s e12,.s e13,.s e14,.r (zD a15 [[.s (gS r1 0)]])])))))) (.leaf (1,[.r a0,.i c1,.i c2,.s e6,.s e7,.s e8,.s e9,.r a10,.s e11,.s e12,.s e13,.s e14,.r a15]))):=by kernel_rfl
theorem q9i:j9 [.r a0,.i c1,.s e2,.s e3,.s e4,.s e5,.r a6,.s e7,.s e8,.s e9,.s e10]=(let t0:=qf j7 [.r a0,.i c1,.i c1,.r a0,.i (qg a0),.i 0,.s e2,.s e3,.s e4,.s e5,.r a6,.s e7,.s e8,.s e9,.s e10,.r []];let l0:R:=(gR t0 7);let t1:=qx [.r l0,.r (gR t0 12)];let b0:Bool:=(ine (gI t1 1) 0);let t2:TR:=(.leaf (2,[.b false,.i (gI t1 1),.s [],.s [],.s [],.s []]));let i0:Int:=(qm .i64 (gI t0 2) 1);let p0:List PV:=[.s (gS t0 10),.s (gS t0 11)];(.br (ilt c1 3) (qNU t0 (qNU t1 (.br (ieq (gI t0 1) 2) (.br b0 t2 (qNW [.r (gR t0 0),.i i0,.s (gS t0 3),.s (gS t0 4),.s (gS t0 5),.s (gS t0 6),.r l0,.s (gS t0 8),.s (gS t0 9),.s (gS t1 0),.s (gS t0 11)])) (.br (ieq (gI t0 1) 1) (.br b0 t2 (qNW ((.r (gR t0 0))::(.i i0)::(.s (gS t0 3))::(.s (gS t0 4))::(.s (gS t0 5))::(.s (gS t0 6))::(.r l0)::(.s (gS t0 8))::(.s (gS t1 0))::p0))) (qNV (ieq (gI t0 1) 0) (.br b0 t2 (qNW ((.r (gR t0 0))::(.i i0)::(.s (gS t0 3))::(.s (gS t0 4))::(.s (gS t0 5))::(.s (gS t0 6))::(.r l0)::(.s (gS t1 0))::(.s (gS t0 9))::p0)))))))) (.leaf (1,[.r a0,.s e2,.s e3,.s e4,.s e5,.r a6,.s e7,.s e8,.s e9,.s e10])))):=by kernel_rfl
theorem qev:uh [.r a0]=(let r0:=qf jH [.r a0,.i (zY .i64 (qg a0) 1),.i (zY .i64 (qg a0) 1),.i 0,.s [],.s [],.s [],.s [],.r [],.r []];qNU r0 (let r1:=qar [.i (gI r0 1),.i (gI r0 1),.r (gR r0 6)];qNU r1 (.br (ine (gI r1 3) 0) (qNW [.s [],.s [],.s [],.s [],.r [],.b false,.i (gI r1 3)]) (let r2:=jS [.i (gI r1 0),.i (gI r1 1),.r (gR r1 2)];qNU r2 (.br (ieq (gI r2 3) 14) (qNW [.s [],.s [],.s [],.s [],.r [],.b false,.i 0]) (.br (ine (gI r2 3) 0) (qNW [.s [],.s [],.s [],.s [],.r [],.b false,.i (gI r2 3)]) (let r3:=q3p [.i (gI r2 0),.i (gI r2 1),.r (gR r2 2),.r (gR r0 7)];qNU r3 (.br (ine (gI r3 1) 0) (qNW [.s [],.s [],.s [],.s [],.r [],.b false,.i (gI r3 1)]) (let r4:=qaT [.r (gR r3 0)];qNU r4 (.br (ine (gI r4 1) 0) (qNW [.s [],.s [],.s [],.s [],.r [],.b false,.i (gI r4 1)]) (let r5:=wn [.s [49],.s (gS r4 0)];qNU r5 (.br (ine (gI r5 1) 0) (qNW [.s [],.s [],.s [],.s [],.r [],.b false,.i (gI r5 1)]) (qNV (ile ((qg [[.s (gS r5 0)]])+(qg (gR r3 0))) 8796093022208) (let r6:=qf j9 [.r (gR r0 0),.i 0,.s (gS r0 2),.s (gS r0 3),.s (gS r0 4),.s (gS r0 5),.r (zD [[.s (gS r5 0)]] (gR r3 0)),.s [],.s [],.s [],.s []];qNU r6 (.br (jIs r6 0) (qNV (inb 0 (qg (gR r6 0))) (let r7:=vu [.s (gS r6 6),.s (gS r6 7),.s (gS r6 8),.i (cI (gR r6 0) 0 0),.i (cI (gR r6 0) 0 1),.i (cI (gR r6 0) 0 2)];qNU r7 (qNW [.s (gS r6 6),.s (gS r6 7),.s (gS r6 8),.s (gS r7 0),.r (gR r6 5),.b true,.i (gI r7 1)]))) (qNW [.s (gS r6 2),.s (gS r6 3),.s (gS r6 4),.s (gS r6 5),.r [],.b (gB r6 0),.i (gI r6 1)])))))))))))))))):=by kernel_rfl
theorem qb6:jE [.r a0,.r a1,.i c2,.i c3,.r a4]=(.br (ilt c3 c2) (qNV (inb c3 (qg a1)) (qNV (inb (cI a1 c3 0) (qg a0)) (qNV (ile ((qg a4)+(qg [[.i (cI a0 (cI a1 c3 0) 0),.i (cI a0 (cI a1 c3 0) 1),.i (cI a0 (cI a1 c3 0) 2)]])) 5864062014805) (qNW [.r a0,.r a1,.i c2,.i (qm .i64 c3 1),.r (zD a4 [[.i (cI a0 (cI a1 c3 0) 0),.i (cI a0 (cI a1 c3 0) 1),.i (cI a0 (cI a1 c3 0) 2)]])])))) (.leaf (1,[.r a4]))):=by kernel_rfl
theorem qpu:q18 [.r a0,.r a1]=(let r0:=qf jE [.r a0,.r a1,.i (qg a1),.i 0,.r []];qNU r0 (qNW [.r (gR r0 0)])):=by kernel_rfl
theorem quh:q5k [.s e0]=(let r0:=zp [.s e0];qNU r0 (.br (ine (gI r0 0) 0) (qNW [.s [],.s [],.i (gI r0 0)]) (let r1:=qS [.s e0];qNU r1 (qNW [.s (gS r1 0),.s (gS r1 1),.i 0])))):=by kernel_rfl
theorem qyx:q7X [.s e0]=(let r0:=qV [.s e0];qNU r0 (.br (ine (gI r0 0) 0) (qNW [.i 0,.i (gI r0 0)]) (let r1:=yw [.s e0];qNU r1 (qNW [.i (gI r1 0),.i 0])))):=by kernel_rfl
theorem qxa:q4I [.s e0]=(let r0:=q5k [.s e0];qNU r0 (.br (ine (gI r0 2) 0) (qNW [.i 0,.i (gI r0 2)]) (let r1:=q7X [.s (gS r0 0)];qNU r1 (qNW [.i (gI r1 0),.i (gI r1 1)])))):=by kernel_rfl
theorem qbp:qO [.s e0]=(qNU (q4I [.s e0]) (qNW [.b (ilt (gI (q4I [.s e0]) 0) 0)])):=by kernel_rfl
theorem wj:qv [.r a0,.i c1,.i c2]=(.br (ilt c2 c1) (qNV (inb c2 (qg a0)) (let r0:=qO [.s (cS a0 c2 0)];qNU r0 (.br (gB r0 0) (.leaf (2,[.i c2])) (qNW [.r a0,.i c1,.i (qm .i64 c2 1)])))) (.leaf (1,[]))):=by kernel_rfl
theorem yN:qG [.r a0]=(let r0:=qf qv [.r a0,.i (qg a0),.i 0];qNU r0 (.br (jIs r0 0) (qNW [.i (-1)]) (qNW [.i (gI r0 0)]))):=by kernel_rfl
theorem q2X:qM [.r a0]=(let r0:=qG [.r a0];qNU r0 (qNW [.b (ile 0 (gI r0 0))])):=by kernel_rfl
theorem qdJ:vA [.s e0,.s e1,.s e2,.s e3,.r a4]=(let r0:=qM [.r a4];qNU r0 (qNW [.b (not (gB r0 0))])):=by kernel_rfl
theorem qqJ:wG [.s e0,.s e1]=(let r0:=qA [.r [[.s e0],[.s e1]]];qNU r0 (.br (ine (gI r0 0) 0) (qNW [.i 0,.i (gI r0 0)]) (let r1:=qS [.s e0];qNU r1 (let r2:=qS [.s e1];qNU r2 (let r3:=qp [.r [[.s (gS r1 0)],[.s (gS r2 1)]],.i 0];qNU r3 (let r4:=qp [.r [[.s (gS r2 0)],[.s (gS r1 1)]],.i (gI r3 1)];qNU r4 (.br (ine (gI r4 1) 0) (qNW [.i 0,.i (gI r4 1)]) (let r5:=yG [.s (gS r3 0),.s (gS r4 0)];qNU r5 (qNW [.i (gI r5 0),.i (gI r5 1)]))))))))):=by kernel_rfl
theorem yo:qR [.r a0,.i c1,.i c2,.s e3,.s e4,.s e5,.s e6,.r a7]=(.br (ilt c2 c1) (qNV (inb c2 (qg a0)) (let r0:=vu [.s e3,.s e4,.s e5,.i (cI a0 c2 0),.i (cI a0 c2 1),.i (cI a0 c2 2)];qNU r0 (.br (ine (gI r0 1) 0) (.leaf (2,[.b false,.i (gI r0 1)])) (let r1:=wG [.s (gS r0 0),.s e6];qNU r1 (.br (ine (gI r1 1) 0) (.leaf (2,[.b false,.i (gI r1 1)])) (.br (ilt 0 (gI r1 0)) (.leaf (2,[.b false,.i (gI r1 1)])) (qNW [.r a0,.i c1,.i (qm .i64 c2 1),.s e3,.s e4,.s e5,.s e6,.r a7]))))))) (.leaf (1,[]))):=by kernel_rfl
theorem qbA:wF [.s e0,.s e1,.s e2,.s e3,.r a4,.r a5]=(let r0:=qf qR [.r a5,.i (qg a5),.i 0,.s e0,.s e1,.s e2,.s e3,.r a4];qNU r0 (.br (jIs r0 0) (qNW [.b true,.i 0]) (qNW [.b (gB r0 0),.i (gI r0 1)]))):=by kernel_rfl
theorem q9e:zK [.r a0,.r a1]=(let t0:=q18 [.r a0,.r a1];let t1:=uh [.r (gR t0 0)];let t2:TR:=(qNW [.s [],.s [],.s [],.s [],.r [],.b false,.i (gI t1 6)]);let t3:=vA [.s (gS t1 0),.s (gS t1 1),.s (gS t1 2),.s (gS t1 3),.r (gR t1 4)];let t4:=wF [.s (gS t1 0),.s (gS t1 1),.s (gS t1 2),.s (gS t1 3),.r (gR t1 4),.r a0];(qNU t0 (qNU t1 (.br (ine (gI t1 6) 0) t2 (.br (not (gB t1 5)) t2 (qNU t3 (.br (not (gB t3 0)) t2 (qNU t4 (qNW [.s (gS t1 0),.s (gS t1 1),.s (gS t1 2),.s (gS t1 3),.r (gR t1 4),.b (gB t4 0),.i (gI t4 1)]))))))))):=by kernel_rfl
theorem q0J:qD [.r a0,.i c1,.i c2,.i c3,.i c4,.i c5,.r a6,.s e7,.s e8,.s e9,.s e10,.i c11,.i c12,.i c13,.r a14,.r a15]=(.br (ilt c1 c12) (let r0:=wC [.r a0];qNU r0 (qNV (ile ((qg (gR r0 0))+(qg [[.i c1]])) 17592186044416) (qNV (ile ((qg a15)+(qg [[.l (zD (gR r0 0) [[.i c1]])]])) 5864062014805) (let r1:=zK [.r a6,.r (zD (gR r0 0) [[.i c1]])];qNU r1 (.br (ine (gI r1 6) 0) .fail (.br (gB r1 5) (.leaf (2,[.r a6,.s (gS r1 0),.s (gS r1 1),.s (gS r1 2),.s (gS r1 3),.r (gR r1 4),.i 0,.i c12,.i c13,.r (zD (gR r0 0) [[.i c1]])])) (qNW [.r a0,.i (qm .i64 c1 1),.i c2,.i c3,.i c4,.i c5,.r a6,.s e7,.s e8,.s e9,.s e10,.i c11,.i c12,.i c13,.r a14,.r (zD a15 [[.l (zD (gR r0 0) [[.i c1]])]])]))))))) (.leaf (1,[.i c2,.i c3,.i c4,.i c5,.r a6,.s e7,.s e8,.s e9,.s e10,.i c11,.i c12,.i c13,.r a14,.r a15]))):=by kernel_rfl
theorem q1H:wU [.i c0,.i c1,.i c2,.i c3,.r a4,.s e5,.s e6,.s e7,.s e8,.i c9,.i c10,.i c11,.r a12,.r a13]=(let l0:R:=(cR a12 c3 0);let i0:Int:=(qg l0);let p0:List PV:=[.i c0,.i c1,.i c2,.i c3,.r a4,.s e5,.s e6,.s e7,.s e8,.i c9,.i c10,.i c11,.r a12,.r a13];let t0:=qf qD ((.r l0)::(.i (qm .i64 (cI l0 (zY .i64 i0 1) 0) 1))::p0);let t1:=qf qD ((.r l0)::(.i 0)::p0);(.br (ilt c3 c2) (qNV (inb c3 (qg a12)) (.br (ilt 0 i0) (qNV (inb (zY .i64 i0 1) i0) (qNU t0 (.br (jIs t0 0) (qNW [.i (gI t0 0),.i (gI t0 1),.i (gI t0 2),.i (qm .i64 (gI t0 3) 1),.r (gR t0 4),.s (gS t0 5),.s (gS t0 6),.s (gS t0 7),.s (gS t0 8),.i (gI t0 9),.i (gI t0 10),.i (gI t0 11),.r (gR t0 12),.r (gR t0 13)]) (.leaf (2,[.r (gR t0 0),.s (gS t0 1),.s (gS t0 2),.s (gS t0 3),.s (gS t0 4),.r (gR t0 5),.i (gI t0 6),.i (gI t0 7),.i (gI t0 8),.r (gR t0 9)]))))) (qNU t1 (.br (jIs t1 0) (qNW [.i (gI t1 0),.i (gI t1 1),.i (gI t1 2),.i (qm .i64 (gI t1 3) 1),.r (gR t1 4),.s (gS t1 5),.s (gS t1 6),.s (gS t1 7),.s (gS t1 8),.i (gI t1 9),.i (gI t1 10),.i (gI t1 11),.r (gR t1 12),.r (gR t1 13)]) (.leaf (2,[.r (gR t1 0),.s (gS t1 1),.s (gS t1 2),.s (gS t1 3),.s (gS t1 4),.r (gR t1 5),.i (gI t1 6),.i (gI t1 7),.i (gI t1 8),.r (gR t1 9)])))))) (.leaf (1,[.i c0,.i c1,.r a4,.s e5,.s e6,.s e7,.s e8,.i c9,.i c10,.i c11,.r a13])))):=by kernel_rfl
theorem q1K:wW [.i c0,.i c1,.r a2,.s e3,.s e4,.s e5,.s e6,.i c7,.i c8,.i c9,.r a10]=(.br (ilt c1 c0) (let r0:=qf wU [.i c0,.i c1,.i (qg a10),.i 0,.r a2,.s e3,.s e4,.s e5,.s e6,.i c7,.i c8,.i c9,.r a10,.r []];qNU r0 (.br (jIs r0 0) (qNW [.i (gI r0 0),.i (qm .i64 (gI r0 1) 1),.r (gR r0 2),.s (gS r0 3),.s (gS r0 4),.s (gS r0 5),.s (gS r0 6),.i (gI r0 7),.i (gI r0 8),.i (gI r0 9),.r (gR r0 10)]) (.leaf (2,[.r (gR r0 0),.s (gS r0 1),.s (gS r0 2),.s (gS r0 3),.s (gS r0 4),.r (gR r0 5),.i (gI r0 6),.i (gI r0 7),.i (gI r0 8),.r (gR r0 9)])))) (.leaf (1,[.r a2,.s e3,.s e4,.s e5,.s e6,.i c7,.i c8,.i c9]))):=by kernel_rfl
theorem qqW:q09 [.r a0,.i c1]=(let r0:=qf wW [.i c1,.i 0,.r a0,.s [],.s [],.s [],.s [],.i 0,.i (qg a0),.i c1,.r [[.l []]]];qNU r0 (.br (jIs r0 0) (qNW [.s [],.s [],.s [],.s [],.r [],.r [],.i 6]) (qNW [.s (gS r0 1),.s (gS r0 2),.s (gS r0 3),.s (gS r0 4),.r (gR r0 5),.r (gR r0 9),.i (gI r0 6)]))):=by kernel_rfl
theorem qan:jI [.r a0,.i c1,.i c2,.r a3]=(.br (ilt c2 c1) (qNV (inb c2 (qg a0)) (qNV (ile ((qg a3)+(qg [[.i (cI a0 c2 0),.i (cI a0 c2 1),.i 0]])) 5864062014805) (qNW [.r a0,.i c1,.i (qm .i64 c2 1),.r (zD a3 [[.i (cI a0 c2 0),.i (cI a0 c2 1),.i 0]])]))) (.leaf (1,[.r a3]))):=by kernel_rfl
theorem qoQ:q1l [.r a0]=(let r0:=qf jI [.r a0,.i (qg a0),.i 0,.r []];qNU r0 (qNW [.r (gR r0 0)])):=by kernel_rfl
theorem qfO:yX [.s e0,.s e1,.s e2,.s e3,.r a4]=(qNW [.s e0,.s e1]):=by kernel_rfl
theorem qoV:um [.r a0]=(let r0:=q3r [.r a0];qNU r0 (.br (ine (gI r0 0) 0) (qNW [.s [],.s [],.s [],.r [],.i (gI r0 0)]) (let r1:=q1l [.r a0];qNU r1 (let r2:=q09 [.r (gR r1 0),.i 3];qNU r2 (.br (ine (gI r2 6) 0) (qNW [.s [],.s [],.s [],.r [],.i (gI r2 6)]) (let r3:=yX [.s (gS r2 0),.s (gS r2 1),.s (gS r2 2),.s (gS r2 3),.r (gR r2 4)];qNU r3 (qNW [.s (gS r3 0),.s (gS r3 1),.s (gS r2 3),.r (gR r2 5),.i 0]))))))):=by kernel_rfl
theorem qB8:q2M [.r a0,.i c1]=(let r0:=um [.r a0];qNU r0 (.br (ine (gI r0 4) 0) (qNW [.b false,.i (gI r0 4)]) (.br (ilt c1 0) (qNW [.b false,.i 2]) (.br (ilt 100000 c1) (qNW [.b false,.i 2]) (let r1:=vK [.s [52],.s (gS r0 2)];qNU r1 (.br (ine (gI r1 1) 0) (qNW [.b false,.i (gI r1 1)]) (let r2:=wP [.i (wL .i64 c1 c1)];qNU r2 (let r3:=wG [.s (gS r1 0),.s (gS r2 0)];qNU r3 (.br (ieq (gI r3 1) 0) (qNW [.b (ile (gI r3 0) 0),.i (gI r3 1)]) (qNW [.b false,.i (gI r3 1)])))))))))):=by kernel_rfl
theorem qrX:q7x [.i c0,.i c1,.i c2,.i c3,.i c4,.i c5]=(qNW [.i (zY .i64 c3 c0),.i (zY .i64 c4 c1),.i (zY .i64 c5 c2)]):=by kernel_rfl
theorem qnI:q35 [.i c0,.i c1,.i c2,.i c3,.i c4,.i c5]=(qNW [.i (qm .i64 (qm .i64 (wL .i64 c0 c3) (wL .i64 c1 c4)) (wL .i64 c2 c5))]):=by kernel_rfl
theorem qiO:vS [.i c0,.i c1,.i c2,.i c3,.i c4,.i c5]=(let r0:=zl [.r [[.i c0,.i c1,.i c2],[.i c3,.i c4,.i c5]]];qNU r0 (.br (ine (gI r0 0) 0) (qNW [.i 0,.i (gI r0 0)]) (let r1:=q7x [.i c0,.i c1,.i c2,.i c3,.i c4,.i c5];qNU r1 (let r2:=q35 [.i (gI r1 0),.i (gI r1 1),.i (gI r1 2),.i (gI r1 0),.i (gI r1 1),.i (gI r1 2)];qNU r2 (qNW [.i (gI r2 0),.i 0]))))):=by kernel_rfl
theorem q8Q:q07 [.r a0,.i c1,.i c2,.r a3]=(.br (ilt c2 c1) (qNV (inb c2 (qg a0)) (let r0:=vS [.i (cI a0 c2 0),.i (cI a0 c2 1),.i (cI a0 c2 2),.i (cI a0 c2 3),.i (cI a0 c2 4),.i (cI a0 c2 5)];qNU r0 (.br (ine (gI r0 1) 0) (.leaf (2,[.i (gI r0 1)])) (qNV (ile ((qg a3)+(qg [[.i (gI r0 0)]])) 17592186044416) (qNW [.r a0,.i c1,.i (qm .i64 c2 1),.r (zD a3 [[.i (gI r0 0)]])]))))) (.leaf (1,[.r a3]))):=by kernel_rfl
theorem qux:q0t [.r a0]=(.br (ilt 64 (qg a0)) (qNW [.r [],.i 5]) (let r0:=qf q07 [.r a0,.i (qg a0),.i 0,.r []];qNU r0 (.br (jIs r0 0) (qNW [.r (gR r0 0),.i 0]) (qNW [.r [],.i (gI r0 0)])))):=by kernel_rfl
theorem qlS:ww [.i c0]=(.br (ile (-100000) c0) (qNW [.b (ile c0 100000)]) (qNW [.b false])):=by kernel_rfl
theorem qmA:q0f [.i c0,.i c1]=(qNU (ww [.i c0]) (.br (not (gB (ww [.i c0]) 0)) (qNW [.i 2]) (qNU (ww [.i c1]) (.br (not (gB (ww [.i c1]) 0)) (qNW [.i 2]) (.br (ilt c1 c0) (qNW [.i 9]) (qNW [.i 0])))))):=by kernel_rfl
theorem qut:q0E [.i c0,.i c1]=(let r0:=q0f [.i c0,.i c1];qNU r0 (.br (ine (gI r0 0) 0) (qNW [.i (gI r0 0)]) (.br (ilt c0 0) (qNW [.i 2]) (qNW [.i 0])))):=by kernel_rfl
theorem qaR:q1F [.i c0,.i c1,.i c2]=(.br (ilt c0 (wL .i64 c1 c1)) (qNW [.b true,.i c1,.i c2]) (qNW [.b (ilt (wL .i64 c2 c2) c0),.i c1,.i c2])):=by kernel_rfl
theorem jO:z7 [.r a0,.i c1,.i c2,.i c3,.i c4]=(.br (ilt c2 c1) (qNV (inb c2 (qg a0)) (let r0:=q1F [.i (cI a0 c2 0),.i c3,.i c4];qNU r0 (.br (gB r0 0) (.leaf (2,[.i c2,.i (gI r0 1),.i (gI r0 2)])) (qNW [.r a0,.i c1,.i (qm .i64 c2 1),.i (gI r0 1),.i (gI r0 2)])))) (.leaf (1,[.i c3,.i c4]))):=by kernel_rfl
theorem qav:w9 [.r a0,.i c1,.i c2]=(let r0:=qf z7 [.r a0,.i (qg a0),.i 0,.i c1,.i c2];qNU r0 (.br (jIs r0 0) (qNW [.i (-1),.i (gI r0 0),.i (gI r0 1)]) (qNW [.i (gI r0 0),.i (gI r0 1),.i (gI r0 2)]))):=by kernel_rfl
theorem qxM:q4Z [.r a0,.i c1,.i c2]=(let r0:=q0t [.r a0];qNU r0 (.br (ine (gI r0 1) 0) (qNW [.b false,.i 0,.i (gI r0 1)]) (let r1:=q0E [.i c1,.i c2];qNU r1 (.br (ine (gI r1 0) 0) (qNW [.b false,.i 0,.i (gI r1 0)]) (let r2:=w9 [.r (gR r0 0),.i c1,.i c2];qNU r2 (.br (ile 0 (gI r2 0)) (qNW [.b false,.i (gI r2 0),.i 0]) (qNW [.b true,.i (qg (gR r0 0)),.i 0]))))))):=by kernel_rfl
theorem q3D:zF [.r a0,.r a1,.i c2,.i c3]=(.br (ilt c3 c2) (qNV (inb c3 (qg a0)) (qNV (inb c3 (qg a1)) (.br (ine (cI a0 c3 0) (cI a1 c3 0)) (.leaf (2,[.b false])) (qNW [.r a0,.r a1,.i c2,.i (qm .i64 c3 1)])))) (.leaf (1,[]))):=by kernel_rfl
theorem qeU:vZ [.r a0,.r a1]=(.br (ine (qg a0) (qg a1)) (qNW [.b false]) (let r0:=qf zF [.r a0,.r a1,.i (qg a0),.i 0];qNU r0 (.br (jIs r0 0) (qNW [.b true]) (qNW [.b (gB r0 0)])))):=by kernel_rfl
theorem qxi  : qbE []=(qNW [.i 0,.r [[.i 0,.i 0,.i 0],[.i 1,.i 5,.i 0]],.r [[.i 10,.i 0,.i 0],[.i 12,.i 5,.i 0]]]):=by kernel_rfl
theorem qvp  : zA []=(let t0:=q0t [.r [[.i 0,.i 0,.i 0,.i 3,.i 4,.i 0]]];let t1:=q4Z [.r [[.i 0,.i 0,.i 0,.i 3,.i 4,.i 0]],.i 4,.i 5];let t2:=q4Z [.r [[.i 0,.i 0,.i 0,.i 3,.i 4,.i 0]],.i 6,.i 7];let t3:=qbE [];let t4:=zT [.i (gI t3 0),.r (gR t3 1),.r (gR t3 2),.b true];let t5:=zT [.i (gI t3 0),.r (gR t3 1),.r (gR t3 2),.b false];let t6:=ym [.i (gI t3 0),.r (gR t3 1),.r (gR t3 2)];let t7:=q2M [.r [[.i 0,.i 0],[.i 6,.i 0],[.i 3,.i 1]],.i 6];let t8:=q2M [.r [[.i 0,.i 0],[.i 6,.i 0],[.i 3,.i 1]],.i 5];let t9:=vZ [.r (gR t0 0),.r [[.i 25]]];let t10:TR:=(qNW [.b false]);(qNU t0 (qNU t1 (qNU t2 (qNU t3 (qNU t4 (qNU t3 (qNU t5 (qNU t3 (qNU t6 (qNU t7 (qNU t8 (.br (ieq (qm .i64 (qm .i64 (qm .i64 (qm .i64 (qm .i64 (qm .i64 (qm .i64 (gI t0 1) (gI t1 2)) (gI t2 2)) (gI t4 1)) (gI t5 1)) (gI t6 2)) (gI t7 1)) (gI t8 1)) 0) (qNU t9 (.br (gB t9 0) (.br (gB t1 0) (.br (ieq (gI t1 1) 1) (.br (not (gB t2 0)) (.br (ieq (gI t4 0) 9) (.br (ieq (gI t5 0) 12) (.br (qDL (ieq (gI t6 0) 9) (qDL (ieq (gI t6 1) 12) true)) (.br (gB t7 0) (qNW [.b (not (gB t8 0))]) t10) t10) t10) t10) t10) t10) t10) t10)) t10))))))))))))):=by kernel_rfl
theorem qjQ:yS [.i c0,.i c1,.i c2]=(qNW [.i c0,.i c1,.i c2]):=by kernel_rfl
theorem qge:q0h [.r a0,.i c1,.i c2,.r a3]=(.br (ilt c2 (qg a0)) (qNV (inb c2 (qg a0)) (let r0:=yS [.i (cI a0 c2 0),.i (cI a0 c2 1),.i (cI a0 c2 2)];qNU r0 (qNV (inb c1 3) (qNV (ile ((qg a3)+(qg [[.i (ql7 [(gI r0 0),(gI r0 1),(gI r0 2)] c1)]])) 17592186044416) (qNW [.r a0,.i c1,.i (qm .i64 c2 1),.r (zD a3 [[.i (ql7 [(gI r0 0),(gI r0 1),(gI r0 2)] c1)]])]))))) (.leaf (1,[.r a3]))):=by kernel_rfl
theorem qtT:vB [.r a0,.i c1]=(let r0:=qf q0h [.r a0,.i c1,.i 0,.r []];qNU r0 (qNW [.r (gR r0 0)])):=by kernel_rfl
theorem qeB:uo [.r a0,.r a1,.i c2,.i c3,.r a4]=(.br (ilt c3 (qg a1)) (qNV (inb c3 (qg a1)) (qNV (inb c2 (qg a0)) (qNV (ile ((qg a4)+(qg [[.i (zY .i64 (cI a1 c3 0) (cI a0 c2 0))]])) 17592186044416) (qNW [.r a0,.r a1,.i c2,.i (qm .i64 c3 1),.r (zD a4 [[.i (zY .i64 (cI a1 c3 0) (cI a0 c2 0))]])])))) (.leaf (1,[.r a0,.r a1,.i c2,.r a4]))):=by kernel_rfl
theorem qgw:q03 [.r a0,.r a1,.i c2,.r a3]=(.br (ilt c2 (qg a0)) (let r0:=qf uo [.r a0,.r a1,.i c2,.i 0,.r a3];qNU r0 (qNW [.r (gR r0 0),.r (gR r0 1),.i (qm .i64 (gI r0 2) 1),.r (gR r0 3)])) (.leaf (1,[.r a3]))):=by kernel_rfl
theorem qvj:yh [.i c0,.r a1,.r a2]=(let r0:=vB [.r a1,.i c0];qNU r0 (let r1:=vB [.r a2,.i c0];qNU r1 (let r2:=qf q03 [.r (gR r0 0),.r (gR r1 0),.i 0,.r []];qNU r2 (qNW [.r (gR r2 0)])))):=by kernel_rfl
theorem qyz:q84 [.i c0]=(.br (ilt c0 0) (qNW [.i 1]) (.br (ile 3 c0) (qNW [.i 1]) (qNW [.i 0]))):=by kernel_rfl
theorem qBt:j8 [.i c0]=(.br (ile (-100000) c0) (qNW [.b (ile c0 100000)]) (qNW [.b false])):=by kernel_rfl
theorem qn5:yB [.i c0,.i c1,.i c2]=(qNU (j8 [.i c0]) (.br (gB (j8 [.i c0]) 0) (qNU (j8 [.i c1]) (.br (gB (j8 [.i c1]) 0) (qNU (j8 [.i c2]) (qNW [.b (gB (j8 [.i c2]) 0)])) (qNW [.b false]))) (qNW [.b false]))):=by kernel_rfl
theorem q83:wi [.r a0,.i c1]=(.br (ilt c1 (qg a0)) (qNV (inb c1 (qg a0)) (let r0:=yB [.i (cI a0 c1 0),.i (cI a0 c1 1),.i (cI a0 c1 2)];qNU r0 (.br (not (gB r0 0)) (.leaf (2,[.i 2])) (qNW [.r a0,.i (qm .i64 c1 1)])))) (.leaf (1,[]))):=by kernel_rfl
theorem qly:jG [.r a0]=(.br (ilt 64 (qg a0)) (qNW [.i 5]) (let r0:=qf wi [.r a0,.i 0];qNU r0 (.br (jIs r0 0) (qNW [.i 0]) (qNW [.i (gI r0 0)])))):=by kernel_rfl
theorem qxZ:q4U [.r a0]=(.br (ieq (qg a0) 0) (qNW [.i 13]) (qNU (jG [.r a0]) (qNW [.i (gI (jG [.r a0]) 0)]))):=by kernel_rfl
theorem qed:jP [.r a0,.i c1]=(.br (ilt c1 (qg a0)) (qNV (inb c1 (qg a0)) (.br (ile (cI a0 c1 0) 0) (.leaf (2,[.i 9])) (qNW [.r a0,.i (qm .i64 c1 1)]))) (.leaf (1,[]))):=by kernel_rfl
theorem quX:zB [.i c0,.r a1,.r a2]=(let r0:=q84 [.i c0];qNU r0 (.br (ine (gI r0 0) 0) (qNW [.i (gI r0 0)]) (let r1:=q4U [.r a1];qNU r1 (.br (ine (gI r1 0) 0) (qNW [.i (gI r1 0)]) (let r2:=q4U [.r a2];qNU r2 (.br (ine (gI r2 0) 0) (qNW [.i (gI r2 0)]) (let r3:=yh [.i c0,.r a1,.r a2];qNU r3 (let r4:=qf jP [.r (gR r3 0),.i 0];qNU r4 (.br (jIs r4 0) (qNW [.i 0]) (qNW [.i (gI r4 0)])))))))))):=by kernel_rfl
theorem qiU:q1z [.r a0,.i c1,.i c2,.i c3]=(.br (ilt c3 (qg a0)) (qNV (inb c3 (qg a0)) (qNV (inb c3 (qg a0)) (qNW [.r a0,.i (qjL c1 (cI a0 c3 0)),.i (quL c2 (cI a0 c3 0)),.i (qm .i64 c3 1)]))) (.leaf (1,[.i c1,.i c2]))):=by kernel_rfl
theorem qyp:vW [.r a0]=(qNV (inb 0 (qg a0)) (qNV (inb 0 (qg a0)) (let r0:=qf q1z [.r a0,.i (cI a0 0 0),.i (cI a0 0 0),.i 1];qNU r0 (qNW [.i (gI r0 0),.i (gI r0 1)])))):=by kernel_rfl
theorem qvo:uO [.i c0,.r a1,.r a2,.b d3]=(let r0:=vB [.r a1,.i c0];qNU r0 (let r1:=vW [.r (gR r0 0)];qNU r1 (let r2:=vB [.r a2,.i c0];qNU r2 (let r3:=vW [.r (gR r2 0)];qNU r3 (.br d3 (qNW [.i (zY .i64 (gI r3 0) (gI r1 1))]) (qNW [.i (zY .i64 (gI r3 1) (gI r1 0))])))))):=by kernel_rfl
theorem qt2:km [.i c0,.r a1,.r a2,.b d3]=(let r0:=zB [.i c0,.r a1,.r a2];qNU r0 (.br (ine (gI r0 0) 0) (qNW [.i 0,.i (gI r0 0)]) (let r1:=uO [.i c0,.r a1,.r a2,.b d3];qNU r1 (qNW [.i (gI r1 0),.i 0])))):=by kernel_rfl
theorem qsL:q3F [.i c0,.r a1,.r a2]=(let r0:=zB [.i c0,.r a1,.r a2];qNU r0 (.br (ine (gI r0 0) 0) (qNW [.i 0,.i 0,.i (gI r0 0)]) (let r1:=yh [.i c0,.r a1,.r a2];qNU r1 (let r2:=vW [.r (gR r1 0)];qNU r2 (qNW [.i (gI r2 0),.i (gI r2 1),.i 0]))))):=by kernel_rfl
theorem qnc:q0a [.i c0,.r a1,.r a2,.b d3]=(let p0:List PV:=[.i c0,.r a1,.r a2];let p1:List PV:=[.i c0,.r a1,.r a2,.b d3];let t0:=ym p0;let t1:=q3F p0;let t2:TR:=(qNW [.b false]);(qNU (zO p0) (.br (not (gB (zO p0) 0)) (qNU (zA []) (qNW [.b (gB (zA []) 0)])) (qNU (zT p1) (qNU (km p1) (qNU t0 (qNU t1 (qNU (zA []) (.br (gB (zA []) 0) (qNU (wA p0) (qNU (zB p0) (.br (ieq (gI (wA p0) 0) (gI (zB p0) 0)) (.br (ieq (gI (zT p1) 0) (gI (km p1) 0)) (.br (ieq (gI (zT p1) 1) (gI (km p1) 1)) (.br (qDL (ieq (gI t0 0) (gI t1 0)) (qDL (ieq (gI t0 1) (gI t1 1)) true)) (qNW [.b (ieq (gI t0 2) (gI t1 2))]) t2) t2) t2) t2))) t2))))))))):=by kernel_rfl
theorem qtW:q5R [.i c0,.i c1]=(qNU (j8 [.i c0]) (.br (gB (j8 [.i c0]) 0) (qNU (j8 [.i c1]) (qNW [.b (gB (j8 [.i c1]) 0)])) (qNW [.b false]))):=by kernel_rfl
theorem qgI:kP [.r a0,.i c1]=(.br (ilt c1 (qg a0)) (qNV (inb c1 (qg a0)) (let r0:=q5R [.i (cI a0 c1 0),.i (cI a0 c1 1)];qNU r0 (.br (not (gB r0 0)) (.leaf (2,[.i 2])) (qNW [.r a0,.i (qm .i64 c1 1)])))) (.leaf (1,[]))):=by kernel_rfl
theorem qu6:q33 [.r a0]=(.br (ilt 64 (qg a0)) (qNW [.i 5]) (let r0:=qf kP [.r a0,.i 0];qNU r0 (.br (jIs r0 0) (qNW [.i 0]) (qNW [.i (gI r0 0)])))):=by kernel_rfl
theorem qys:qbT [.r a0]=(let r0:=q33 [.r a0];qNU r0 (.br (ine (gI r0 0) 0) (qNW [.i (gI r0 0)]) (.br (ieq (qg a0) 0) (qNW [.i 13]) (qNW [.i 0])))):=by kernel_rfl
theorem qtL:kf [.i c0,.i c1]=(qNV (ieq c1 0) (qNW [.r [[.l []]]])):=by kernel_rfl
theorem qmC(y0:Int)(y1:R)(y2:Int)(y3:R)(y4 y5:Int)(y6:R):q0k [.i y0,.r y1,.i y2,.r y3,.i y4,.i y5,.r y6]=(.br (ilt y2 y0) (qNV (ile ((qg [])+(qg y1)) 17592186044416) (qNV (ile ((qg (zD [] y1))+(qg [[.i y2]])) 17592186044416) (qNV (ile ((qg y6)+(qg [[.l (zD (zD [] y1) [[.i y2]])]])) 5864062014805) (qNW [.i y0,.r y1,.i (qm .i64 y2 1),.r y3,.i y4,.i y5,.r (zD y6 [[.l (zD (zD [] y1) [[.i y2]])]])])))) (.leaf (1,[.i y0,.r y3,.i y4,.i y5,.r y6]))):=by kernel_rfl
theorem qoB(y0:Int)(y1:R)(y2 y3:Int)(y4:R):q41 [.i y0,.r y1,.i y2,.i y3,.r y4]=(.br (ilt y3 y2) (qNV (inb y3 (qg y1)) (.br (ilt 0 (qg (cR y1 y3 0))) (qNV (inb (zY .i64 (qg (cR y1 y3 0)) 1) (qg (cR y1 y3 0))) (let r0:=qf q0k [.i y0,.r (cR y1 y3 0),.i (qm .i64 (cI (cR y1 y3 0) (zY .i64 (qg (cR y1 y3 0)) 1) 0) 1),.r y1,.i y2,.i y3,.r y4];qNU r0 (qNW [.i (gI r0 0),.r (gR r0 1),.i (gI r0 2),.i (qm .i64 (gI r0 3) 1),.r (gR r0 4)]))) (let r0:=qf q0k [.i y0,.r (cR y1 y3 0),.i 0,.r y1,.i y2,.i y3,.r y4];qNU r0 (qNW [.i (gI r0 0),.r (gR r0 1),.i (gI r0 2),.i (qm .i64 (gI r0 3) 1),.r (gR r0 4)])))) (.leaf (1,[.r y4]))):=by kernel_rfl
theorem qtP:q1r [.i c0,.i c1]=(.br (ieq c1 0) (qNW [.r [[.l []]]]) (let r0:=kf [.i c0,.i (zY .i64 c1 1)];qNU r0 (let r1:=qf q41 [.i c0,.r (gR r0 0),.i (qg (gR r0 0)),.i 0,.r []];qNU r1 (qNW [.r (gR r1 0)])))):=by kernel_rfl
theorem qnD(y0:Int)(y1:R)(y2:Int)(y3:R)(y4 y5:Int)(y6:R):kK [.i y0,.r y1,.i y2,.r y3,.i y4,.i y5,.r y6]=(.br (ilt y2 y0) (qNV (ile ((qg [])+(qg y1)) 17592186044416) (qNV (ile ((qg (zD [] y1))+(qg [[.i y2]])) 17592186044416) (qNV (ile ((qg y6)+(qg [[.l (zD (zD [] y1) [[.i y2]])]])) 5864062014805) (qNW [.i y0,.r y1,.i (qm .i64 y2 1),.r y3,.i y4,.i y5,.r (zD y6 [[.l (zD (zD [] y1) [[.i y2]])]])])))) (.leaf (1,[.i y0,.r y3,.i y4,.i y5,.r y6]))):=by kernel_rfl
theorem qog(y0:Int)(y1:R)(y2 y3:Int)(y4:R):q4c [.i y0,.r y1,.i y2,.i y3,.r y4]=(.br (ilt y3 y2) (qNV (inb y3 (qg y1)) (.br (ilt 0 (qg (cR y1 y3 0))) (qNV (inb (zY .i64 (qg (cR y1 y3 0)) 1) (qg (cR y1 y3 0))) (let r0:=qf kK [.i y0,.r (cR y1 y3 0),.i (qm .i64 (cI (cR y1 y3 0) (zY .i64 (qg (cR y1 y3 0)) 1) 0) 1),.r y1,.i y2,.i y3,.r y4];qNU r0 (qNW [.i (gI r0 0),.r (gR r0 1),.i (gI r0 2),.i (qm .i64 (gI r0 3) 1),.r (gR r0 4)]))) (let r0:=qf kK [.i y0,.r (cR y1 y3 0),.i 0,.r y1,.i y2,.i y3,.r y4];qNU r0 (qNW [.i (gI r0 0),.r (gR r0 1),.i (gI r0 2),.i (qm .i64 (gI r0 3) 1),.r (gR r0 4)])))) (.leaf (1,[.r y4]))):=by kernel_rfl
theorem qrC:q1y [.i c0,.i c1]=(.br (ieq c1 0) (qNW [.r [[.l []]]]) (let r0:=q1r [.i c0,.i (zY .i64 c1 1)];qNU r0 (let r1:=qf q4c [.i c0,.r (gR r0 0),.i (qg (gR r0 0)),.i 0,.r []];qNU r1 (qNW [.r (gR r1 0)])))):=by kernel_rfl
theorem qnp(y0:Int)(y1:R)(y2:Int)(y3:R)(y4 y5:Int)(y6:R):kM [.i y0,.r y1,.i y2,.r y3,.i y4,.i y5,.r y6]=(.br (ilt y2 y0) (qNV (ile ((qg [])+(qg y1)) 17592186044416) (qNV (ile ((qg (zD [] y1))+(qg [[.i y2]])) 17592186044416) (qNV (ile ((qg y6)+(qg [[.l (zD (zD [] y1) [[.i y2]])]])) 5864062014805) (qNW [.i y0,.r y1,.i (qm .i64 y2 1),.r y3,.i y4,.i y5,.r (zD y6 [[.l (zD (zD [] y1) [[.i y2]])]])])))) (.leaf (1,[.i y0,.r y3,.i y4,.i y5,.r y6]))):=by kernel_rfl
theorem qpq(y0:Int)(y1:R)(y2 y3:Int)(y4:R):q4f [.i y0,.r y1,.i y2,.i y3,.r y4]=(.br (ilt y3 y2) (qNV (inb y3 (qg y1)) (.br (ilt 0 (qg (cR y1 y3 0))) (qNV (inb (zY .i64 (qg (cR y1 y3 0)) 1) (qg (cR y1 y3 0))) (let r0:=qf kM [.i y0,.r (cR y1 y3 0),.i (qm .i64 (cI (cR y1 y3 0) (zY .i64 (qg (cR y1 y3 0)) 1) 0) 1),.r y1,.i y2,.i y3,.r y4];qNU r0 (qNW [.i (gI r0 0),.r (gR r0 1),.i (gI r0 2),.i (qm .i64 (gI r0 3) 1),.r (gR r0 4)]))) (let r0:=qf kM [.i y0,.r (cR y1 y3 0),.i 0,.r y1,.i y2,.i y3,.r y4];qNU r0 (qNW [.i (gI r0 0),.r (gR r0 1),.i (gI r0 2),.i (qm .i64 (gI r0 3) 1),.r (gR r0 4)])))) (.leaf (1,[.r y4]))):=by kernel_rfl
theorem qto:q1B [.i c0,.i c1]=(.br (ieq c1 0) (qNW [.r [[.l []]]]) (let r0:=q1y [.i c0,.i (zY .i64 c1 1)];qNU r0 (let r1:=qf q4f [.i c0,.r (gR r0 0),.i (qg (gR r0 0)),.i 0,.r []];qNU r1 (qNW [.r (gR r1 0)])))):=by kernel_rfl
theorem qoc(y0:Int)(y1:R)(y2:Int)(y3:R)(y4 y5:Int)(y6:R):q1g [.i y0,.r y1,.i y2,.r y3,.i y4,.i y5,.r y6]=(.br (ilt y2 y0) (qNV (ile ((qg [])+(qg y1)) 17592186044416) (qNV (ile ((qg (zD [] y1))+(qg [[.i y2]])) 17592186044416) (qNV (ile ((qg y6)+(qg [[.l (zD (zD [] y1) [[.i y2]])]])) 5864062014805) (qNW [.i y0,.r y1,.i (qm .i64 y2 1),.r y3,.i y4,.i y5,.r (zD y6 [[.l (zD (zD [] y1) [[.i y2]])]])])))) (.leaf (1,[.i y0,.r y3,.i y4,.i y5,.r y6]))):=by kernel_rfl
theorem qqG(y0:Int)(y1:R)(y2 y3:Int)(y4:R):q58 [.i y0,.r y1,.i y2,.i y3,.r y4]=(.br (ilt y3 y2) (qNV (inb y3 (qg y1)) (.br (ilt 0 (qg (cR y1 y3 0))) (qNV (inb (zY .i64 (qg (cR y1 y3 0)) 1) (qg (cR y1 y3 0))) (let r0:=qf q1g [.i y0,.r (cR y1 y3 0),.i (qm .i64 (cI (cR y1 y3 0) (zY .i64 (qg (cR y1 y3 0)) 1) 0) 1),.r y1,.i y2,.i y3,.r y4];qNU r0 (qNW [.i (gI r0 0),.r (gR r0 1),.i (gI r0 2),.i (qm .i64 (gI r0 3) 1),.r (gR r0 4)]))) (let r0:=qf q1g [.i y0,.r (cR y1 y3 0),.i 0,.r y1,.i y2,.i y3,.r y4];qNU r0 (qNW [.i (gI r0 0),.r (gR r0 1),.i (gI r0 2),.i (qm .i64 (gI r0 3) 1),.r (gR r0 4)])))) (.leaf (1,[.r y4]))):=by kernel_rfl
theorem quI:q9J [.i c0,.i c1]=(.br (ieq c1 0) (qNW [.r [[.l []]]]) (let r0:=q1B [.i c0,.i (zY .i64 c1 1)];qNU r0 (let r1:=qf q58 [.i c0,.r (gR r0 0),.i (qg (gR r0 0)),.i 0,.r []];qNU r1 (qNW [.r (gR r1 0)])))):=by kernel_rfl
theorem qu7:qy [.s e0]=(qNV (inb 0 (qu e0)) (qNW [.b (ieq (sat e0 0) 45)])):=by kernel_rfl
theorem qrW:z6 [.s e0,.b d1]=(.br d1 (.br (not (seq e0 [48])) (qNV (ile ((qu [45])+(qu e0)) 140737488355328) (qNW [.s (qeJ [45] e0)])) (qNW [.s e0])) (qNW [.s e0])):=by kernel_rfl
theorem qyf:qw [.s e0]=(.br (not (seq e0 [])) (qNV (inb 0 (qu e0)) (.br (ieq (sat e0 0) 45) (qNV (q6E (qu e0) (qu e0)) (qNV (q6E 1 (qu e0)) (qNW [.s (qdh e0 1 (qu e0))]))) (qNW [.s e0]))) (qNW [.s e0])):=by kernel_rfl
theorem qrM:wI [.s e0]=(let r0:=qw [.s e0];qNU r0 (let r1:=qy [.s e0];qNU r1 (let r2:=z6 [.s (gS r0 0),.b (not (gB r1 0))];qNU r2 (qNW [.s (gS r2 0)])))):=by kernel_rfl
theorem quM(y0:Int)(y1:qNX):qfc [.i y0,.s y1]=(.br (ilt 9 y0) (qNV (ile ((qu (qp2 [[.i (q2I .u8 (qm .i64 48 (qby y0 10)))]]))+(qu y1)) 140737488355328) (qNW [.i (qcl .i64 y0 10),.s (qeJ (qp2 [[.i (q2I .u8 (qm .i64 48 (qby y0 10)))]]) y1)])) (.leaf (1,[.i y0,.s y1]))):=by kernel_rfl
theorem qz5:q7k [.i c0]=(let t0:=qf qfc [.i c0,.s []];let s0:List UInt8:=(qp2 [[.i (q2I .u8 (qm .i64 48 (gI t0 0)))]]);let t1:TR:=(.br (ilt c0 0) .fail (qNU t0 (qNV (ile ((qu s0)+(qu (gS t0 1))) 140737488355328) (qNW [.s (qeJ s0 (gS t0 1))]))));(.br (ieq c0 (zY .i64 0 c0)) (.br (ine c0 0) (qNW [.s [45,57,50,50,51,51,55,50,48,51,54,56,53,52,55,55,53,56,48,56]]) t1) t1)):=by kernel_rfl
theorem qy2(y0:Int)(y1:qNX):qil [.i y0,.s y1]=(.br (ilt 9 y0) (qNV (ile ((qu (qp2 [[.i (q2I .u8 (qm .i64 48 (qby y0 10)))]]))+(qu y1)) 140737488355328) (qNW [.i (qcl .i64 y0 10),.s (qeJ (qp2 [[.i (q2I .u8 (qm .i64 48 (qby y0 10)))]]) y1)])) (.leaf (1,[.i y0,.s y1]))):=by kernel_rfl
theorem qru:zR [.i c0]=(let i0:Int:=(zY .i64 0 c0);let t0:=wI [.s (gS (q7k [.i i0]) 0)];let t1:=qf qil [.i c0,.s []];let s0:List UInt8:=(qp2 [[.i (q2I .u8 (qm .i64 48 (gI t1 0)))]]);let t2:TR:=(.br (ilt c0 0) (qNU (q7k [.i i0]) (qNU t0 (qNW [.s (gS t0 0)]))) (qNU t1 (qNV (ile ((qu s0)+(qu (gS t1 1))) 140737488355328) (qNW [.s (qeJ s0 (gS t1 1))]))));(.br (ieq c0 i0) (.br (ine c0 0) (qNW [.s [45,57,50,50,51,51,55,50,48,51,54,56,53,52,55,55,53,56,48,56]]) t2) t2)):=by kernel_rfl
theorem qvl:zC [.i c0]=(qNU (zR [.i c0]) (qNW [.s (gS (zR [.i c0]) 0)])):=by kernel_rfl
theorem qlN:vO [.i c0,.i c1,.i c2,.i c3,.i c4,.i c5]=(qNW [.i (qm .i64 (qm .i64 (wL .i64 c0 c3) (wL .i64 c1 c4)) (wL .i64 c2 c5))]):=by kernel_rfl
theorem qyv:q8i [.i c0,.i c1,.i c2,.i c3,.i c4,.i c5]=(qNW [.i (zY .i64 c0 c3),.i (zY .i64 c1 c4),.i (zY .i64 c2 c5)]):=by kernel_rfl
theorem qqg:q5i [.s e0,.i c1]=(.br (ilt c1 (qu e0)) (qNV (inb c1 (qu e0)) (.br (ieq (sat e0 c1) 47) (.leaf (2,[.i c1])) (qNW [.s e0,.i (qm .i64 c1 1)]))) (.leaf (1,[]))):=by kernel_rfl
theorem qug:q9N [.s e0]=(let r0:=qf q5i [.s e0,.i 0];qNU r0 (.br (jIs r0 0) (qNW [.i (-1)]) (qNW [.i (gI r0 0)]))):=by kernel_rfl
theorem qvu:uu [.s e0]=(let r0:=q9N [.s e0];qNU r0 (.br (ilt (gI r0 0) 0) (qNW [.s e0,.s [49]]) (qNV (q6E (gI r0 0) (qu e0)) (qNV (q6E 0 (gI r0 0)) (qNV (q6E (qu e0) (qu e0)) (qNV (q6E (qm .i64 (gI r0 0) 1) (qu e0)) (qNW [.s (qdh e0 0 (gI r0 0)),.s (qdh e0 (qm .i64 (gI r0 0) 1) (qu e0))]))))))):=by kernel_rfl
theorem qdF:q1i [.s e0,.i c1,.s e2,.i c3]=(.br (ilt c3 (qu e2)) (qNV (inb c3 (qu e2)) (qNW [.s e0,.i (qm .i64 (wL .i64 10 c1) (q2I .i64 (zY .u8 (sat e2 c3) 48))),.s e2,.i (qm .i64 c3 1)])) (.leaf (1,[.s e0,.i c1]))):=by kernel_rfl
theorem qsJ:ki [.s e0]=(let r0:=qw [.s e0];qNU r0 (let r1:=qf q1i [.s e0,.i 0,.s (gS r0 0),.i 0];qNU r1 (let r2:=qy [.s (gS r1 0)];qNU r2 (.br (gB r2 0) (qNW [.i (zY .i64 0 (gI r1 1))]) (qNW [.i (gI r1 1)]))))):=by kernel_rfl
theorem qtU:jp [.s e0,.s e1]=(qNU (qw [.s e0]) (.br (ilt 18 (qu (gS (qw [.s e0]) 0))) (qNW [.i 0,.i 0,.b false]) (qNU (qw [.s e1]) (.br (ilt 18 (qu (gS (qw [.s e1]) 0))) (qNW [.i 0,.i 0,.b false]) (qNU (ki [.s e0]) (qNU (ki [.s e1]) (qNW [.i (gI (ki [.s e0]) 0),.i (gI (ki [.s e1]) 0),.b true]))))))):=by kernel_rfl
theorem qth:q7F [.s e0]=(.br (ilt 1 (qu e0)) (qNV (inb 0 (qu e0)) (.br (ieq (sat e0 0) 48) (qNV (q6E (qu e0) (qu e0)) (qNV (q6E 1 (qu e0)) (qNW [.s (qdh e0 1 (qu e0))]))) (.leaf (1,[.s e0])))) (.leaf (1,[.s e0]))):=by kernel_rfl
theorem qxY:uR [.s e0]=(let r0:=qf q7F [.s e0];qNU r0 (qNW [.s (gS r0 0)])):=by kernel_rfl
theorem qmY:kX [.s e0,.s e1,.i c2,.i c3,.r a4]=(let i0:Int:=(qm .i64 (qm .i64 c2 c3) 1);(.br (ilt c3 (qu e1)) (qNV (inb i0 (qg a4)) (qNV (inb c2 (qu e0)) (qNV (inb c3 (qu e1)) (qNV (inb i0 (qg a4)) (qNW [.s e0,.s e1,.i c2,.i (qm .i64 c3 1),.r (qaz a4 i0 0 [.i (qm .i64 (cI a4 i0 0) (wL .i64 (q2I .i64 (zY .u8 (sat e0 c2) 48)) (q2I .i64 (zY .u8 (sat e1 c3) 48))))])]))))) (.leaf (1,[.s e0,.s e1,.i c2,.r a4])))):=by kernel_rfl
theorem qnK:q0n [.s e0,.s e1,.i c2,.r a3]=(.br (ilt c2 (qu e0)) (let r0:=qf kX [.s e0,.s e1,.i c2,.i 0,.r a3];qNU r0 (qNW [.s (gS r0 0),.s (gS r0 1),.i (qm .i64 (gI r0 2) 1),.r (gR r0 3)])) (.leaf (1,[.r a3]))):=by kernel_rfl
theorem qls:ut [.i c0,.i c1,.r a2,.r a3]=(.br (ile 0 c1) (qNV (inb c1 (qg a2)) (qNV (inb c1 (qg a3)) (qNW [.i (qcl .i64 (qm .i64 c0 (cI a2 c1 0)) 10),.i (zY .i64 c1 1),.r a2,.r (qaz a3 c1 0 [.i (q2I .u8 (qm .i64 48 (qby (qm .i64 c0 (cI a2 c1 0)) 10)))])]))) (.leaf (1,[.r a3]))):=by kernel_rfl
theorem qqo:q6w [.s e0,.s e1]=(let i0:Int:=(qm .i64 (qu e0) (qu e1));let t0:=qf q0n [.s e0,.s e1,.i 0,.r (q3f i0 [.i 0])];let i1:Int:=(qg (gR t0 0));let t1:=qf ut [.i 0,.i (zY .i64 i1 1),.r (gR t0 0),.r (q3f i1 [.i 0])];let t2:=uR [.s (qp2 (gR t1 0))];(qNV (ieq i0 i0) (qNV (q6E i0 17592186044416) (qNU t0 (qNV (ieq i1 i1) (qNV (q6E i1 140737488355328) (qNU t1 (qNU t2 (qNW [.s (gS t2 0)]))))))))):=by kernel_rfl
theorem qva:vG [.s e0,.s e1]=(let p0:List PV:=[.s e1];let t0:=jp ((.s e0)::p0);let t1:=zR [.i (wL .i64 (gI t0 0) (gI t0 1))];let t2:=q6w [.s (gS (qw [.s e0]) 0),.s (gS (qw p0) 0)];let t3:=z6 [.s (gS t2 0),.b (not (beq (gB (qy [.s e0]) 0) (gB (qy p0) 0)))];let t4:TR:=(qNU (qw [.s e0]) (qNU (qw p0) (qNU t2 (qNU (qy [.s e0]) (qNU (qy p0) (qNU t3 (qNW [.s (gS t3 0)])))))));(qNU t0 (.br (gB t0 2) (.br (ile (qm .i64 (qu e0) (qu e1)) 18) (qNU t1 (qNW [.s (gS t1 0)])) t4) t4))):=by kernel_rfl
theorem qqx:zr [.s e0,.s e1]=(let r0:=uu [.s e0];qNU r0 (let r1:=uu [.s e1];qNU r1 (let r2:=vG [.s (gS r0 0),.s (gS r1 1)];qNU r2 (let r3:=vG [.s (gS r1 0),.s (gS r0 1)];qNU r3 (let r4:=vG [.s (gS r0 1),.s (gS r1 1)];qNU r4 (let r5:=vG [.s (gS r0 0),.s (gS r1 0)];qNU r5 (let r6:=vG [.s (gS r0 1),.s (gS r1 0)];qNU r6 (qNW [.r [[.s (gS r2 0)],[.s (gS r3 0)],[.s (gS r4 0)],[.s (gS r5 0)],[.s (gS r6 0)]]])))))))):=by kernel_rfl
theorem qip:q3V [.s e0,.i c1,.i c2,.r a3]=(.br (ilt c2 c1) (qNV (inb c2 (qg a3)) (qNW [.s e0,.i c1,.i (qm .i64 c2 1),.r (qaz a3 c2 0 [.i 48])])) (.leaf (1,[.s e0,.i c1,.r a3]))):=by kernel_rfl
theorem qyu:q8c [.s e0,.i c1]=(let t0:=qf q3V [.s e0,.i c1,.i 0,.r (q3f c1 [.i 0])];let i0:Int:=(qg (gR t0 2));let i1:Int:=(zY .i64 (gI t0 1) (qu (gS t0 0)));(qNV (ieq c1 c1) (qNV (q6E c1 140737488355328) (qNU t0 (qNV (ilt 0 i0) (qNV (q6E i1 i0) (qNV (ile (qu (gS t0 0)) (qB6 i0 i1)) (qNW [.s (qp2 (qAC (gR t0 2) i1 (gS t0 0)))])))))))):=by kernel_rfl
theorem qs7:q7N [.i c0,.i c1,.i c2,.b d3]=(let i0:Int:=(q2I .i64 (zY .u8 c0 48));let i1:Int:=(q2I .i64 (zY .u8 c1 48));let i2:Int:=(qm .i64 (qm .i64 i0 i1) c2);let i3:Int:=(qm .i64 48 i2);let i4:Int:=(zY .i64 (zY .i64 i0 i1) c2);let i5:Int:=(qm .i64 48 i4);(.br d3 (.br (ilt 9 i2) (qNW [.i (q2I .u8 (zY .i64 i3 10)),.i 1]) (.br (ilt i2 0) (qNW [.i (q2I .u8 (qm .i64 i3 10)),.i 1]) (qNW [.i (q2I .u8 i3),.i 0]))) (.br (ilt 9 i4) (qNW [.i (q2I .u8 (zY .i64 i5 10)),.i 1]) (.br (ilt i4 0) (qNW [.i (q2I .u8 (qm .i64 i5 10)),.i 1]) (qNW [.i (q2I .u8 i5),.i 0]))))):=by kernel_rfl
theorem qqs:q2w [.s e0,.s e1,.b d2,.i c3,.i c4,.r a5]=(.br (ile 0 c4) (qNV (inb c4 (qu e0)) (qNV (inb c4 (qu e1)) (let r0:=q7N [.i (sat e0 c4),.i (sat e1 c4),.i c3,.b d2];qNU r0 (qNV (inb c4 (qg a5)) (qNW [.s e0,.s e1,.b d2,.i (gI r0 1),.i (zY .i64 c4 1),.r (qaz a5 c4 0 [.i (gI r0 0)])]))))) (.leaf (1,[.r a5]))):=by kernel_rfl
theorem qu0:uI [.s e0,.s e1,.b d2]=(let i0:Int:=(qm .i64 (quL (qu e0) (qu e1)) 1);let t0:=q8c [.s e0,.i i0];let t1:=q8c [.s e1,.i i0];let t2:=qf q2w [.s (gS t0 0),.s (gS t1 0),.b d2,.i 0,.i (zY .i64 i0 1),.r (q3f i0 [.i 0])];let t3:=uR [.s (qp2 (gR t2 0))];(qNU t0 (qNU t1 (qNV (ieq i0 i0) (qNV (q6E i0 140737488355328) (qNU t2 (qNU t3 (qNW [.s (gS t3 0)])))))))):=by kernel_rfl
theorem qyi:q4H [.s e0,.s e1]=(.br (ilt (qu e0) (qu e1)) (qNW [.b true]) (.br (ieq (qu e0) (qu e1)) (qNW [.b (slt e0 e1)]) (qNW [.b false]))):=by kernel_rfl
theorem qwD:q4R [.s e0,.s e1]=(let r0:=jp [.s e0,.s e1];qNU r0 (.br (gB r0 2) (let r1:=zR [.i (qm .i64 (gI r0 0) (gI r0 1))];qNU r1 (qNW [.s (gS r1 0)])) (let r1:=qw [.s e0];qNU r1 (let r2:=qw [.s e1];qNU r2 (let r3:=qy [.s e0];qNU r3 (let r4:=qy [.s e1];qNU r4 (.br (beq (gB r3 0) (gB r4 0)) (let r5:=uI [.s (gS r1 0),.s (gS r2 0),.b true];qNU r5 (qNU r3 (let r6:=z6 [.s (gS r5 0),.b (gB r3 0)];qNU r6 (qNW [.s (gS r6 0)])))) (let r5:=q4H [.s (gS r1 0),.s (gS r2 0)];qNU r5 (.br (gB r5 0) (let r6:=uI [.s (gS r2 0),.s (gS r1 0),.b false];qNU r6 (qNU r4 (let r7:=z6 [.s (gS r6 0),.b (gB r4 0)];qNU r7 (qNW [.s (gS r7 0)])))) (let r6:=uI [.s (gS r1 0),.s (gS r2 0),.b false];qNU r6 (qNU r3 (let r7:=z6 [.s (gS r6 0),.b (gB r3 0)];qNU r7 (qNW [.s (gS r7 0)]))))))))))))):=by kernel_rfl
theorem qvf:jn [.s e0,.s e1]=(let r0:=wI [.s e1];qNU r0 (let r1:=q4R [.s e0,.s (gS r0 0)];qNU r1 (qNW [.s (gS r1 0)]))):=by kernel_rfl
theorem qlp:uD [.s e0,.s e1,.s e2,.s e3,.i c4,.i c5]=(let r0:=q4H [.s e3,.s e1];qNU r0 (.br (not (gB r0 0)) (let r1:=uI [.s e3,.s e1,.b false];qNU r1 (qNW [.s e0,.s e1,.s e2,.s (gS r1 0),.i c4,.i (qm .u8 c5 1)])) (.leaf (1,[.s e0,.s e1,.s e2,.s e3,.i c4,.i c5])))):=by kernel_rfl
theorem qmT:q2N [.s e0,.s e1,.s e2,.s e3,.i c4]=(.br (ilt c4 (qu e0)) (qNV (q6E (qm .i64 c4 1) (qu e0)) (qNV (q6E c4 (qm .i64 c4 1)) (qNV (ile ((qu e3)+(qu (qdh e0 c4 (qm .i64 c4 1)))) 140737488355328) (let r0:=uR [.s (qeJ e3 (qdh e0 c4 (qm .i64 c4 1)))];qNU r0 (let r1:=qf uD [.s e0,.s e1,.s e2,.s (gS r0 0),.i c4,.i 48];qNU r1 (qNV (ile ((qu (gS r1 2))+(qu (qp2 [[.i (gI r1 5)]]))) 140737488355328) (qNW [.s (gS r1 0),.s (gS r1 1),.s (qeJ (gS r1 2) (qp2 [[.i (gI r1 5)]])),.s (gS r1 3),.i (qm .i64 (gI r1 4) 1)]))))))) (.leaf (1,[.s e2,.s e3]))):=by kernel_rfl
theorem qqO:q5E [.s e0,.s e1]=(let r0:=qf q2N [.s e0,.s e1,.s [],.s [48],.i 0];qNU r0 (let r1:=uR [.s (gS r0 0)];qNU r1 (qNW [.s (gS r1 0),.s (gS r0 1)]))):=by kernel_rfl
theorem qty:jl [.s e0,.s e1]=(let p0:List PV:=[.s e1];let t0:=jp ((.s e0)::p0);let i0:Int:=(gI t0 1);let i1:Int:=(qby (gI t0 0) i0);let i2:Int:=(qm .i64 i1 i0);let t1:=zR [.i (qcl .i64 (zY .i64 (gI t0 0) i2) i0)];let t2:=zR [.i (qcl .i64 (zY .i64 (gI t0 0) i1) i0)];let t3:TR:=(qNV (ine i0 0) (qNU t2 (qNU (zR [.i i1]) (qNW [.s (gS t2 0),.s (gS (zR [.i i1]) 0)]))));let t4:=q5E [.s (gS (qw [.s e0]) 0),.s (gS (qw p0) 0)];let t5:=qy [.s e0];let b0:Bool:=(not (beq (gB t5 0) (gB (qy p0) 0)));let t6:=z6 [.s (gS t4 0),.b b0];let t7:=jn [.s (gS t6 0),.s [49]];let t8:=vG ((.s (gS t7 0))::p0);let t9:=jn [.s e0,.s (gS t8 0)];let t10:=vG ((.s (gS t6 0))::p0);let t11:=jn [.s e0,.s (gS t10 0)];let t12:TR:=(qNU t10 (qNU t11 (qNW [.s (gS t6 0),.s (gS t11 0)])));(qNU t0 (.br (gB t0 2) (qNV (ine i0 0) (.br (ine i1 0) (.br (not (beq (ilt i1 0) (ilt i0 0))) (qNV (ine i0 0) (qNU t1 (qNU (zR [.i i2]) (qNW [.s (gS t1 0),.s (gS (zR [.i i2]) 0)])))) t3) t3)) (qNU (qw [.s e0]) (qNU (qw p0) (qNU t4 (qNU t5 (qNU (qy p0) (qNU t6 (.br (not (seq (gS t4 1) [48])) (qNU t5 (qNU (qy p0) (.br b0 (qNU t7 (qNU t8 (qNU t9 (qNW [.s (gS t7 0),.s (gS t9 0)])))) t12))) t12)))))))))):=by kernel_rfl
theorem qns:q05 [.i c0,.i c1]=(.br (ilt 0 c1) (qNV (ine c1 0) (qNW [.i c1,.i (qby c0 c1)])) (.leaf (1,[.i c0]))):=by kernel_rfl
theorem qoY:q47 [.s e0,.s e1]=(.br (not (seq e1 [48])) (let r0:=jp [.s e0,.s e1];qNU r0 (.br (gB r0 2) (let r1:=qf q05 [.i (gI r0 0),.i (gI r0 1)];qNU r1 (let r2:=zR [.i (gI r1 0)];qNU r2 (.leaf (2,[.s (gS r2 0)])))) (let r1:=jl [.s e0,.s e1];qNU r1 (qNW [.s e1,.s (gS r1 1)])))) (.leaf (1,[.s e0]))):=by kernel_rfl
theorem qsR:q7P [.s e0,.s e1]=(let r0:=qw [.s e0];qNU r0 (let r1:=z6 [.s (gS r0 0),.b false];qNU r1 (let r2:=qw [.s e1];qNU r2 (let r3:=z6 [.s (gS r2 0),.b false];qNU r3 (let r4:=qf q47 [.s (gS r1 0),.s (gS r3 0)];qNU r4 (.br (jIs r4 0) (qNW [.s (gS r4 0)]) (qNW [.s (gS r4 0)]))))))):=by kernel_rfl
theorem qrZ:vw [.s e0,.s e1]=(let r0:=q7P [.s e0,.s e1];qNU r0 (let r1:=qy [.s e1];qNU r1 (.br (gB r1 0) (let r2:=wI [.s (gS r0 0)];qNU r2 (let r3:=jl [.s e0,.s (gS r2 0)];qNU r3 (let r4:=jl [.s e1,.s (gS r2 0)];qNU r4 (.br (seq (gS r4 0) [49]) (qNW [.s (gS r3 0)]) (qNV (ile ((qu (gS r3 0))+(qu [47])) 140737488355328) (qNV (ile ((qu (qeJ (gS r3 0) [47]))+(qu (gS r4 0))) 140737488355328) (qNW [.s (qeJ (qeJ (gS r3 0) [47]) (gS r4 0))]))))))) (let r2:=jl [.s e0,.s (gS r0 0)];qNU r2 (let r3:=jl [.s e1,.s (gS r0 0)];qNU r3 (.br (seq (gS r3 0) [49]) (qNW [.s (gS r2 0)]) (qNV (ile ((qu (gS r2 0))+(qu [47])) 140737488355328) (qNV (ile ((qu (qeJ (gS r2 0) [47]))+(qu (gS r3 0))) 140737488355328) (qNW [.s (qeJ (qeJ (gS r2 0) [47]) (gS r3 0))]))))))))):=by kernel_rfl
theorem qtZ:zn [.s e0,.s e1]=(let r0:=zr [.s e0,.s e1];qNU r0 (qNV (inb 3 (qg (gR r0 0))) (qNV (inb 2 (qg (gR r0 0))) (let r1:=vw [.s (cS (gR r0 0) 3 0),.s (cS (gR r0 0) 2 0)];qNU r1 (qNW [.s (gS r1 0)]))))):=by kernel_rfl
theorem qu1:jo [.s e0,.s e1]=(let r0:=zr [.s e0,.s e1];qNU r0 (qNV (inb 0 (qg (gR r0 0))) (qNV (inb 1 (qg (gR r0 0))) (let r1:=jn [.s (cS (gR r0 0) 0 0),.s (cS (gR r0 0) 1 0)];qNU r1 (qNV (inb 2 (qg (gR r0 0))) (let r2:=vw [.s (gS r1 0),.s (cS (gR r0 0) 2 0)];qNU r2 (qNW [.s (gS r2 0)]))))))):=by kernel_rfl
theorem q5Z:yE [.r a0,.i c1,.i c2,.r a3]=(.br (ilt c2 (qg a0)) (qNV (inb c2 (qg a0)) (qNV (inb c1 (qg (cR a0 c2 0))) (.br (not (seq (cS (cR a0 c2 0) c1 0) [48])) (qNV (inb c2 (qg a0)) (qNV (inb c1 (qg a0)) (qNV (inb c1 (qg a3)) (qNV (inb c2 (qg (qaz a3 c1 0 [.l (cR a0 c2 0)]))) (.leaf (2,[.b true,.r (qaz (qaz a3 c1 0 [.l (cR a0 c2 0)]) c2 0 [.l (cR a0 c1 0)])])))))) (qNW [.r a0,.i c1,.i (qm .i64 c2 1),.r a3])))) (.leaf (1,[]))):=by kernel_rfl
theorem qqm:q5M [.r a0,.i c1]=(qNV (ile ((qg [])+(qg a0)) 5864062014805) (let r0:=qf yE [.r a0,.i c1,.i c1,.r (zD [] a0)];qNU r0 (.br (jIs r0 0) (qNW [.r [],.b false]) (qNW [.r (gR r0 1),.b (gB r0 0)])))):=by kernel_rfl
theorem qB3:qjj [.s e0,.s e1]=(let r0:=zr [.s e0,.s e1];qNU r0 (qNV (inb 0 (qg (gR r0 0))) (qNV (inb 4 (qg (gR r0 0))) (let r1:=vw [.s (cS (gR r0 0) 0 0),.s (cS (gR r0 0) 4 0)];qNU r1 (qNW [.s (gS r1 0)]))))):=by kernel_rfl
theorem qwZ:wu [.s e0,.s e1]=(let r0:=zr [.s e0,.s e1];qNU r0 (qNV (inb 0 (qg (gR r0 0))) (qNV (inb 1 (qg (gR r0 0))) (let r1:=q4R [.s (cS (gR r0 0) 0 0),.s (cS (gR r0 0) 1 0)];qNU r1 (qNV (inb 2 (qg (gR r0 0))) (let r2:=vw [.s (gS r1 0),.s (cS (gR r0 0) 2 0)];qNU r2 (qNW [.s (gS r2 0)]))))))):=by kernel_rfl
theorem qgp:q2k [.r a0,.s e1,.i c2]=(.br (ilt c2 (qg a0)) (qNV (inb c2 (qg a0)) (let r0:=wu [.s e1,.s (cS a0 c2 0)];qNU r0 (qNW [.r a0,.s (gS r0 0),.i (qm .i64 c2 1)]))) (.leaf (1,[.s e1]))):=by kernel_rfl
theorem qv3:q5Q [.r a0]=(let r0:=qf q2k [.r a0,.s [48],.i 0];qNU r0 (qNW [.s (gS r0 0)])):=by kernel_rfl
theorem qam:uC [.r a0,.i c1,.i c2,.r a3,.i c4,.i c5,.i c6,.r a7]=(.br (ilt c2 (qg a0)) (qNV (inb c2 (qg a0)) (qNV (inb 0 (qg a0)) (let r0:=q8i [.i (cI a0 c2 0),.i (cI a0 c2 1),.i (cI a0 c2 2),.i (cI a0 0 0),.i (cI a0 0 1),.i (cI a0 0 2)];qNU r0 (let r1:=vO [.i c4,.i c5,.i c6,.i (gI r0 0),.i (gI r0 1),.i (gI r0 2)];qNU r1 (let r2:=zC [.i (wL .i64 2 (gI r1 0))];qNU r2 (qNV (ile ((qg a7)+(qg [[.s (gS r2 0)]])) 8796093022208) (qNW [.r a0,.i c1,.i (qm .i64 c2 1),.r a3,.i c4,.i c5,.i c6,.r (zD a7 [[.s (gS r2 0)]])]))))))) (.leaf (1,[.r a0,.i c1,.r a3,.i c4,.i c5,.i c6,.r a7]))):=by kernel_rfl
theorem qck:kY [.r a0,.i c1,.r a2]=(.br (ilt c1 (qg a0)) (qNV (inb c1 (qg a0)) (qNV (inb 0 (qg a0)) (let r0:=q8i [.i (cI a0 c1 0),.i (cI a0 c1 1),.i (cI a0 c1 2),.i (cI a0 0 0),.i (cI a0 0 1),.i (cI a0 0 2)];qNU r0 (let r1:=qf uC [.r a0,.i c1,.i 1,.r a2,.i (gI r0 0),.i (gI r0 1),.i (gI r0 2),.r []];qNU r1 (let r2:=vO [.i (gI r1 3),.i (gI r1 4),.i (gI r1 5),.i (gI r1 3),.i (gI r1 4),.i (gI r1 5)];qNU r2 (let r3:=zC [.i (gI r2 0)];qNU r3 (qNV (ile ((qg (gR r1 6))+(qg [[.s (gS r3 0)]])) 8796093022208) (qNV (ile ((qg (gR r1 2))+(qg [[.l (zD (gR r1 6) [[.s (gS r3 0)]])]])) 5864062014805) (qNW [.r (gR r1 0),.i (qm .i64 (gI r1 1) 1),.r (zD (gR r1 2) [[.l (zD (gR r1 6) [[.s (gS r3 0)]])]])]))))))))) (.leaf (1,[.r a2]))):=by kernel_rfl
theorem q5K:wD [.i c0,.r a1,.i c2,.i c3,.r a4,.r a5]=(qNV (inb c2 (qg a1)) (.br (ilt c3 (qg (cR a1 c2 0))) (qNV (inb c0 (qg a1)) (qNV (inb c3 (qg (cR a1 c0 0))) (qNV (inb c0 (qg a1)) (qNV (inb c0 (qg (cR a1 c0 0))) (let r0:=qjj [.s (cS (cR a1 c0 0) c3 0),.s (cS (cR a1 c0 0) c0 0)];qNU r0 (.br (ine c2 c0) (qNV (inb c2 (qg a1)) (qNV (inb c3 (qg (cR a1 c2 0))) (qNV (inb c2 (qg a1)) (qNV (inb c0 (qg (cR a1 c2 0))) (let r1:=zn [.s (cS (cR a1 c2 0) c0 0),.s (gS r0 0)];qNU r1 (let r2:=jo [.s (cS (cR a1 c2 0) c3 0),.s (gS r1 0)];qNU r2 (qNV (ile ((qg a5)+(qg [[.s (gS r2 0)]])) 8796093022208) (qNW [.i c0,.r a1,.i c2,.i (qm .i64 c3 1),.r a4,.r (zD a5 [[.s (gS r2 0)]])])))))))) (qNV (ile ((qg a5)+(qg [[.s (gS r0 0)]])) 8796093022208) (qNW [.i c0,.r a1,.i c2,.i (qm .i64 c3 1),.r a4,.r (zD a5 [[.s (gS r0 0)]])])))))))) (.leaf (1,[.i c0,.r a1,.i c2,.r a4,.r a5])))):=by kernel_rfl
theorem q5O:j0 [.i c0,.r a1,.i c2,.r a3]=(.br (ilt c2 (qg a1)) (let r0:=qf wD [.i c0,.r a1,.i c2,.i 0,.r a3,.r []];qNU r0 (qNV (ile ((qg (gR r0 3))+(qg [[.l (gR r0 4)]])) 5864062014805) (qNW [.i (gI r0 0),.r (gR r0 1),.i (qm .i64 (gI r0 2) 1),.r (zD (gR r0 3) [[.l (gR r0 4)]])]))) (.leaf (1,[.i c0,.r a3]))):=by kernel_rfl
theorem qhf:va [.i c0,.r a1]=(.br (ilt c0 (qg a1)) (let r0:=q5M [.r a1,.i c0];qNU r0 (.br (not (gB r0 1)) (.leaf (2,[.b false])) (let r1:=qf j0 [.i c0,.r (gR r0 0),.i 0,.r []];qNU r1 (qNW [.i (qm .i64 (gI r1 0) 1),.r (gR r1 1)])))) (.leaf (1,[.r a1]))):=by kernel_rfl
theorem q5l:j4 [.i c0,.r a1,.r a2]=(.br (ilt c0 (qg a1)) (qNV (inb c0 (qg a1)) (qNV (inb (qg a1) (qg (cR a1 c0 0))) (qNV (ile ((qg a2)+(qg [[.s (cS (cR a1 c0 0) (qg a1) 0)]])) 8796093022208) (qNW [.i (qm .i64 c0 1),.r a1,.r (zD a2 [[.s (cS (cR a1 c0 0) (qg a1) 0)]])])))) (.leaf (1,[.r a2]))):=by kernel_rfl
theorem qgG:jy [.r a0]=(let r0:=qf kY [.r a0,.i 1,.r []];qNU r0 (let r1:=qf va [.i 0,.r (gR r0 0)];qNU r1 (.br (jIs r1 0) (let r2:=qf j4 [.i 0,.r (gR r1 0),.r []];qNU r2 (let r3:=q5Q [.r (gR r2 0)];qNU r3 (let r4:=jo [.s [49],.s (gS r3 0)];qNU r4 (qNV (ile ((qg [[.s (gS r4 0)]])+(qg (gR r2 0))) 8796093022208) (qNW [.r (zD [[.s (gS r4 0)]] (gR r2 0)),.b true]))))) (.br (not (gB r1 0)) (qNW [.r [],.b false]) (let r2:=q5Q [.r []];qNU r2 (let r3:=jo [.s [49],.s (gS r2 0)];qNU r3 .fail)))))):=by kernel_rfl
theorem qdQ:q17 [.r a0,.r a1,.i c2,.i c3,.i c4,.i c5,.i c6,.s e7,.s e8,.s e9,.s e10,.s e11,.s e12]=(.br (ilt c6 3) (qNV (inb c6 3) (.br (ieq c6 2) (qNV (inb c2 (qg a1)) (let r0:=zC [.i (ql7 [c3,c4,c5] c6)];qNU r0 (let r1:=zn [.s (cS a1 c2 0),.s (gS r0 0)];qNU r1 (let r2:=wu [.s e12,.s (gS r1 0)];qNU r2 (.br (ieq c6 2) (qNW [.r a0,.r a1,.i c2,.i c3,.i c4,.i c5,.i (qm .i64 c6 1),.s e7,.s e8,.s e9,.s e10,.s e11,.s (gS r2 0)]) (.br (ieq c6 1) (qNW [.r a0,.r a1,.i c2,.i c3,.i c4,.i c5,.i (qm .i64 c6 1),.s e7,.s e8,.s e9,.s e10,.s (gS r2 0),.s e12]) (qNV (ieq c6 0) (qNW [.r a0,.r a1,.i c2,.i c3,.i c4,.i c5,.i (qm .i64 c6 1),.s e7,.s e8,.s e9,.s (gS r2 0),.s e11,.s e12])))))))) (.br (ieq c6 1) (qNV (inb c2 (qg a1)) (let r0:=zC [.i (ql7 [c3,c4,c5] c6)];qNU r0 (let r1:=zn [.s (cS a1 c2 0),.s (gS r0 0)];qNU r1 (let r2:=wu [.s e11,.s (gS r1 0)];qNU r2 (.br (ieq c6 2) (qNW [.r a0,.r a1,.i c2,.i c3,.i c4,.i c5,.i (qm .i64 c6 1),.s e7,.s e8,.s e9,.s e10,.s e11,.s (gS r2 0)]) (.br (ieq c6 1) (qNW [.r a0,.r a1,.i c2,.i c3,.i c4,.i c5,.i (qm .i64 c6 1),.s e7,.s e8,.s e9,.s e10,.s (gS r2 0),.s e12]) (qNV (ieq c6 0) (qNW [.r a0,.r a1,.i c2,.i c3,.i c4,.i c5,.i (qm .i64 c6 1),.s e7,.s e8,.s e9,.s (gS r2 0),.s e11,.s e12])))))))) (qNV (ieq c6 0) (qNV (inb c2 (qg a1)) (let r0:=zC [.i (ql7 [c3,c4,c5] c6)];qNU r0 (let r1:=zn [.s (cS a1 c2 0),.s (gS r0 0)];qNU r1 (let r2:=wu [.s e10,.s (gS r1 0)];qNU r2 (.br (ieq c6 2) (qNW [.r a0,.r a1,.i c2,.i c3,.i c4,.i c5,.i (qm .i64 c6 1),.s e7,.s e8,.s e9,.s e10,.s e11,.s (gS r2 0)]) (.br (ieq c6 1) (qNW [.r a0,.r a1,.i c2,.i c3,.i c4,.i c5,.i (qm .i64 c6 1),.s e7,.s e8,.s e9,.s e10,.s (gS r2 0),.s e12]) (qNV (ieq c6 0) (qNW [.r a0,.r a1,.i c2,.i c3,.i c4,.i c5,.i (qm .i64 c6 1),.s e7,.s e8,.s e9,.s (gS r2 0),.s e11,.s e12])))))))))))) (.leaf (1,[.r a0,.r a1,.i c2,.s e7,.s e8,.s e9,.s e10,.s e11,.s e12]))):=by kernel_rfl
theorem qe9:q1b [.r a0,.r a1,.i c2,.s e3,.s e4,.s e5,.s e6,.s e7,.s e8]=(.br (ilt c2 (qg a0)) (qNV (inb c2 (qg a0)) (qNV (inb c2 (qg a0)) (qNV (inb c2 (qg a0)) (let r0:=qf q17 [.r a0,.r a1,.i c2,.i (cI a0 c2 0),.i (cI a0 c2 1),.i (cI a0 c2 2),.i 0,.s e3,.s e4,.s e5,.s e6,.s e7,.s e8];qNU r0 (qNW [.r (gR r0 0),.r (gR r0 1),.i (qm .i64 (gI r0 2) 1),.s (gS r0 3),.s (gS r0 4),.s (gS r0 5),.s (gS r0 6),.s (gS r0 7),.s (gS r0 8)]))))) (.leaf (1,[.s e3,.s e4,.s e5,.s e6,.s e7,.s e8]))):=by kernel_rfl
theorem qrK:q7O [.r a0,.r a1]=(let r0:=qf q1b [.r a0,.r a1,.i 0,.s [],.s [],.s [],.s [48],.s [48],.s [48]];qNU r0 (qNW [.s (gS r0 3),.s (gS r0 4),.s (gS r0 5)])):=by kernel_rfl
theorem qi2:q3y [.s e0,.i c1,.i c2,.i c3,.i c4,.s e5,.s e6,.s e7]=(let t0:=zC [.i (ql7 [c1,c2,c3] c4)];let p0:List PV:=[.s (gS t0 0)];let t1:=jo ((.s e7)::p0);let t2:=zn [.s (gS t1 0),.s (gS t1 0)];let t3:=wu [.s e0,.s (gS t2 0)];let p1:List PV:=[.i c1,.i c2,.i c3,.i (qm .i64 c4 1),.s e5,.s e6,.s e7];let t4:=jo ((.s e6)::p0);let t5:=zn [.s (gS t4 0),.s (gS t4 0)];let t6:=wu [.s e0,.s (gS t5 0)];let t7:=jo ((.s e5)::p0);let t8:=zn [.s (gS t7 0),.s (gS t7 0)];let t9:=wu [.s e0,.s (gS t8 0)];(.br (ilt c4 3) (qNV (inb c4 3) (.br (ieq c4 2) (qNU t0 (qNU t1 (qNU t2 (qNU t3 (qNW ((.s (gS t3 0))::p1)))))) (.br (ieq c4 1) (qNU t0 (qNU t4 (qNU t5 (qNU t6 (qNW ((.s (gS t6 0))::p1)))))) (qNV (ieq c4 0) (qNU t0 (qNU t7 (qNU t8 (qNU t9 (qNW ((.s (gS t9 0))::p1)))))))))) (.leaf (1,[.s e0])))):=by kernel_rfl
theorem qwT:uQ [.s e0,.s e1,.s e2,.i c3,.i c4,.i c5]=(let r0:=qf q3y [.s [48],.i c3,.i c4,.i c5,.i 0,.s e0,.s e1,.s e2];qNU r0 (qNW [.s (gS r0 0)])):=by kernel_rfl
theorem qmm:q0r [.r a0]=(let r0:=jy [.r a0];qNU r0 (.br (not (gB r0 1)) (qNW [.s [],.s [],.s [],.s [],.b false]) (let r1:=q7O [.r a0,.r (gR r0 0)];qNU r1 (qNV (inb 0 (qg a0)) (let r2:=uQ [.s (gS r1 0),.s (gS r1 1),.s (gS r1 2),.i (cI a0 0 0),.i (cI a0 0 1),.i (cI a0 0 2)];qNU r2 (qNW [.s (gS r1 0),.s (gS r1 1),.s (gS r1 2),.s (gS r2 0),.b true])))))):=by kernel_rfl
theorem qeu:q1k [.r a0,.r a1,.i c2,.r a3]=(.br (ilt c2 (qg a1)) (qNV (inb c2 (qg a1)) (qNV (inb (cI a1 c2 0) (qg a0)) (qNV (ile ((qg a3)+(qg [[.i (cI a0 (cI a1 c2 0) 0),.i (cI a0 (cI a1 c2 0) 1),.i (cI a0 (cI a1 c2 0) 2)]])) 5864062014805) (qNW [.r a0,.r a1,.i (qm .i64 c2 1),.r (zD a3 [[.i (cI a0 (cI a1 c2 0) 0),.i (cI a0 (cI a1 c2 0) 1),.i (cI a0 (cI a1 c2 0) 2)]])])))) (.leaf (1,[.r a3]))):=by kernel_rfl
theorem qtI:q1v [.r a0,.r a1]=(let r0:=qf q1k [.r a0,.r a1,.i 0,.r []];qNU r0 (qNW [.r (gR r0 0)])):=by kernel_rfl
theorem qup:q2R [.s e0,.s e1]=(let r0:=jn [.s e0,.s e1];qNU r0 (.br (seq (gS r0 0) [48]) (qNW [.i 0]) (let r1:=qy [.s (gS r0 0)];qNU r1 (.br (gB r1 0) (qNW [.i (-1)]) (qNW [.i 1]))))):=by kernel_rfl
theorem qtG:q1C [.s e0]=(let r0:=uu [.s e0];qNU r0 (let r1:=q2R [.s (gS r0 0),.s [48]];qNU r1 (qNW [.i (gI r1 0)]))):=by kernel_rfl
theorem qe5:q1p [.r a0,.b d1,.i c2]=(.br (ilt c2 (qg a0)) (.br d1 (qNV (inb c2 (qg a0)) (qNU (q1C [.s (cS a0 c2 0)]) (qNW [.r a0,.b (ile 0 (gI (q1C [.s (cS a0 c2 0)]) 0)),.i (qm .i64 c2 1)]))) (qNW [.r a0,.b false,.i (qm .i64 c2 1)])) (.leaf (1,[.b d1]))):=by kernel_rfl
theorem qsw:q7V [.r a0]=(let r0:=jy [.r a0];qNU r0 (let r1:=qf q1p [.r (gR r0 0),.b (gB r0 1),.i 0];qNU r1 (qNW [.b (gB r1 0)]))):=by kernel_rfl
theorem quZ:uq [.s e0,.s e1]=(let r0:=zr [.s e0,.s e1];qNU r0 (qNV (inb 0 (qg (gR r0 0))) (qNV (inb 1 (qg (gR r0 0))) (let r1:=q2R [.s (cS (gR r0 0) 0 0),.s (cS (gR r0 0) 1 0)];qNU r1 (qNW [.i (gI r1 0)]))))):=by kernel_rfl
theorem q4o:jC [.r a0,.s e1,.i c2,.s e3,.s e4,.s e5]=(.br (ilt c2 (qg a0)) (qNV (inb c2 (qg a0)) (let r0:=uQ [.s e3,.s e4,.s e5,.i (cI a0 c2 0),.i (cI a0 c2 1),.i (cI a0 c2 2)];qNU r0 (let r1:=uq [.s (gS r0 0),.s e1];qNU r1 (.br (ilt 0 (gI r1 0)) (.leaf (2,[.b false])) (qNW [.r a0,.s e1,.i (qm .i64 c2 1),.s e3,.s e4,.s e5]))))) (.leaf (1,[]))):=by kernel_rfl
theorem qox:q3Y [.r a0,.s e1,.s e2,.s e3,.s e4]=(let r0:=qf jC [.r a0,.s e4,.i 0,.s e1,.s e2,.s e3];qNU r0 (.br (jIs r0 0) (qNW [.b true]) (qNW [.b (gB r0 0)]))):=by kernel_rfl
theorem qer:q3Z [.r a0,.r a1]=(let r0:=q1v [.r a0,.r a1];qNU r0 (let r1:=q0r [.r (gR r0 0)];qNU r1 (.br (gB r1 4) (let r2:=q7V [.r (gR r0 0)];qNU r2 (.br (gB r2 0) (let r3:=q3Y [.r a0,.s (gS r1 0),.s (gS r1 1),.s (gS r1 2),.s (gS r1 3)];qNU r3 (qNW [.b (gB r3 0)])) (qNW [.b false]))) (qNW [.b false])))):=by kernel_rfl
theorem q8V:q2n [.r a0,.i c1,.i c2,.r a3,.i c4,.i c5]=(.br (ilt c5 c4) (qNV (inb c5 (qg a3)) (let r0:=q3Z [.r a0,.r (cR a3 c5 0)];qNU r0 (.br (gB r0 0) (.leaf (2,[.r (cR a3 c5 0)])) (qNW [.r a0,.i c1,.i c2,.r a3,.i c4,.i (qm .i64 c5 1)])))) (.leaf (1,[.r a0,.i c1,.i c2]))):=by kernel_rfl
theorem q8X:q2h [.r a0,.i c1,.i c2]=(.br (ile c2 c1) (let r0:=q9J [.i (qg a0),.i c2];qNU r0 (let r1:=qf q2n [.r a0,.i c1,.i c2,.r (gR r0 0),.i (qg (gR r0 0)),.i 0];qNU r1 (.br (jIs r1 0) (qNW [.r (gR r1 0),.i (gI r1 1),.i (qm .i64 (gI r1 2) 1)]) (.leaf (2,[.r (gR r1 0)]))))) (.leaf (1,[]))):=by kernel_rfl
theorem qv8:q5S [.r a0,.i c1]=(let r0:=qf q2h [.r a0,.i c1,.i 1];qNU r0 (.br (jIs r0 0) (qNW [.r []]) (qNW [.r (gR r0 0)]))):=by kernel_rfl
theorem qeD:q1c [.r a0,.i c1,.r a2]=(.br (ilt c1 (qg a0)) (qNV (inb c1 (qg a0)) (qNV (inb c1 (qg a0)) (qNV (ile ((qg a2)+(qg [[.i (cI a0 c1 0),.i (cI a0 c1 1),.i 0]])) 5864062014805) (qNW [.r a0,.i (qm .i64 c1 1),.r (zD a2 [[.i (cI a0 c1 0),.i (cI a0 c1 1),.i 0]])])))) (.leaf (1,[.r a2]))):=by kernel_rfl
theorem qtF:q7w [.r a0]=(let r0:=qf q1c [.r a0,.i 0,.r []];qNU r0 (qNW [.r (gR r0 0)])):=by kernel_rfl
theorem qsl:q7z [.r a0]=(let r0:=qbT [.r a0];qNU r0 (.br (ine (gI r0 0) 0) (qNW [.s [],.s [],.s [],.r [],.i (gI r0 0)]) (let r1:=q7w [.r a0];qNU r1 (let r2:=q5S [.r (gR r1 0),.i 3];qNU r2 (qNU r1 (let r3:=q1v [.r (gR r1 0),.r (gR r2 0)];qNU r3 (let r4:=q0r [.r (gR r3 0)];qNU r4 (qNW [.s (gS r4 0),.s (gS r4 1),.s (gS r4 3),.r (gR r2 0),.i 0])))))))):=by kernel_rfl
theorem qAk:qt4 [.r a0,.i c1]=(let r0:=q33 [.r a0];qNU r0 (.br (ine (gI r0 0) 0) (qNW [.b false,.i (gI r0 0)]) (.br (ieq (qg a0) 0) (qNW [.b false,.i 13]) (.br (ilt c1 0) (qNW [.b false,.i 2]) (.br (ilt 100000 c1) (qNW [.b false,.i 2]) (let r1:=q7z [.r a0];qNU r1 (let r2:=zn [.s [52],.s (gS r1 2)];qNU r2 (let r3:=zC [.i (wL .i64 c1 c1)];qNU r3 (let r4:=uq [.s (gS r2 0),.s (gS r3 0)];qNU r4 (qNW [.b (ile (gI r4 0) 0),.i 0])))))))))):=by kernel_rfl
theorem qBw:q4F [.i c0]=(.br (ile (-100000) c0) (qNW [.b (ile c0 100000)]) (qNW [.b false])):=by kernel_rfl
theorem qvs:q6o [.i c0,.i c1]=(qNU (q4F [.i c0]) (.br (not (gB (q4F [.i c0]) 0)) (qNW [.i 2]) (qNU (q4F [.i c1]) (.br (not (gB (q4F [.i c1]) 0)) (qNW [.i 2]) (.br (ilt c1 c0) (qNW [.i 9]) (qNW [.i 0])))))):=by kernel_rfl
theorem qxV:q0q [.i c0,.i c1]=(let r0:=q6o [.i c0,.i c1];qNU r0 (.br (ine (gI r0 0) 0) (qNW [.i (gI r0 0)]) (.br (ilt c0 0) (qNW [.i 2]) (qNW [.i 0])))):=by kernel_rfl
theorem qqA:yP [.i c0,.r a1,.r a2,.b d3,.i c4,.i c5]=(let r0:=wA [.i c0,.r a1,.r a2];qNU r0 (.br (ine (gI r0 0) 0) (qNW [.b false,.i (gI r0 0)]) (let r1:=q0E [.i c4,.i c5];qNU r1 (.br (ine (gI r1 0) 0) (qNW [.b false,.i (gI r1 0)]) (let r2:=yi [.i c0,.r a1,.r a2];qNU r2 (.br (ile c4 (gI r2 0)) (qNW [.b (ile (gI r2 1) c5),.i 0]) (qNW [.b false,.i 0]))))))):=by kernel_rfl
theorem qpt:q1f [.i c0,.r a1,.r a2,.b d3,.i c4,.i c5]=(let r0:=zB [.i c0,.r a1,.r a2];qNU r0 (.br (ine (gI r0 0) 0) (qNW [.b false,.i (gI r0 0)]) (let r1:=q0q [.i c4,.i c5];qNU r1 (.br (ine (gI r1 0) 0) (qNW [.b false,.i (gI r1 0)]) (let r2:=yh [.i c0,.r a1,.r a2];qNU r2 (let r3:=vW [.r (gR r2 0)];qNU r3 (.br d3 (let r4:=uO [.i c0,.r a1,.r a2,.b true];qNU r4 (.br (ile c4 (gI r4 0)) (qNW [.b (ile (gI r3 1) c5),.i 0]) (qNW [.b false,.i 0]))) (let r4:=uO [.i c0,.r a1,.r a2,.b false];qNU r4 (.br (ile (gI r4 0) c5) (qNW [.b (ile c4 (gI r3 0)),.i 0]) (qNW [.b false,.i 0])))))))))):=by kernel_rfl
theorem qh3:jv [.i c0,.r a1,.r a2,.b d3,.i c4,.i c5]=(let r0:=zO [.i c0,.r a1,.r a2];qNU r0 (.br (not (gB r0 0)) (let r1:=zA [];qNU r1 (qNW [.b (gB r1 0)])) (let r1:=yP [.i c0,.r a1,.r a2,.b d3,.i c4,.i c5];qNU r1 (let r2:=q1f [.i c0,.r a1,.r a2,.b d3,.i c4,.i c5];qNU r2 (let r3:=zA [];qNU r3 (.br (gB r3 0) (.br (beq (gB r1 0) (gB r2 0)) (qNW [.b (ieq (gI r1 1) (gI r2 1))]) (qNW [.b false])) (qNW [.b false]))))))):=by kernel_rfl
theorem quH:q2O [.i c0,.r a1,.r a2]=(let r0:=zO [.i c0,.r a1,.r a2];qNU r0 (.br (gB r0 0) (let r1:=zB [.i c0,.r a1,.r a2];qNU r1 (qNW [.b (ieq (gI r1 0) 0)])) (qNW [.b false]))):=by kernel_rfl
theorem qyK:q75 [.i c0,.i c1,.i c2]=(.br (ile c0 c2) (qNW [.b (ile c2 c1)]) (qNW [.b false])):=by kernel_rfl
theorem qnd:kU [.i c0,.r a1,.r a2,.b d3,.i c4,.i c5]=(let p0:List PV:=[.i c0,.r a1,.r a2];let t0:TR:=(qNU (zA []) (qNW [.b (gB (zA []) 0)]));let p1:List PV:=[.i c4,.i c5];let t1:=zT [.i c0,.r a1,.r a2,.b true];let t2:=zT [.i c0,.r a1,.r a2,.b false];let t3:=ym p0;let t4:=yP ((.i c0)::(.r a1)::(.r a2)::(.b d3)::p1);let t5:=q75 [.i c4,.i c5,.i (gI t3 0)];let t6:=q75 [.i c4,.i c5,.i (gI t3 1)];let t7:TR:=(qNW [.b false]);(qNU (q2O p0) (.br (not (gB (q2O p0) 0)) t0 (qNU (q0q p1) (.br (ine (gI (q0q p1) 0) 0) t0 (qNU t1 (qNU t2 (qNU t3 (qNU t4 (.br (ieq (qm .i64 (qm .i64 (qm .i64 (gI t1 1) (gI t2 1)) (gI t3 2)) (gI t4 1)) 0) (.br (ieq (gI t1 0) (gI t3 0)) (.br (ieq (gI t2 0) (gI t3 1)) (qNU t5 (.br (gB t5 0) (qNU t6 (.br (beq (gB t4 0) (gB t6 0)) t0 t7)) (.br (beq (gB t4 0) false) t0 t7))) t7) t7) t7)))))))))):=by kernel_rfl
end Go.Eng

namespace Go.Eng
variable {n:Nat}
theorem qMj {α:Type}(b:Bool)(t e:Tree α):(Tree.br b t e).run=if b=true then t.run else e.run:=by cases b<;>rfl
theorem qIp {α:Type}(a:α):(Tree.leaf a).run=some a:=rfl
theorem qIw {α:Type}:(Tree.fail:Tree α).run=none:=rfl
theorem qK {x y:Int}(h:-9223372036854775808<=x+y/\x+y<=9223372036854775807):qm .i64 x y=x+y:=by unfold qm IntKind.wrap;simp[IntKind.signed,IntKind.bits];omega
theorem zc {x y:Int}(h:-9223372036854775808<=x-y/\x-y<=9223372036854775807):zY .i64 x y=x-y:=by unfold zY IntKind.wrap;simp[IntKind.signed,IntKind.bits];omega
theorem q0G {x y:Int}(h:-9223372036854775808<=x*y/\x*y<=9223372036854775807):wL .i64 x y=x*y:=by unfold wL IntKind.wrap;simp[IntKind.signed,IntKind.bits];omega
theorem qGw (x y:Int):(ieq x y=true)=(x=y):=by simp[ieq]
theorem qKo (x y:Int):(ine x y=true)=(x≠y):=by simp[ine]
theorem qKc (x y:Int):(ilt x y=true)=(x<y):=by simp[ilt]
theorem qF6 (x y:Int):(ile x y=true)=(x<=y):=by simp[ile]
theorem qKy (x y:Bool):(Go.Eng.beq x y=true)=(x=y):=by simp[Go.Eng.beq]
theorem qN8 {a b A B:Int}(h1:-A<=a)(h2:a<=A)(h3:-B<=b)(h4:b<=B):-(A*B)<=a*b/\a*b<=A*B:=by have e1:=qPH (show 0<=A-a by omega) (show 0<=B-b by omega);have e2:=qPH (show 0<=A+a by omega) (show 0<=B+b by omega);have e3:=qPH (show 0<=A-a by omega) (show 0<=B+b by omega);have e4:=qPH (show 0<=A+a by omega) (show 0<=B-b by omega);simp only[Int.sub_mul,Int.mul_sub,Int.add_mul,Int.mul_add] at e1 e2 e3 e4;omega
theorem qBe {x:Int}(h:-9223372036854775807<=x/\x<=9223372036854775807):zY .i64 0 x=-x:=by rw[zc (by omega)];omega
theorem qx8 {x:Int}(h:-9223372036854775808<=x/\x<=9223372036854775807):q2I .i64 x=x:=by unfold q2I IntKind.wrap;simp[IntKind.signed,IntKind.bits];omega
theorem qIT (b:Bool):((!b)=true)=¬(b=true):=by cases b<;>simp
theorem qIQ (x y:Bool):(qDL x y=true)=(x=true/\y=true):=by simp[qDL]
theorem qM0 (i n:Int):(inb i n=true)=(0<=i/\i<n):=by simp[inb]
theorem qL0 (i n:Int):(q6E i n=true)=(0<=i/\i<=n):=by simp[q6E]
theorem STD:(∀(α:Type) (b:Bool) (t e:Tree α),(Tree.br b t e).run=if b=true then t.run else e.run)/\(∀(α:Type) (a:α),(Tree.leaf a).run=some a)/\(∀(α:Type),(Tree.fail:Tree α).run=none) /\(∀R:TR,okR R=R.run.isSome)/\(∀(α:Type) (a:α),(some a).isSome=true)/\(∀(R:TR) (i:Nat),gI R i=(pR R i).toI)/\(∀(R:TR) (i:Nat),gB R i=(pR R i).toB)/\(∀(R:TR) (i:Nat),gS R i=(pR R i).toS)/\(∀(R:TR) (i:Nat),gR R i=(pR R i).toR) /\(∀(R:TR) (i:Nat),pR R i=R.run.elim (.i 0) fun r=>r.2.getD i (.i 0))/\(∀(α β:Type) (b:β) (f:α->β) (a:α),(some a).elim b f=f a) /\(∀(a:PV) (l:List PV) (d:PV),(a::l).getD 0 d=a)/\(∀(a:PV) (l:List PV) (d:PV) (n:Nat),(a::l).getD (n+1) d=l.getD n d) /\(∀n,(PV.i n).toI=n)/\(∀b,(PV.b b).toB=b)/\(∀s,(PV.s s).toS=s)/\(∀l,(PV.r l).toR=l) /\(∀(α:Type) (h:Decidable True) (a b:α),@ite α True h a b=a)/\(∀(α:Type) (h:Decidable False) (a b:α),@ite α False h a b=b)/\((false=true)=False)/\((true=false)=False)/\((true=true)=True) /\(∀x y,(ieq x y=true)=(x=y))/\(∀x y,(ine x y=true)=(x≠y))/\(∀x y,(ilt x y=true)=(x<y))/\(∀x y,(ile x y=true)=(x<=y))/\(∀x y,(Go.Eng.beq x y=true)=(x=y)) /\(∀x y,(qDL x y=true)=(x=true/\y=true))/\(∀b:Bool,((!b)=true)=¬(b=true))/\(∀i n,(inb i n=true)=(0<=i/\i<n))/\(∀i n,(q6E i n=true)=(0<=i/\i<=n)) /\(∀(p:Prop) (_:Decidable p),(decide p=true)=p)/\(∀(α:Type) (a b:α),(a≠b)=¬(a=b))/\(¬True)=False/\(¬False)=True:=
 ⟨fun _=>qMj,fun _=>qIp,fun _=>qIw,fun _=>rfl,fun _ _=>rfl,fun _ _=>rfl,fun _ _=>rfl,fun _ _=>rfl,fun _ _=>rfl,fun R i=>by unfold pR;cases R.run<;>rfl,fun _ _ _ _ _=>rfl,
  fun _ _ _=>rfl,fun _ _ _ _=>rfl,fun _=>rfl,fun _=>rfl,fun _=>rfl,fun _=>rfl,fun _ _ _ _=>by simp,fun _ _ _ _=>by simp,by simp,by simp,by simp,qGw,qKo,qKc,qF6,qKy,
  qIQ,qIT,qM0,qL0,fun _ _=>by simp,fun _ _ _=>rfl,by simp,by simp⟩
theorem zh {R:TR}{j:Nat}{ps:List PV}(h:R.run=some (j,ps))(i:Nat):(jIs R i=true)=(j=i):=by simp[jIs,jR,h]
theorem run_bind {α β:Type}(t:Tree α)(f:α->Tree β):(t.bind f).run=t.run.bind fun a=>(f a).run:=by
 induction t with
 | leaf a=>rfl
 | br b t e iht ihe=>cases b<;>simp[Tree.bind,Tree.run,iht,ihe]
 | fail=>rfl
theorem qwS {S:List PV->TR}{ps qs:List PV}(h:(S ps).run=some (0,qs)):(qmr S (n+1) ps).run=(qmr S n qs).run:=by simp[qmr,run_bind,h]
theorem qnh {S:List PV->TR}{n j:Nat}{ps qs:List PV}(h:(S ps).run=some (j+1,qs)):(qmr S (n+1) ps).run=some (j,qs):=by simp[qmr,run_bind,h,Tree.run]
def q6H{α:Type}(f:Nat->Option α):Nat->Nat->Option α
 | _,0=>none
 | i,k+1=>match f i with
  | some a=>some a
  | none=>q6H f (i+1) k
theorem qwo{S:List PV->TR}(st:Nat->List PV)(f:Nat->Option (Nat×List PV))(fin:Nat×List PV)(n:Nat)
  (h1:∀i,i<n->f i=none->(S (st i)).run=some (0,st (i+1))) (h2:∀i r,i<n->f i=some r->(S (st i)).run=some (r.1+1,r.2))
  (h3:(S (st n)).run=some (fin.1+1,fin.2)):∀(k i m:Nat),i+k=n->k<m->(qmr S m (st i)).run=some ((q6H f i k).getD fin)
 | 0,i,m,hi,hm=>by
  obtain⟨m,rfl⟩:∃m',m=m'+1:=⟨m-1,by omega⟩;have:i=n:=by omega
  subst this;rw[qnh h3];rfl
 | k+1,i,m,hi,hm=>by
  obtain⟨m,rfl⟩:∃m',m=m'+1:=⟨m-1,by omega⟩;cases hf:f i with
  | none=>
   rw[qwS (h1 i (by omega) hf),qwo st f fin n h1 h2 h3 k (i+1) m (by omega) (by omega)];simp[q6H,hf]
  | some r=>
   rw[qnh (h2 i r (by omega) hf)];simp[q6H,hf]
theorem q0g {S:List PV->TR}(st:Nat->List PV)(f:Nat->Option (Nat×List PV))(fin:Nat×List PV)(n:Nat)(hn:n<9223372036854775808)(h1:∀i,i<n->f i=none->(S (st i)).run=some (0,st (i+1))) (h2:∀i r,i<n->f i=some r->(S (st i)).run=some (r.1+1,r.2))(h3:(S (st n)).run=some (fin.1+1,fin.2)):(qf S (st 0)).run=some ((q6H f 0 n).getD fin):=qwo st f fin n h1 h2 h3 n 0 qpA (by omega) (Nat.lt_trans hn (by unfold qpA;decide))
theorem qq {S:List PV->TR}(st:Nat->List PV)(fin:Nat×List PV)(n:Nat)(hn:n<9223372036854775808)(h1:∀i,i<n->(S (st i)).run=some (0,st (i+1))) (h3:(S (st n)).run=some (fin.1+1,fin.2)):(qf S (st 0)).run=some fin:=by
 have h:=q0g st (fun _=>none) fin n hn (fun i hi _=>h1 i hi) (fun i r _ h=>by cases h) h3;have e:∀k i,q6H (fun _=>(none:Option (Nat×List PV))) i k=none:=by
  intro k;induction k with
  | zero=>intro i;rfl
  | succ k ih=>intro i;simp[q6H,ih]
 rw[e] at h;exact h
theorem qeA{α:Type}{f:Nat->Option α}:∀{k i:Nat},q6H f i k=none->∀j,i<=j->j<i+k->f j=none
 | 0,i,_,j,h1,h2=>by omega
 | k+1,i,h,j,h1,h2=>by
  simp only[q6H] at h;cases hf:f i with
  | some a=>rw[hf] at h;cases h
  | none=>
   rw[hf] at h;rcases qPx h1 with rfl|h1
   ·exact hf
   ·exact qeA h j h1 (by omega)
theorem qp3{α:Type}{f g:Nat->Option α}:∀{k i:Nat},(∀j,i<=j->j<i+k->f j=g j)->q6H f i k=q6H g i k
 | 0,i,_=>rfl
 | k+1,i,h=>by
  simp only[q6H];rw[h i (by omega) (by omega),qp3 (fun j h1 h2=>h j (by omega) (by omega))]
theorem qDC{α β:Type}(g:α->β){f:Nat->Option α}:∀{k i:Nat},q6H (fun j=>(f j).map g) i k=(q6H f i k).map g
 | 0,i=>rfl
 | k+1,i=>by
  simp only[q6H];cases f i with
  | some a=>rfl
  | none=>exact qDC g
theorem vX {i n:Nat}(h:i<n)(hn:n<9223372036854775808):qm .i64 (i:Int) 1=((i+1:Nat):Int):=by rw[qK (by omega)];omega
theorem qzQ {α:Type}(n:Nat):∀i,q6H (fun _=>(none:Option α)) i n=none:=by
 induction n with
 | zero=>intro i;rfl
 | succ n ih=>intro i;simp[q6H,ih]
def pick(p:Nat->Bool):Nat->R
 | 0=>[]
 | n+1=>if p n then zD (pick p n) [[.i (n:Int)]] else pick p n
def q9B(f:Nat->Int)(i:Nat):Option Int:=if f i=0 then none else some (f i)
theorem qFa {f:Nat->Int}(h:q6H (q9B f) 0 n=none)(i:Nat)(hi:i<n):f i=0:=by
 have:=qeA h i (by omega) (by omega);unfold q9B at this;split at this
 ·assumption
 ·cases this
theorem qwI{f:Nat->Int}:∀{k i:Nat} {e:Int},q6H (q9B f) i k=some e->e≠0
 | 0,i,e,h=>by cases h
 | k+1,i,e,h=>by
  simp only[q6H] at h;unfold q9B at h;by_cases h0:f i=0
  ·rw[if_pos h0] at h;exact qwI h
  ·rw[if_neg h0] at h;simp at h;omega
def q0m(e:Nat->Int)(n:Nat):Int:=(q6H (q9B e) 0 n).getD 0
theorem qaI {e:Nat->Int}(h:q0m e n=0)(i:Nat)(hi:i<n):e i=0:=by
 unfold q0m at h;cases hs:q6H (q9B e) 0 n with
 | none=>exact qFa hs i hi
 | some x=>rw[hs] at h;exact absurd h (qwI hs)
theorem qAi {e:Nat->Int}(h:∀i,i<n->e i=0):q0m e n=0:=by unfold q0m;rw[qp3 (g:=fun _=>none) (fun j _ hj=>by unfold q9B;rw[if_pos (h j (by omega))]),qzQ];rfl
theorem qjC {S:List PV->TR}(st:Nat->List PV)(e:Nat->Int)(caps fin:List PV)(n:Nat)(hn:n<9223372036854775808)(h:∀i,i<n->(S (st i)).run=if e i=0 then some (0,st (i+1)) else some (2,.i (e i)::caps)) (h3:(S (st n)).run=some (1,fin)) :(qf S (st 0)).run=some (if q0m e n=0 then (0,fin) else (1,.i (q0m e n)::caps)):=by
 have key:=q0g st (fun i=>(q9B e i).map fun x=>(1,PV.i x::caps)) (0,fin) n hn (fun i hi hf=>by
  rw[h i hi];unfold q9B at hf;split at hf
  ·rename_i h0;rw[if_pos h0]
  ·simp at hf) (fun i r hi hf=>by
  rw[h i hi];unfold q9B at hf;split at hf
  ·simp at hf
  ·rename_i h0;simp at hf;rw[if_neg h0,<-hf]) h3
 rw[key,qDC];unfold q0m;cases hs:q6H (q9B e) 0 n with
 | none=>simp
 | some x=>simp[qwI hs]
theorem qvG {l:R}{i:Nat}(h:i<l.length):(i:Int)<qg l:=by unfold qg;omega
theorem qph (l:R):¬((l.length:Int)<qg l):=by unfold qg;omega
theorem qaW (i:Nat):(0:Int)<=(i:Int):=by omega
end Go.Eng

