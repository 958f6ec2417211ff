/- Texts of the proof, merged: what the code computes, and plain laws. No statement stands here. -/
import Derived.Test.YtiohngnhjabaiaaGreatDoorY6
namespace Go.Eng
variable {L:List Nat}{l:R}
noncomputable def tO(l:R)(L:List Nat):Nat->Rat:=Classical.epsilon fun t=>qwo (pV l) l.length (L.length-1) (Lf l L) t
noncomputable def cO(l:R)(L:List Nat):V3:=cen (L.length-1+1) (wts (tO l L) (L.length-1)) fun j=>pV l (Lf l L j)
noncomputable def sO(l:R)(L:List Nat):Rat:=d2 (cO l L) (pV l (Lf l L 0))
noncomputable def wO(l:R)(L:List Nat):R:=txR ((List.range (L.length-1+1)).map fun j=>tQ (wts (tO l L) (L.length-1) j))
theorem qvs (h:kT l L=true):qwo (pV l) l.length (L.length-1) (Lf l L) (tO l L):=Classical.epsilon_spec (qeQ.1 h)
theorem qlS (hs:kU l){n:Nat}(hL:L.length=n+1)(hn:n<=3)(hlt:∀k,k∈L->k<l.length)(h:kT l L=true) :CB (cO l L)/\(zl [.r l,.r (rN L)]).run=some (0,[.s (tQ (cO l L).x),.s (tQ (cO l L).y),.s (tQ (cO l L).z),.s (tQ (sO l L)),.r (wO l L),.b true,.i 0]):=by
 have eL:L.length-1=n:=by omega
 have sp:=qvs h;unfold sO wO;unfold cO;rw[eL] at sp ⊢;rcases qs6 hs hL hn hlt with⟨t,h1,h2,h3,h4⟩|⟨h1,_⟩
 ·have e:=qfG h1.1 sp.1;have ec:=qbr (c:=fun j=>pV l (Lf l L j)) e;have el:((List.range (n+1)).map fun j=>tQ (wts t n j))=(List.range (n+1)).map fun j=>tQ (wts (tO l L) n j):=qMi fun j hj=>by rw[e j (qM7.1 hj)]
  rw[ec,el] at h4;rw[ec] at h3;exact⟨h3,h4⟩
 ·exact absurd sp (h1 _)
theorem qw5 (hs:kU l){n:Nat}(hL:L.length=n+1)(hn:n<=3)(hlt:∀k,k∈L->k<l.length)(h:kT l L=false) :∃s1 s2 s3 s4 wl,(zl [.r l,.r (rN L)]).run=some (0,[.s s1,.s s2,.s s3,.s s4,.r wl,.b false,.i 0]):=by
 have eL:L.length-1=n:=by omega
 have hh:=qlj.1 h;rw[eL] at hh;rcases qs6 hs hL hn hlt with⟨t,h1,_⟩|⟨_,h4⟩
 ·exact absurd h1 (hh t)
 ·exact h4
noncomputable def lO(l:R)(n m:Int)(L:List Nat):Nat×List PV:=(1,[.r l,.s (tQ (cO l L).x),.s (tQ (cO l L).y),.s (tQ (cO l L).z),.s (tQ (sO l L)),.r (wO l L),.i 0,.i n,.i m,.r (rN L)])
theorem qKM (hs:kU l)(hL:L.length<=3)(hlt:∀k,k∈L->k<l.length)(y2 y3 y4 y5 y13:Int)(y14:R)(acc:List (List Nat))(ha:acc.length<=1000000000) :(qf qO [.r (rN L),.i (nxL L:Int),.i y2,.i y3,.i y4,.i y5,.r l,.s [],.s [],.s [],.s [],.i 0,.i (l.length:Int),.i y13,.r y14,.r (lsR acc)]).run = some ((((exL l.length L).find? (kT l)).map (lO l l.length y13)).getD (0,[.i y2,.i y3,.i y4,.i y5,.r l,.s [],.s [],.s [],.s [],.i 0,.i (l.length:Int),.i y13,.r y14,.r (lsR (acc++exL l.length L))])):=by
 have hn:=hs.1;have key:=q2v (S:=qO) (fun j=>[.r (rN L),.i ((nxL L+j:Nat):Int),.i y2,.i y3,.i y4,.i y5,.r l,.s [],.s [],.s [],.s [],.i 0,.i (l.length:Int),.i y13,.r y14,.r (lsR (acc++exT L j))])
  (fun j=>if kT l (L++[nxL L+j])=true then some (lO l l.length y13 (L++[nxL L+j])) else none)
  (0,[.i y2,.i y3,.i y4,.i y5,.r l,.s [],.s [],.s [],.s [],.i 0,.i (l.length:Int),.i y13,.r y14,.r (lsR (acc++exL l.length L))]) (l.length-nxL L) (by omega) (fun j hj hf=>by
  have e:kT l (L++[nxL L+j])=false:=by
   cases h:kT l (L++[nxL L+j]) with
   | true=>rw[if_pos h] at hf;cases hf
   | false=>rfl
  have lj:(L++[nxL L+j]).length=L.length+1:=by rw[qLv];rfl
  have ltj:∀k,k∈L++[nxL L+j]->k<l.length:=fun k hk=>by
   rcases qLz.1 hk with q|q
   ·exact hlt k q
   ·rw[qLE.1 q];omega
  obtain⟨s1,s2,s3,s4,wl,r1⟩:=qw5 hs lj hL ltj e;have w:qw .i64 ((nxL L+j:Nat):Int) 1=((nxL L+j+1:Nat):Int):=yu (show nxL L+j<64 by omega) (by omega);have e2:∀x:U,qg [[x]]=1:=fun _=>rfl;have e3:(acc++exT L j).length=acc.length+j:=by rw[qLv,qDj]
  have cl:(wA [.r (rN L)]).run=some (0,[.r (rN L)]):=by rw[q6C];simp only[STD,qgs,show (L.length:Int)<=17592186044416 by omega]
  rw[q0H];simp only[STD,cl,e2,qH3,qgs,qhY,qD7,e3,w,r1,show ((nxL L+j:Nat):Int)<l.length by omega,show (L.length:Int)+1<=17592186044416 by omega,
   show ((acc.length+j:Nat):Int)+1<=5864062014805 by omega,qG3,qLH,qMK]) (fun j r hj hf=>by
  have e:kT l (L++[nxL L+j])=true:=by
   cases h:kT l (L++[nxL L+j]) with
   | false=>rw[if_neg (by rw[h];decide)] at hf;cases hf
   | true=>rfl
  rw[if_pos e] at hf;cases hf;have lj:(L++[nxL L+j]).length=L.length+1:=by rw[qLv];rfl
  have ltj:∀k,k∈L++[nxL L+j]->k<l.length:=fun k hk=>by
   rcases qLz.1 hk with q|q
   ·exact hlt k q
   ·rw[qLE.1 q];omega
  obtain⟨_,r1⟩:=qlS hs lj hL ltj e;have e2:∀x:U,qg [[x]]=1:=fun _=>rfl;have e3:(acc++exT L j).length=acc.length+j:=by rw[qLv,qDj]
  have cl:(wA [.r (rN L)]).run=some (0,[.r (rN L)]):=by rw[q6C];simp only[STD,qgs,show (L.length:Int)<=17592186044416 by omega]
  rw[q0H];unfold lO;simp only[STD,cl,e2,qH3,qgs,qhY,qD7,e3,r1,show ((nxL L+j:Nat):Int)<l.length by omega,show (L.length:Int)+1<=17592186044416 by omega,
   show ((acc.length+j:Nat):Int)+1<=5864062014805 by omega]) (by
  rw[q0H];simp only[STD,show ¬((nxL L+(l.length-nxL L):Nat):Int)<l.length by omega,qHN])
 have e:=qEZ (P:=kT l) (lO l l.length y13) L (l.length-nxL L) 0;rw[e] at key;have key':(qf qO [.r (rN L),.i ((nxL L+0:Nat):Int),.i y2,.i y3,.i y4,.i y5,.r l,.s [],.s [],.s [],.s [],.i 0,.i (l.length:Int),.i y13,.r y14,.r (lsR (acc++exT L 0))]).run=_:=key;rw[qGD,qMg,qM3] at key';exact key'
theorem qKV (hs:kU l){ls:List (List Nat)}{q:Nat}(hq:q<=3)(hls:ls.length<=10000000)(hm:∀L,L∈ls->L.length=q/\∀a,a∈L->a<l.length)(y0 y1 y11:Int) :(qf va [.i y0,.i y1,.i (ls.length:Int),.i 0,.r l,.s [],.s [],.s [],.s [],.i 0,.i (l.length:Int),.i y11,.r (lsR ls),.r []]).run = some ((((ls.flatMap (exL l.length)).find? (kT l)).map (lO l l.length y11)).getD (0,[.i y0,.i y1,.r l,.s [],.s [],.s [],.s [],.i 0,.i (l.length:Int),.i y11,.r (lsR (ls.flatMap (exL l.length)))])):=by
 have hn:=hs.1;have step:∀j,j<ls.length->∃L,ls[j]?=some L/\ls.getD j []=L/\(qf qO [.r (rN L),.i (nxL L:Int),.i y0,.i y1,.i (ls.length:Int),.i (j:Int),.r l,.s [],.s [],.s [],.s [],.i 0,.i (l.length:Int),.i y11,.r (lsR ls),.r (lsR ((ls.take j).flatMap (exL l.length)))]).run =
   some ((((exL l.length L).find? (kT l)).map (lO l l.length y11)).getD (0,[.i y0,.i y1,.i (ls.length:Int),.i (j:Int),.r l,.s [],.s [],.s [],.s [],.i 0,.i (l.length:Int),.i y11,.r (lsR ls),.r (lsR ((ls.take (j+1)).flatMap (exL l.length)))])) /\
   L.length<=3/\nxL L<=64:=fun j hj=>by
  have hl:=qE3 hj;obtain⟨h1,h2⟩:=hm _ (qMf hl);have fl:((ls.take j).flatMap (exL l.length)).length<=1000000000:=by have:=qvL (exL l.length) l.length (qDz l.length) (ls.take j);rw[qM2,qMe (by omega)] at this;have:j*l.length<=10000000*64:=qM6 (by omega) hn;omega
  have r0:=qKM hs (L:=ls.getD j []) (by omega) h2 y0 y1 (ls.length:Int) (j:Int) y11 (lsR ls) _ fl;rw[<-qDT (exL l.length) hl] at r0;exact⟨_,hl,rfl,r0,by omega,qLd (qHe h2) hn⟩
 have key:=q2v (S:=va) (fun j=>[.i y0,.i y1,.i (ls.length:Int),.i (j:Int),.r l,.s [],.s [],.s [],.s [],.i 0,.i (l.length:Int),.i y11,.r (lsR ls),.r (lsR ((ls.take j).flatMap (exL l.length)))])
  (fun j=>((exL l.length (ls.getD j [])).find? (kT l)).map (lO l l.length y11))
  (0,[.i y0,.i y1,.r l,.s [],.s [],.s [],.s [],.i 0,.i (l.length:Int),.i y11,.r (lsR (ls.flatMap (exL l.length)))]) ls.length (by omega) (fun j hj hf=>by
  obtain⟨L,hl,hg,r0,h3,h4⟩:=step j hj;rw[hg] at hf;rw[hf] at r0;simp only[Option.getD_none] at r0;have w:qw .i64 (j:Int) 1=((j+1:Nat):Int):=yu hj (by omega);rw[q1P];by_cases h0:0<L.length
  ·have w1:jq .i64 (L.length:Int) 1=(L.length:Int)-1:=vO ⟨by omega,by omega⟩;have e:=qFi h0 (by omega) h4;rw[w1] at e;simp only[STD,qhY,quG hl,qgs,w1,e,r0,qV r0,w,show (j:Int)<ls.length by omega,show (0:Int)<=j by omega,show (0:Int)<L.length by omega,show (0:Int)<=(L.length:Int)-1 by omega,show (L.length:Int)-1<L.length by omega,and_self]
  ·have e:L=[]:=qMI (by omega);subst e;have r1:(qf qO [.r (rN []),.i 0,.i y0,.i y1,.i (ls.length:Int),.i (j:Int),.r l,.s [],.s [],.s [],.s [],.i 0,.i (l.length:Int),.i y11,.r (lsR ls),.r (lsR ((ls.take j).flatMap (exL l.length)))]).run=_:=r0;simp only[STD,qhY,quG hl,qgs,r1,qV r1,w,show (j:Int)<ls.length by omega,show (0:Int)<=j by omega,show ¬(0:Int)<(([]:List Nat).length:Int) from by decide,and_self]) (fun j r hj hf=>by
  obtain⟨L,hl,hg,r0,h3,h4⟩:=step j hj;rw[hg] at hf;rw[hf] at r0;simp only[qMq] at r0;obtain⟨L2,hL2,e2⟩:=qMR.1 hf;subst e2;unfold lO at r0 ⊢;rw[q1P];by_cases h0:0<L.length
  ·have w1:jq .i64 (L.length:Int) 1=(L.length:Int)-1:=vO ⟨by omega,by omega⟩;have e:=qFi h0 (by omega) h4;rw[w1] at e;simp only[STD,qhY,quG hl,qgs,w1,e,r0,qV r0,show (j:Int)<ls.length by omega,show (0:Int)<=j by omega,show (0:Int)<L.length by omega,show (0:Int)<=(L.length:Int)-1 by omega,show (L.length:Int)-1<L.length by omega,and_self];rw[if_neg (by decide)]
  ·have e:L=[]:=qMI (by omega);subst e;have r1:(qf qO [.r (rN []),.i 0,.i y0,.i y1,.i (ls.length:Int),.i (j:Int),.r l,.s [],.s [],.s [],.s [],.i 0,.i (l.length:Int),.i y11,.r (lsR ls),.r (lsR ((ls.take j).flatMap (exL l.length)))]).run=_:=r0;simp only[STD,qhY,quG hl,qgs,r1,qV r1,show (j:Int)<ls.length by omega,show (0:Int)<=j by omega,show ¬(0:Int)<(([]:List Nat).length:Int) from by decide,and_self];rw[if_neg (by decide)]) (by
  rw[q1P];simp only[STD,show ¬(ls.length:Int)<ls.length by omega,qMl])
 have e:=qxL (P:=kT l) (lO l l.length y11) (exL l.length) ls [];simp only[qMC,qLO] at e;rw[e] at key;exact key
theorem qEB (hs:kU l){m:Nat}(hm:m<=4)(h:qhI (kT l) l.length 1 m=some L) :(vt [.r l,.i (m:Int)]).run=some (0,[.s (tQ (cO l L).x),.s (tQ (cO l L).y),.s (tQ (cO l L).z),.s (tQ (sO l L)),.r (wO l L),.r (rN L),.i 0]):=by
 have hn:=hs.1;have hms:∀q,∀L,L∈lsN l.length q->L.length=q/\∀a,a∈L->a<l.length:=fun q L hL=>by obtain⟨h1,h2,_⟩:=qhL.1 hL;exact⟨h1,h2⟩
 have key:=q2v (S:=wZ) (fun q=>[.i (m:Int),.i (q:Int),.r l,.s [],.s [],.s [],.s [],.i 0,.i (l.length:Int),.i (m:Int),.r (lsR (lsN l.length q))])
  (fun q=>((lsN l.length (q+1)).find? (kT l)).map (lO l l.length m))
  (0,[.r l,.s [],.s [],.s [],.s [],.i 0,.i (l.length:Int),.i (m:Int)]) m (by omega) (fun q hq hf=>by
  have r0:=qKV hs (q:=q) (by omega) (qD2 (k:=q) hn (by omega)) (hms q) (m:Int) (q:Int) (m:Int);have hf':((((lsN l.length q).flatMap (exL l.length)).find? (kT l)).map (lO l l.length m))=none:=hf;rw[hf'] at r0;simp only[Option.getD_none] at r0;have w:qw .i64 (q:Int) 1=((q+1:Nat):Int):=yu hq (by omega);rw[q1A];simp only[STD,qhY,r0,qV r0,w,show (q:Int)<m by omega];rfl) (fun q r hq hf=>by
  have r0:=qKV hs (q:=q) (by omega) (qD2 (k:=q) hn (by omega)) (hms q) (m:Int) (q:Int) (m:Int);have hf':((((lsN l.length q).flatMap (exL l.length)).find? (kT l)).map (lO l l.length m))=some r:=hf;rw[hf'] at r0;simp only[qMq] at r0;obtain⟨L2,hL2,e2⟩:=qMR.1 hf';subst e2;unfold lO at r0 ⊢;rw[q1A];simp only[STD,qhY,r0,qV r0,show (q:Int)<m by omega];rw[if_neg (by decide)]) (by
  rw[q1A];simp only[STD,show ¬(m:Int)<m by omega])
 rw[quu (P:=kT l) (lO l l.length m) l.length m 0,h] at key;have key':(qf wZ [.i (m:Int),.i 0,.r l,.s [],.s [],.s [],.s [],.i 0,.i (l.length:Int),.i (m:Int),.r [[.l []]]]).run=some (lO l l.length m L):=key;unfold lO at key';have lx:qg l=(l.length:Int):=rfl;rw[qpM];simp only[STD,lx,key',qV key'];rw[if_neg (by decide)]
end Go.Eng

namespace Go.Eng
variable {l:R}
noncomputable def ptE(x y:Int):Int:=if -100000<=x/\x<=100000/\-100000<=y/\y<=100000 then 0 else 2
noncomputable def ptA(l:R)(i:Nat):Int:=ptE (cI l i 0) (cI l i 1)
noncomputable def qCm(l:R):Int:=if 64<qg l then 5 else kn (ptA l) l.length
theorem qwA (x y:Int):ptE x y=0\/ptE x y=2:=by unfold ptE;split<;>simp
theorem qG2 {x y:Int}(h:ptE x y=0):-100000<=x/\x<=100000/\-100000<=y/\y<=100000:=by
 unfold ptE at h;split at h
 ·assumption
 ·omega
theorem qi2 (x:Int):(z6 [.i x]).run=some (0,[.b (decide (-100000<=x/\x<=100000))]):=by rw[qpp];simp only[STD];by_cases h:-100000<=x<;>simp[h,ile]
theorem quf (x:Int):(jh [.i x]).run=some (0,[.b (decide (-100000<=x/\x<=100000))]):=by rw[qyZ];simp only[STD];by_cases h:-100000<=x<;>simp[h,ile]
theorem qvz (x y:Int):(kv [.i x,.i y]).run=some (0,[.b (decide (ptE x y=0))]):=by rw[qst];simp only[STD,qi2];unfold ptE;by_cases h:-100000<=x<;>by_cases h2:x<=100000<;>by_cases h3:-100000<=y<;>by_cases h4:y<=100000<;>simp[h,h2,h3,h4]
theorem qv9 (x y:Int):(q3b [.i x,.i y]).run=some (0,[.b (decide (ptE x y=0))]):=by rw[qsE];simp only[STD,quf];unfold ptE;by_cases h:-100000<=x<;>by_cases h2:x<=100000<;>by_cases h3:-100000<=y<;>by_cases h4:y<=100000<;>simp[h,h2,h3,h4]
theorem qxc (l:R)(hl:l.length<9223372036854775808):(jb [.r l]).run=some (0,[.i (kn (ptA l) l.length)]):=by
 rw[qg7];have k:=qji (S:=zo) (fun i=>[.r l,.i (qg l),.i (i:Int)]) (ptA l) [] [] l.length hl (fun i hi=>by
  rw[q3T];simp only[STD,qy0 hi,qcn,qvz,and_self,yu hi hl];show (if ¬ptA l i=0 then _ else _)=_;have:=qwA (cI l i 0) (cI l i 1);by_cases he:ptA l i=0
  ·simp[he]
  ·have:ptA l i=2:=by unfold ptA at *;omega
   simp[this]) (by
  rw[q3T];simp only[STD,qqi])
 by_cases hf:kn (ptA l) l.length=0
 ·rw[if_pos hf] at k;have k':(qf zo [.r l,.i (qg l),.i 0]).run=_:=k;simp only[STD,k',qV k',hf]
 ·rw[if_neg hf] at k;have k':(qf zo [.r l,.i (qg l),.i 0]).run=_:=k;simp only[STD,k',qV k',show ¬((1:Nat)=0) by decide]
theorem qkk (l:R):(q3L [.r l]).run=some (0,[.i (qCm l)]):=by
 rw[qqH];have e:(wi [.r l]).run=some (0,[.i (qCm l)]):=by
  rw[qbT];unfold qCm;by_cases h:64<qg l
  ·simp only[STD,h]
  ·simp only[STD,h,qxc l (by unfold qg at h;omega)]
 simp only[STD,e]
theorem qny (l:R):(q6z [.r l]).run=some (0,[.i (qCm l)]):=by
 rw[qta];unfold qCm;by_cases h:64<qg l
 ·simp only[STD,h]
 ·have hl:l.length<9223372036854775808:=by unfold qg at h;omega
  have k:=qji (S:=ub) (fun i=>[.r l,.i (i:Int)]) (ptA l) [] [] l.length hl (fun i hi=>by
   rw[qgu];simp only[STD,qy0 hi,qcn,qv9,and_self,yu hi hl];show (if ¬ptA l i=0 then _ else _)=_;have:=qwA (cI l i 0) (cI l i 1);by_cases he:ptA l i=0
   ·simp[he]
   ·have:ptA l i=2:=by unfold ptA at *;omega
    simp[this]) (by
   rw[qgu];simp only[STD,qqi])
  by_cases hf:kn (ptA l) l.length=0
  ·rw[if_pos hf] at k;have k':(qf ub [.r l,.i 0]).run=_:=k;simp only[STD,k',qV k',hf,h]
  ·rw[if_neg hf] at k;have k':(qf ub [.r l,.i 0]).run=_:=k;simp only[STD,k',qV k',h,show ¬((1:Nat)=0) by decide]
noncomputable def spE(x y z:Int):Int:=if -100000<=x/\x<=100000/\-100000<=y/\y<=100000/\-100000<=z/\z<=100000 then 0 else 2
noncomputable def spA(l:R)(i:Nat):Int:=spE (cI l i 0) (cI l i 1) (cI l i 2)
noncomputable def qF2(l:R):Int:=if 64<qg l then 5 else kn (spA l) l.length
theorem qxI (x y z:Int):spE x y z=0\/spE x y z=2:=by unfold spE;split<;>simp
theorem qFP {x y z:Int}(h:spE x y z=0):co x/\co y/\co z:=by
 unfold spE at h;split at h
 ·unfold co;omega
 ·omega
theorem qw8 (x y z:Int):(kw [.i x,.i y,.i z]).run=some (0,[.b (decide (spE x y z=0))]):=by rw[qty];simp only[STD,qi2];unfold spE;by_cases h:-100000<=x<;>by_cases h2:x<=100000<;>by_cases h3:-100000<=y<;>by_cases h4:y<=100000<;>by_cases h5:-100000<=z<;>by_cases h6:z<=100000<;>simp[h,h2,h3,h4,h5,h6]
theorem qot (x y z:Int):(yS [.i x,.i y,.i z]).run=some (0,[.b (decide (spE x y z=0))]):=by rw[qml];simp only[STD,quf];unfold spE;by_cases h:-100000<=x<;>by_cases h2:x<=100000<;>by_cases h3:-100000<=y<;>by_cases h4:y<=100000<;>by_cases h5:-100000<=z<;>by_cases h6:z<=100000<;>simp[h,h2,h3,h4,h5,h6]
theorem qvJ (l:R)(hl:l.length<9223372036854775808):(jK [.r l]).run=some (0,[.i (kn (spA l) l.length)]):=by
 rw[qh7];have k:=qji (S:=zv) (fun i=>[.r l,.i (qg l),.i (i:Int)]) (spA l) [] [] l.length hl (fun i hi=>by
  rw[q54];simp only[STD,qy0 hi,qcn,qw8,and_self,yu hi hl];show (if ¬spA l i=0 then _ else _)=_;have:=qxI (cI l i 0) (cI l i 1) (cI l i 2);by_cases he:spA l i=0
  ·simp[he]
  ·have:spA l i=2:=by unfold spA at *;omega
   simp[this]) (by
  rw[q54];simp only[STD,qqi])
 by_cases hf:kn (spA l) l.length=0
 ·rw[if_pos hf] at k;have k':(qf zv [.r l,.i (qg l),.i 0]).run=_:=k;simp only[STD,k',qV k',hf]
 ·rw[if_neg hf] at k;have k':(qf zv [.r l,.i (qg l),.i 0]).run=_:=k;simp only[STD,k',qV k',show ¬((1:Nat)=0) by decide]
theorem qbg (l:R):(u9 [.r l]).run=some (0,[.i (qF2 l)]):=by
 rw[qjA];have e:(wI [.r l]).run=some (0,[.i (qF2 l)]):=by
  rw[qca];unfold qF2;by_cases h:64<qg l
  ·simp only[STD,h]
  ·simp only[STD,h,qvJ l (by unfold qg at h;omega)]
 simp only[STD,e]
theorem qcu (l:R):(kr [.r l]).run=some (0,[.i (qF2 l)]):=by
 rw[qlb];unfold qF2;by_cases h:64<qg l
 ·simp only[STD,h]
 ·have hl:l.length<9223372036854775808:=by unfold qg at h;omega
  have k:=qji (S:=wj) (fun i=>[.r l,.i (i:Int)]) (spA l) [] [] l.length hl (fun i hi=>by
   rw[q8s];simp only[STD,qy0 hi,qcn,qot,and_self,yu hi hl];show (if ¬spA l i=0 then _ else _)=_;have:=qxI (cI l i 0) (cI l i 1) (cI l i 2);by_cases he:spA l i=0
   ·simp[he]
   ·have:spA l i=2:=by unfold spA at *;omega
    simp[this]) (by
   rw[q8s];simp only[STD,qqi])
  by_cases hf:kn (spA l) l.length=0
  ·rw[if_pos hf] at k;have k':(qf wj [.r l,.i 0]).run=_:=k;simp only[STD,k',qV k',hf,h]
  ·rw[if_neg hf] at k;have k':(qf wj [.r l,.i 0]).run=_:=k;simp only[STD,k',qV k',h,show ¬((1:Nat)=0) by decide]
theorem qFc (h:qF2 l=0):kU l:=by
 unfold qF2 at h;split at h
 ·omega
 ·rename_i h64;unfold qg at h64;exact⟨by omega,fun i hi=>qFP (qlJ h i hi)⟩
noncomputable def qol(l:R):Int:=if qCm l=0 then (if qg l=0 then 13 else 0) else qCm l
noncomputable def qt9(l:R):Int:=if qF2 l=0 then (if qg l=0 then 13 else 0) else qF2 l
theorem qk6 (x:Int):(kG [.i x]).run=some (0,[.i (if x=0 then 13 else 0)]):=by rw[qsm];by_cases h:x=0<;>simp[STD,h]
theorem q1t (l:R):(jw [.r l]).run=some (0,[.i (qol l)]):=by
 rw[qre];unfold qol;by_cases h:qCm l=0
 ·by_cases h2:qg l=0<;>simp only[STD,qkk,qk6,h,h2]
 ·simp only[STD,qkk,h]
theorem qir (l:R):(q8J [.r l]).run=some (0,[.i (qol l)]):=by
 rw[qvi];unfold qol;by_cases h:qCm l=0
 ·by_cases h2:qg l=0<;>simp only[STD,qny,h,h2]
 ·simp only[STD,qny,h]
theorem q8i (l:R):(kK [.r l]).run=some (0,[.i (qt9 l)]):=by
 rw[qr5];unfold qt9;by_cases h:qF2 l=0
 ·by_cases h2:qg l=0<;>simp only[STD,qbg,qk6,h,h2]
 ·simp only[STD,qbg,h]
theorem qi3 (l:R):(q8G [.r l]).run=some (0,[.i (qt9 l)]):=by
 rw[qw6];unfold qt9;by_cases h:qF2 l=0
 ·by_cases h2:qg l=0<;>simp only[STD,qcu,h,h2]
 ·simp only[STD,qcu,h]
theorem quz (h:qt9 l=0):kU l/\0<l.length:=by
 unfold qt9 at h;split at h
 ·rename_i h1;split at h
  ·omega
  ·rename_i h2;unfold qg at h2;exact⟨qFc h1,by omega⟩
 ·rename_i h1;exact absurd h h1
noncomputable def raR(l:R):R:=(List.range l.length).map fun i:Nat=>[.i (cI l (i:Int) 0),.i (cI l (i:Int) 1),.i 0]
noncomputable def raN(l:R)(n:Nat):R:=(List.range n).map fun i:Nat=>[.i (cI l (i:Int) 0),.i (cI l (i:Int) 1),.i 0]
theorem qF8 (l:R)(n:Nat):qg (raN l n)=(n:Int):=by unfold raN qg;rw[qLh,qLL]
theorem qiu (l:R):(raR l).length=l.length:=by unfold raR;rw[qLh,qLL]
theorem qAQ (l:R)(n:Nat):raN l (n+1)=jo (raN l n) [[.i (cI l (n:Int) 0),.i (cI l (n:Int) 1),.i 0]]:=by unfold raN jo;rw[qMk,qLy];rfl
theorem qDc {i:Nat}(h:i<l.length):cI (raR l) (i:Int) 0=cI l (i:Int) 0/\cI (raR l) (i:Int) 1=cI l (i:Int) 1/\cI (raR l) (i:Int) 2=0:=by
 have e:(raR l).getD ((i:Int).toNat) []=[.i (cI l (i:Int) 0),.i (cI l (i:Int) 1),.i 0]:=by unfold raR;rw[qLk,qLa,qLj,qLT h];rfl
 refine⟨?_,?_,?_⟩<;>(conv=>lhs;unfold cI zI)<;>rw[e]<;>rfl
theorem qn6 (hl:l.length<=64):(wQ [.r l]).run=some (0,[.r (raR l)]):=by
 have key:=qG (S:=jL) (fun i=>[.r l,.i (l.length:Int),.i (i:Int),.r (raN l i)]) (0,[.r (raR l)]) l.length (by omega) (fun i hi=>by
  have e3:qg [[U.i (cI l (i:Int) 0),.i (cI l (i:Int) 1),.i 0]]=1:=rfl;have e4:qg l=(l.length:Int):=rfl;rw[qbu];simp only[STD,qF8,qAQ,e3,e4,yu hi (show l.length<9223372036854775808 by omega),show (i:Int)<l.length by omega,show (0:Int)<=i by omega,show (i:Int)+1<=5864062014805 by omega,and_self]) (by
  rw[qbu];simp only[STD,show ¬(l.length:Int)<l.length by omega];rfl)
 have key':(qf jL [.r l,.i (qg l),.i 0,.r []]).run=some (0,[.r (raR l)]):=key;rw[qnF];simp only[STD,key']
theorem qtk (hl:l.length<=64):(q3V [.r l]).run=some (0,[.r (raR l)]):=by
 have key:=qG (S:=uN) (fun i=>[.r l,.i (i:Int),.r (raN l i)]) (0,[.r (raR l)]) l.length (by omega) (fun i hi=>by
  have e3:qg [[U.i (cI l (i:Int) 0),.i (cI l (i:Int) 1),.i 0]]=1:=rfl;have e4:qg l=(l.length:Int):=rfl;rw[qeC];simp only[STD,qF8,qAQ,e3,e4,yu hi (show l.length<9223372036854775808 by omega),show (i:Int)<l.length by omega,show (0:Int)<=i by omega,show (i:Int)+1<=5864062014805 by omega,and_self]) (by
  have e4:qg l=(l.length:Int):=rfl;rw[qeC];simp only[STD,e4,show ¬(l.length:Int)<l.length by omega];rfl)
 have key':(qf uN [.r l,.i 0,.r []]).run=some (0,[.r (raR l)]):=key;rw[qr2];simp only[STD,key']
theorem qCU (h:qCm l=0):l.length<=64/\∀i,i<l.length->co (cI l (i:Int) 0)/\co (cI l (i:Int) 1):=by
 unfold qCm at h;split at h
 ·omega
 ·rename_i h64;unfold qg at h64;refine⟨by omega,fun i hi=>?_⟩;obtain⟨h1,h2,h3,h4⟩:=qG2 (qlJ h i hi);exact⟨⟨h1,h2⟩,⟨h3,h4⟩⟩
theorem qj2 (h:qol l=0):qCm l=0/\l.length<=64/\0<l.length/\kU (raR l)/\Mst (raR l) 3:=by
 unfold qol at h;split at h
 ·rename_i h1;split at h
  ·omega
  ·rename_i h2;unfold qg at h2;obtain⟨q1,q2⟩:=qCU h1;refine⟨h1,q1,by omega,⟨by rw[qiu];exact q1,fun i hi=>?_⟩,.inr ⟨rfl,fun k hk=>?_⟩⟩
   ·rw[qiu] at hi;obtain⟨e1,e2,e3⟩:=qDc hi;obtain⟨k1,k2⟩:=q2 i hi;unfold qIk;rw[e1,e2,e3];exact⟨k1,k2,by unfold co;omega⟩
   ·rw[qiu] at hk;obtain⟨e1,e2,e3⟩:=qDc hk;show ((cI (raR l) (k:Int) 2:Int):Rat)=0;rw[e3];rfl
 ·rename_i h1;exact absurd h h1
end Go.Eng

namespace Go.Eng
variable {l:R}
theorem qKf (hs:kU l){L:List Nat}{n:Nat}(hL:L.length=n+1)(hn:n<=3)(hlt:∀k,k∈L->k<l.length)(h:kT l L=true) :(k8 [.r (chR l L)]).run=some (0,[.s (tQ (cO l L).x),.s (tQ (cO l L).y),.s (tQ (cO l L).z),.s (tQ (sO l L)),.b true]):=by
 have sp:=qn3 hs (show L.length<=64 by omega) hlt;have hl:(chR l L).length=n+1:=by rw[qft];exact hL
 have eL:L.length-1=n:=by omega
 have st:=qvs h;rw[eL] at st;rcases qic sp hl hn with⟨t,h1,h4⟩|⟨h1,h4⟩
 ·rw[qxf] at h1 h4;have e:=qbr (c:=fun j=>pV l (Lf l L j)) (qfG h1 st.1);rw[e] at h4;have ec:cO l L=cen (n+1) (wts (tO l L) n) fun j=>pV l (Lf l L j):=by unfold cO;rw[eL]
  unfold sO;rw[ec];exact h4
 ·rw[qxf] at h1;exact absurd st.1.ind h1
structure LO (l:R) (m:Nat) (L:List Nat) (n:Nat):Prop where
 first:qhI (kT l) l.length 1 m=some L
 len:L.length=n+1
 most:n<m
 three:n<=3
 lt:∀a,a∈L->a<l.length
 asc:L.Pairwise (·<·)
 supp:kT l L=true
 cb:CB (cO l L)
 sup:Sup l.length (pV l) (n+1) (Lf l L) (wts (tO l L) n) (sO l L)
 cen:cO l L=Go.Eng.cen (n+1) (wts (tO l L) n) fun j=>pV l (Lf l L j)
theorem qJz {L:List Nat}{n:Nat}(hL:L.length=n+1)(hlt:∀a,a∈L->a<l.length){j:Nat}(hj:j<n+1):Lf l L j<l.length:=by unfold Lf;rw[qLa,qLg (show j<L.length by omega)];exact hlt _ (qLP _)
theorem qA4 (hs:kU l)(hl:0<l.length){m:Nat}(hm:Mst l m):∃L n,LO l m L n:=by
 obtain⟨L,n,h1,h2,h3,h4,h5,h6,t,ht⟩:=qBx hl hm;have eL:L.length-1=n:=by omega
 have sb:kT l L=true:=qeQ.2 ⟨t,by rw[eL];exact ht⟩;have st:=qvs sb;rw[eL] at st;have ec:cO l L=cen (n+1) (wts (tO l L) n) fun j=>pV l (Lf l L j):=by unfold cO;rw[eL]
 have su:=qve st (fun j hj=>qJz h2 h5 hj) (by have:=qFM h6 l.length;rw[h2] at this;exact this);rw[<-ec] at su;exact⟨L,n,h1,h2,h3,h4,h5,h6,sb,(qlS hs h2 h4 h5 sb).1,su,ec⟩
theorem qC3 (h0:qol l=0):∃L n,LO (raR l) 3 L n /\(yh [.r l]).run=some (0,[.s (tQ (cO (raR l) L).x),.s (tQ (cO (raR l) L).y),.s (tQ (sO (raR l) L)),.r (rN L),.i 0]):=by obtain⟨h1,h2,h3,h4,h5⟩:=qj2 h0;obtain⟨L,n,lo⟩:=qA4 h4 (by rw[qiu];exact h3) h5;have r1:(vt [.r (raR l),.i 3]).run=_:=qEB h4 (m:=3) (by omega) lo.first;refine⟨L,n,lo,?_⟩;rw[qnN];simp only[STD,q1t,h0,qn6 h2,r1,q5G]
theorem qC7 (h0:qt9 l=0):∃L n,LO l 4 L n /\(yf [.r l]).run=some (0,[.s (tQ (cO l L).x),.s (tQ (cO l L).y),.s (tQ (cO l L).z),.s (tQ (sO l L)),.r (rN L),.i 0]):=by obtain⟨h4,h3⟩:=quz h0;obtain⟨L,n,lo⟩:=qA4 h4 h3 (m:=4) (.inl rfl);have r1:(vt [.r l,.i 4]).run=_:=qEB h4 (m:=4) (by omega) lo.first;refine⟨L,n,lo,?_⟩;rw[qnT];simp only[STD,q8i,h0,r1]
end Go.Eng

namespace Go.Eng
theorem qyg{k:IntKind}:∀{x:R},UFit (.sl [.int k]) (.l x)->∃l:List Int,x=rI l
 | x,h=>by
  cases h with
  | sl _ _ h1 h2 h3=>
   clear h1;induction x with
   | nil=>exact⟨[],rfl⟩
   | cons r x ih=>
    obtain⟨l,hl⟩:=ih (fun r' hr=>h2 r' (qLx _ hr)) (fun r' j s u hr=>h3 r' j s u (qLx _ hr));have hr:=h2 r (qLu ..)
    match r,hr with
    | [u],_=>
     have hf:=h3 [u] 0 (.int k) u (qLu ..) rfl rfl;cases hf with
     | int _ n _ _=>exact⟨n::l,by rw[hl];rfl⟩
theorem qrq{y:R}(hy:y.length<9223372036854775808):(wy [.r y,.r y]).run=some (0,[.b true]):=by
 have key:=qG (S:=zL) (fun i=>[.r y,.r y,.i (qg y),.i (i:Int)]) (0,[]) y.length hy (fun i hi=>by
  rw[q3G];simp only[STD,qy0 hi,qcn,and_self,yu hi hy]) (by
  rw[q3G];simp only[STD,qqi])
 have key':(qf zL [.r y,.r y,.i (qg y),.i 0]).run=_:=key;rw[qfc];simp only[STD,key',qV key']
noncomputable def qwp:List Bs->List Bs->Bool
 | [],[]=>true
 | a::l,b::m=>decide (a=b)&&qwp l m
 | _,_=>false
theorem qye:∀(a b pa pb:List Bs),a.length=b.length->pa.length=pb.length ->
  qdb (fun i=>if (pa++a).getD i []=(pb++b).getD i [] then none else some ((1:Nat),[PV.b false])) pa.length a.length=if qwp a b=true then none else some (1,[.b false])
 | [],[],pa,pb,_,_=>rfl
 | x::a,y::b,pa,pb,h,hp=>by
  have ex:(pa++x::a).getD pa.length []=x:=by rw[qLa,qLt (qLb _),qLQ];rfl
  have ey:(pb++y::b).getD pa.length []=y:=by rw[hp,qLa,qLt (qLb _),qLQ];rfl
  have ih:=qye a b (pa++[x]) (pb++[y]) (by simpa using h) (by simp[hp]);rw[qLH,qLH,qLv] at ih;rw[qLA];simp only[qdb];rw[ex,ey];unfold qwp;by_cases hxy:x=y
  ·subst hxy;rw[if_pos rfl];simp only[decide_true,qNa];exact ih
  ·rw[if_neg hxy];simp[hxy]
 | [],_::_,_,_,h,_=>by simp at h
 | _::_,[],_,_,h,_=>by simp at h
theorem qJ6(a b:Bs):seq a b=decide (a=b):=by unfold seq;first|rfl|(by_cases h:a=b<;>simp[h])
theorem qxK{a b:List Bs}(h:a.length=b.length)(ha:a.length<=1000):(qR [.r (txR a),.r (txR b)]).run=some (0,[.b (qwp a b)]):=by
 have ra:qg (txR a)=(a.length:Int):=by unfold txR qg;rw[qLh]
 have rb:qg (txR b)=(a.length:Int):=by unfold txR qg;rw[qLh,h]
 have ga:∀(l:List Bs) (i:Nat),i<l.length->cS (txR l) (i:Int) 0=l.getD i []:=fun l i hi=>by
  have e:(txR l).getD ((i:Int).toNat) []=[U.s (l.getD i [])]:=by unfold txR;rw[qLk,qLa,qLj,qLa,qLg hi];rfl
  unfold cS zI;rw[e];rfl
 have key:=q2v (S:=qK) (fun i=>[.r (txR a),.r (txR b),.i (a.length:Int),.i (i:Int)]) (fun i=>if a.getD i []=b.getD i [] then none else some (1,[.b false])) (0,[]) a.length (by omega) (fun i hi hf=>by
  have e:a.getD i []=b.getD i []:=qMU fun hne=>by rw[if_neg hne] at hf;cases hf
  rw[vF];simp only[STD,qJ6,ra,rb,ga a i hi,ga b i (by omega),e,yu hi (show a.length<9223372036854775808 by omega),show (i:Int)<a.length by omega,show (0:Int)<=i by omega,and_self]) (fun i r hi hf=>by
  have e:¬a.getD i []=b.getD i []:=fun he=>by rw[if_pos he] at hf;cases hf
  rw[if_neg e] at hf;cases hf;rw[vF];simp only[STD,qJ6,ra,rb,ga a i hi,ga b i (by omega),e,show (i:Int)<a.length by omega,show (0:Int)<=i by omega,and_self]) (by
  rw[vF];simp only[STD,show ¬(a.length:Int)<a.length by omega])
 have e:=qye a b [] [] h rfl;simp only[qMC,qLO] at e;rw[e] at key;rw[q7I];cases hb:qwp a b with
 | true=>
  rw[hb] at key;have key':(qf qK [.r (txR a),.r (txR b),.i (a.length:Int),.i 0]).run=some (0,[]):=key;simp only[STD,ra,rb,key',qV key']
 | false=>
  rw[hb] at key;have key':(qf qK [.r (txR a),.r (txR b),.i (a.length:Int),.i 0]).run=some (1,[.b false]):=key;simp only[STD,ra,rb,key',qV key'];rw[if_neg (by decide)]
noncomputable def shN(s:qL8):Prop:=(spn s).length<=30/\(spd s).length<=30
noncomputable instance (s:qL8):Decidable (shN s):=by unfold shN;infer_instance
theorem qKI(s:qL8):ile (qu s) 30=decide (s.length<=30):=by unfold ile qu;rw[decide_eq_decide];omega
theorem qlP(s:qL8)(hl:s.length<=9223372036854775807):(wR [.s s]).run=some (0,[.b (decide (shN s))]):=by
 have a:=qyo s hl;have e:decide (shN s)=(decide ((spn s).length<=30)&&decide ((spd s).length<=30)):=by unfold shN;exact Bool.decide_and _ _
 rw[qsS,e];by_cases h1:(spn s).length<=30
 ·have c:qu (spn s)<=30:=by unfold qu;omega
  simp only[STD,a,h1,qKI,decide_true,qNa]
 ·have c:¬(qu (spn s)<=30):=by unfold qu;omega
  simp only[STD,a,c,h1,decide_false,Bool.false_and]
theorem qva{s:qL8}(h:shN s):s.length<=100:=by
 unfold shN spn spd at h;obtain⟨h1,h2⟩:=h;rw[qM2] at h1;split at h2
 ·rw[qMY] at h2;omega
 ·have:=qFH s;omega
variable {i:Nat}
theorem qwE {S:List PV->TR}(st:Nat->List PV)(e:Nat->Int)(fin:List PV)(n:Nat)(hn:n<9223372036854775808)(h:∀i,i<n->(S (st i)).run=if e i=0 then some (0,st (i+1)) else some (2,[.b false,.i (e i)])) (h3:(S (st n)).run=some (1,fin)) :(qf S (st 0)).run=some (if kn e n=0 then (0,fin) else (1,[.b false,.i (kn e n)])):=by
 have key:=q2v st (fun i=>(qjv e i).map fun x=>(1,[PV.b false,PV.i x])) (0,fin) n hn (fun i hi hf=>by
  rw[h i hi];unfold qjv at hf;split at hf
  ·rename_i h0;rw[if_pos h0]
  ·simp at hf) (fun i r hi hf=>by
  rw[h i hi];unfold qjv at hf;split at hf
  ·simp at hf
  ·rename_i h0;simp at hf;rw[if_neg h0,<-hf]) h3
 rw[key,qwl];unfold kn;cases hs:qdb (qjv e) 0 n with
 | none=>simp
 | some x=>simp[qqa hs]
noncomputable def qAe(cl:List Bs):Int:=kn (fun i=>qCl (cl.getD i [])) cl.length
theorem qzX {l:List Bs}(hi:i<l.length):cS (txR l) (i:Int) 0=l.getD i []:=by
 have e:(txR l).getD ((i:Int).toNat) []=[U.s (l.getD i [])]:=by unfold txR;rw[qLk,qLa,qLj,qLa,qLg hi];rfl
 unfold cS zI;rw[e];rfl
theorem qzT {l:List Bs}(hi:i<l.length):l.getD i []∈l:=by rw[qLa,qLg hi];exact qLP _
theorem qFk {cl:List Bs}(h:∀s,s∈cl->s.length<=100000000)(hc:cl.length<=1000)(l y:R)(m:Int) :(qf vV [.r l,.r (txR cl),.r y,.i m,.r (txR cl),.i (qg (txR cl)),.i 0]).run=some (if qAe cl=0 then (0,[.r l,.r (txR cl),.r y,.i m]) else (1,[.b false,.i (qAe cl)])):=by
 rw[q9v];have key:=qwE (S:=vV) (fun i=>[.r l,.r (txR cl),.r y,.i m,.r (txR cl),.i (cl.length:Int),.i (i:Int)]) (fun i=>qCl (cl.getD i [])) [.r l,.r (txR cl),.r y,.i m] cl.length (by omega) (fun i hi=>by
  have r0:=qnv _ (h _ (qzT hi));rw[q8j];by_cases he:qCl (cl.getD i [])=0
  ·rw[he] at r0;simp only[STD,q9v,qzX hi,r0,he,yu hi (show cl.length<9223372036854775808 by omega),show (i:Int)<cl.length by omega,show (0:Int)<=i by omega,and_self]
  ·simp only[STD,q9v,qzX hi,r0,he,show (i:Int)<cl.length by omega,show (0:Int)<=i by omega,and_self]) (by
  rw[q8j];simp only[STD,show ¬(cl.length:Int)<cl.length by omega])
 exact key
theorem qFD {cl:List Bs}(h:∀s,s∈cl->s.length<=100000000)(hc:cl.length<=1000)(n m:Int)(y:R) :(qf yY [.i n,.r y,.i m,.i (qg (txR cl)),.i 0,.r (txR cl)]).run=some (if qAe cl=0 then (0,[.i n,.r y,.i m]) else (1,[.i (qAe cl)])):=by
 rw[q9v];have key:=qji (S:=yY) (fun i=>[.i n,.r y,.i m,.i (cl.length:Int),.i (i:Int),.r (txR cl)]) (fun i=>qCl (cl.getD i [])) [] [.i n,.r y,.i m] cl.length (by omega) (fun i hi=>by
  have r0:=qv8 _ (h _ (qzT hi));rw[qgy];by_cases he:qCl (cl.getD i [])=0
  ·rw[he] at r0;simp only[STD,q9v,qzX hi,r0,he,yu hi (show cl.length<9223372036854775808 by omega),show (i:Int)<cl.length by omega,show (0:Int)<=i by omega,and_self]
  ·simp only[STD,q9v,qzX hi,r0,he,show (i:Int)<cl.length by omega,show (0:Int)<=i by omega,and_self]) (by
  rw[qgy];simp only[STD,show ¬(cl.length:Int)<cl.length by omega])
 exact key
noncomputable def qAg(n:Nat)(y:R)(i:Nat):Int:=if cI y i 0<0 then 2 else if (n:Int)<=cI y i 0 then 2 else if 0<i then (if cI y i 0<=cI y ((i-1:Nat):Int) 0 then 9 else 0) else 0
theorem qGv (h:0<i)(hi:i<9223372036854775808):jq .i64 (i:Int) 1=((i-1:Nat):Int):=by rw[vO ⟨by omega,by omega⟩];omega
theorem qzr {l y:R}(hy:y.length<1000000)(cl:R)(m:Int) :(qf wX [.r l,.r cl,.r y,.i m,.r y,.i (qg y),.i 0]).run=some (if kn (qAg l.length y) y.length=0 then (0,[.r l,.r cl,.r y,.i m]) else (1,[.b false,.i (kn (qAg l.length y) y.length)])):=by
 have lx:qg l=(l.length:Int):=rfl;have ly:qg y=(y.length:Int):=rfl;rw[ly];have key:=qwE (S:=wX) (fun i=>[.r l,.r cl,.r y,.i m,.r y,.i (y.length:Int),.i (i:Int)]) (qAg l.length y) [.r l,.r cl,.r y,.i m] y.length (by omega) (fun i hi=>by
  have w:=yu hi (show y.length<9223372036854775808 by omega);rw[q7a];unfold qAg;by_cases h1:cI y i 0<0
  ·simp only[STD,lx,ly,h1,show (i:Int)<y.length by omega,show (0:Int)<=i by omega,and_self];rw[if_neg (by decide)]
  ·by_cases h2:(l.length:Int)<=cI y i 0
   ·simp only[STD,lx,ly,h1,h2,show (i:Int)<y.length by omega,show (0:Int)<=i by omega,and_self];rw[if_neg (by decide)]
   ·by_cases h3:0<i
    ·by_cases h4:cI y i 0<=cI y ((i-1:Nat):Int) 0
     ·simp only[STD,lx,ly,h1,h2,h3,h4,qGv h3 (show i<9223372036854775808 by omega),show (0:Int)<i by omega,show (i:Int)<y.length by omega,show (0:Int)<=i by omega,show ((i-1:Nat):Int)<y.length by omega,show (0:Int)<=((i-1:Nat):Int) by omega,and_self];rw[if_neg (by decide)]
     ·simp only[STD,lx,ly,h1,h2,h3,h4,w,qGv h3 (show i<9223372036854775808 by omega),show (0:Int)<i by omega,show (i:Int)<y.length by omega,show (0:Int)<=i by omega,show ((i-1:Nat):Int)<y.length by omega,show (0:Int)<=((i-1:Nat):Int) by omega,and_self]
    ·simp only[STD,lx,ly,h1,h2,h3,w,show ¬(0:Int)<i by omega,show (i:Int)<y.length by omega,show (0:Int)<=i by omega,and_self]) (by
  rw[q7a];simp only[STD,show ¬(y.length:Int)<y.length by omega])
 exact key
theorem qDO {y:R}(n:Nat)(hy:y.length<1000000)(_:Int) :(qf uL [.i (n:Int),.r y,.i 0]).run=some (if kn (qAg n y) y.length=0 then (0,[]) else (1,[.i (kn (qAg n y) y.length)])):=by
 have ly:qg y=(y.length:Int):=rfl;have key:=qji (S:=uL) (fun i=>[.i (n:Int),.r y,.i (i:Int)]) (qAg n y) [] [] y.length (by omega) (fun i hi=>by
  have w:=yu hi (show y.length<9223372036854775808 by omega);rw[qeV];unfold qAg;by_cases h1:cI y i 0<0
  ·simp only[STD,ly,h1,show (i:Int)<y.length by omega,show (0:Int)<=i by omega,and_self];rw[if_neg (by decide)]
  ·by_cases h2:(n:Int)<=cI y i 0
   ·simp only[STD,ly,h1,h2,show (i:Int)<y.length by omega,show (0:Int)<=i by omega,and_self];rw[if_neg (by decide)]
   ·by_cases h3:0<i
    ·by_cases h4:cI y i 0<=cI y ((i-1:Nat):Int) 0
     ·simp only[STD,ly,h1,h2,h3,h4,qGv h3 (show i<9223372036854775808 by omega),show (0:Int)<i by omega,show (i:Int)<y.length by omega,show (0:Int)<=i by omega,show ((i-1:Nat):Int)<y.length by omega,show (0:Int)<=((i-1:Nat):Int) by omega,and_self];rw[if_neg (by decide)]
     ·simp only[STD,ly,h1,h2,h3,h4,w,qGv h3 (show i<9223372036854775808 by omega),show (0:Int)<i by omega,show (i:Int)<y.length by omega,show (0:Int)<=i by omega,show ((i-1:Nat):Int)<y.length by omega,show (0:Int)<=((i-1:Nat):Int) by omega,and_self]
    ·simp only[STD,ly,h1,h2,h3,w,show ¬(0:Int)<i by omega,show (i:Int)<y.length by omega,show (0:Int)<=i by omega,and_self]) (by
  rw[qeV];simp only[STD,ly,show ¬(y.length:Int)<y.length by omega])
 exact key
theorem qzI {n:Nat}{ys:List Int}(h:kn (qAg n (rI ys)) ys.length=0):∃L:List Nat,rI ys=rN L/\L.length=ys.length/\(∀a,a∈L->a<n)/\L.Pairwise (·<·):=by
 have hi:∀i,i<ys.length->0<=ys.getD i 0/\ys.getD i 0<n/\(0<i->ys.getD (i-1) 0<ys.getD i 0):=fun i hi=>by
  have e:=qlJ h i hi;unfold qAg at e;rw[qyX,qyX,qLk,qLk] at e;split at e
  ·omega
  ·split at e
   ·omega
   ·split at e
    ·split at e
     ·omega
     ·refine⟨by omega,by omega,fun _=>by omega⟩
    ·refine⟨by omega,by omega,fun _=>by omega⟩
 have hg:∀i (hi:i<ys.length),ys.getD i 0=ys[i]:=fun i hi=>by rw[qLa,qLg hi];rfl
 refine⟨ys.map Int.toNat,?_,by rw[qLh],fun a ha=>?_,?_⟩
 ·unfold rN;congr 1;rw[List.map_map];apply List.ext_getElem
  ·rw[qLh]
  ·intro i h1 h2;rw[qNj];have:=(hi i h1).1;rw[hg i h1] at this;show ys[i]=((ys[i].toNat:Nat):Int);omega
 ·obtain⟨v,hv,rfl⟩:=qLX.1 ha;obtain⟨i,h1,rfl⟩:=List.mem_iff_getElem.1 hv;have:=hi i h1;rw[hg i h1] at this;omega
 ·rw[List.pairwise_iff_getElem];have mono:∀d i,i+d+1<ys.length->ys.getD i 0<ys.getD (i+d+1) 0:=by
   intro d;induction d with
   | zero=>intro i h1;exact(hi (i+1) h1).2.2 (by omega)
   | succ d ih=>
    intro i h1;have a:=ih i (by omega);have b:=(hi (i+(d+1)+1) h1).2.2 (by omega);have e:i+(d+1)+1-1=i+d+1:=by omega
    rw[e] at b;omega
  intro i j h1 h2 hij;rw[qLh] at h1 h2;rw[qNj,qNj];have a:=mono (j-i-1) i (by omega);have e:i+(j-i-1)+1=j:=by omega
  rw[e,hg i h1,hg j h2] at a;have b:=(hi i h1).1;rw[hg i h1] at b;omega
end Go.Eng

namespace Go.Eng
variable {l:R}
noncomputable def clE(n:Nat)(cl:List Bs)(y:R)(m:Int):Int:=if qAe cl=0 then (if qg y=0 then 13 else if m<qg y then 5 else kn (qAg n y) y.length) else qAe cl
theorem qEc (n:Nat){a b c d:Bs}(ha:a.length<=100000000)(hb:b.length<=100000000)(hc:c.length<=100000000)(hd:d.length<=100000000){y:R}(hy:y.length<1000000)(m:Int) :(yD [.i (n:Int),.s a,.s b,.s c,.s d,.r y,.i m]).run=some (0,[.i (clE n [a,b,c,d] y m)]):=by
 have r0:(qf yY [.i (n:Int),.r y,.i m,.i (qg [[.s a],[.s b],[.s c],[.s d]]),.i 0,.r [[.s a],[.s b],[.s c],[.s d]]]).run=_:=qFD (cl:=[a,b,c,d]) (fun s hs=>by simp only[qLq,qN8,or_false] at hs;rcases hs with rfl|rfl|rfl|rfl<;>assumption) (by simp) (n:Int) m y;have r1:=qDO n hy m;rw[qsI];unfold clE;by_cases h:qAe [a,b,c,d]=0
 ·rw[if_pos h] at r0;by_cases h1:qg y=0
  ·simp only[STD,r0,qV r0,h,h1]
  ·by_cases h2:m<qg y
   ·simp only[STD,r0,qV r0,h,h1,h2]
   ·by_cases h3:kn (qAg n y) y.length=0
    ·rw[if_pos h3] at r1;simp only[STD,r0,qV r0,h,h1,h2,h3,r1,qV r1]
    ·rw[if_neg h3] at r1;simp only[STD,r0,qV r0,h,h1,h2,r1,qV r1];rw[if_neg (by decide)]
 ·rw[if_neg h] at r0;simp only[STD,r0,qV r0,h];rw[if_neg (by decide)]
theorem qkc {cl:List Bs}(h:∀s,s∈cl->s.length<=100000000)(hc:cl.length<=1000){y:R}(hy:y.length<1000000){m:Int}(he:clE l.length cl y m≠0) :(qP [.r l,.r (txR cl),.r y,.i m]).run=some (0,[.b false,.i (clE l.length cl y m)]):=by
 have r0:=qFk h hc l y m;have r1:=qzr (l:=l) hy (txR cl) m;rw[q4L];unfold clE at he ⊢;by_cases h:qAe cl=0
 ·rw[if_pos h] at r0 he;by_cases h1:qg y=0
  ·simp only[STD,r0,qV r0,h,h1]
  ·by_cases h2:m<qg y
   ·simp only[STD,r0,qV r0,h,h1,h2]
   ·rw[if_neg h1,if_neg h2] at he;rw[if_neg he] at r1;simp only[STD,r0,qV r0,h,h1,h2,r1,qV r1];rw[if_neg (by decide)]
 ·rw[if_neg h] at r0;simp only[STD,r0,qV r0,h];rw[if_neg (by decide)]
theorem qzP {n:Nat}{cl:List Bs}{ys:List Int}{m:Nat}(hm:m<=4)(h:clE n cl (rI ys) m=0):qAe cl=0/\kn (qAg n (rI ys)) (rI ys).length=0/\¬qg (rI ys)=0/\¬(m:Int)<qg (rI ys) /\∃(L:List Nat) (q:Nat),rI ys=rN L/\L.length=q+1/\q<=3/\q<m/\(∀a,a∈L->a<n)/\L.Pairwise (·<·):=by
 unfold clE at h;split at h
 ·rename_i h0;split at h
  ·omega
  ·rename_i h1;split at h
   ·omega
   ·rename_i h2;have h':=h;rw[q2j] at h';obtain⟨L,e1,e2,e3,e4⟩:=qzI h';rw[qcH] at h1 h2;exact⟨h0,h,by rw[qcH];exact h1,by rw[qcH];exact h2,L,L.length-1,e1,by omega,by omega,by omega,e3,e4⟩
 ·rename_i h0;exact absurd h h0
theorem qx4 (hs:kU l){a b c:Bs}(h:∀s,s∈[a,b,c]->s.length<=100000000){ys:List Int}(hy:ys.length<1000000)(he:clE l.length [a,b,c] (rI ys) 3=0) :∃L q,rI ys=rN L/\L.length=q+1/\q<=3/\q<3/\(∀a,a∈L->a<l.length)/\L.Pairwise (·<·) /\(qP [.r l,.r (txR [a,b,c]),.r (rI ys),.i 3]).run=some (0,[.b (kT l L&&qwp [tQ (cO l L).x,tQ (cO l L).y,tQ (sO l L)] [a,b,c]),.i 0]):=by
 obtain⟨h0,h1,h2,h3,L,q,e1,e2,e3,e4,e5,e6⟩:=qzP (m:=3) (by omega) he;refine⟨L,q,e1,e2,e3,e4,e5,e6,?_⟩;have r0:=qFk h (by simp) l (rI ys) 3;have r1:=qzr (l:=l) (y:=rI ys) (by rw[q2j];exact hy) (txR [a,b,c]) 3;rw[if_pos h0] at r0;rw[if_pos h1] at r1;have w:jq .i64 3 1=2:=by decide
 rw[q4L];rw[e1] at r0 r1 h2 h3 ⊢;cases hb:kT l L with
 | false=>
  obtain⟨s1,s2,s3,s4,wl,r2⟩:=qw5 hs e2 e3 e5 hb;simp only[STD,r0,qV r0,r1,qV r1,h2,show ¬(3:Int)<qg (rN L) from h3,r2,Bool.false_and]
 | true=>
  obtain⟨_,r2⟩:=qlS hs e2 e3 e5 hb;have r3:(qR [.r (jo (qr7 [[.s (tQ (cO l L).x)],[.s (tQ (cO l L).y)],[.s (tQ (cO l L).z)]] 0 2) [[.s (cS [[.s (tQ (cO l L).x),.s (tQ (cO l L).y),.s (tQ (cO l L).z),.s (tQ (sO l L)),.l (wO l L)]] 0 3)]]),.r (txR [a,b,c])]).run=_:=
   qxK (a:=[tQ (cO l L).x,tQ (cO l L).y,tQ (sO l L)]) (b:=[a,b,c]) rfl (by simp)
  have e8:qg (qr7 [[U.s (tQ (cO l L).x)],[.s (tQ (cO l L).y)],[.s (tQ (cO l L).z)]] 0 2)=2:=rfl;have e9:∀x:U,qg [[x]]=1:=fun _=>rfl;simp only[STD,r0,qV r0,r1,qV r1,h2,show ¬(3:Int)<qg (rN L) from h3,r2,w,e8,e9,r3,show (0:Int)<=2 by omega,show (2:Int)<=3 by omega,show (0:Int)<=0 by omega,show (0:Int)<1 by omega,show (2:Int)+1<=8796093022208 by omega,and_self,qNa]
theorem qEs (hs:kU l){a b c d:Bs}(h:∀s,s∈[a,b,c,d]->s.length<=100000000){ys:List Int}(hy:ys.length<1000000)(he:clE l.length [a,b,c,d] (rI ys) 4=0) :∃L q,rI ys=rN L/\L.length=q+1/\q<=3/\q<4/\(∀a,a∈L->a<l.length)/\L.Pairwise (·<·) /\(qP [.r l,.r (txR [a,b,c,d]),.r (rI ys),.i 4]).run=some (0,[.b (kT l L&&qwp [tQ (cO l L).x,tQ (cO l L).y,tQ (cO l L).z,tQ (sO l L)] [a,b,c,d]),.i 0]):=by
 obtain⟨h0,h1,h2,h3,L,q,e1,e2,e3,e4,e5,e6⟩:=qzP (m:=4) (by omega) he;refine⟨L,q,e1,e2,e3,e4,e5,e6,?_⟩;have r0:=qFk h (by simp) l (rI ys) 4;have r1:=qzr (l:=l) (y:=rI ys) (by rw[q2j];exact hy) (txR [a,b,c,d]) 4;rw[if_pos h0] at r0;rw[if_pos h1] at r1;have w:jq .i64 4 1=3:=by decide
 rw[q4L];rw[e1] at r0 r1 h2 h3 ⊢;cases hb:kT l L with
 | false=>
  obtain⟨s1,s2,s3,s4,wl,r2⟩:=qw5 hs e2 e3 e5 hb;simp only[STD,r0,qV r0,r1,qV r1,h2,show ¬(4:Int)<qg (rN L) from h3,r2,Bool.false_and]
 | true=>
  obtain⟨_,r2⟩:=qlS hs e2 e3 e5 hb;have r3:(qR [.r (jo (qr7 [[.s (tQ (cO l L).x)],[.s (tQ (cO l L).y)],[.s (tQ (cO l L).z)]] 0 3) [[.s (cS [[.s (tQ (cO l L).x),.s (tQ (cO l L).y),.s (tQ (cO l L).z),.s (tQ (sO l L)),.l (wO l L)]] 0 3)]]),.r (txR [a,b,c,d])]).run=_:=
   qxK (a:=[tQ (cO l L).x,tQ (cO l L).y,tQ (cO l L).z,tQ (sO l L)]) (b:=[a,b,c,d]) rfl (by simp)
  have e8:qg (qr7 [[U.s (tQ (cO l L).x)],[.s (tQ (cO l L).y)],[.s (tQ (cO l L).z)]] 0 3)=3:=rfl;have e9:∀x:U,qg [[x]]=1:=fun _=>rfl;simp only[STD,r0,qV r0,r1,qV r1,h2,show ¬(4:Int)<qg (rN L) from h3,r2,w,e8,e9,r3,show (0:Int)<=3 by omega,show (3:Int)<=3 by omega,show (0:Int)<=0 by omega,show (0:Int)<1 by omega,show (3:Int)+1<=8796093022208 by omega,and_self,qNa]
theorem qEa (hs:kU l){L:List Nat}{n:Nat}(hL:L.length=n+1)(hn:n<=3)(hlt:∀k,k∈L->k<l.length)(a b c d:Bs) :(q0V [.r l,.s a,.s b,.s c,.s d,.r (rN L)]).run=some (0,[.b (kT l L&&qwp [tQ (cO l L).x,tQ (cO l L).y,tQ (cO l L).z,tQ (sO l L)] [a,b,c,d])]):=by
 have ch:=qjT (l:=l) (L:=L) (by omega) hlt;have su:=qpK hs hL hn hlt;rw[qsY];cases hb:kT l L with
 | true=>
  rw[hb] at su;have r1:=qKf hs hL hn hlt hb;unfold qwp qwp qwp qwp qwp;by_cases h1:tQ (cO l L).x=a<;>by_cases h2:tQ (cO l L).y=b<;>by_cases h3:tQ (cO l L).z=c<;>by_cases h4:tQ (sO l L)=d <;>
   simp[STD,ch,r1,su,qY,qtA,h1,h2,h3,h4]
 | false=>
  rw[hb] at su;have sp:=qn3 hs (show L.length<=64 by omega) hlt;rcases qic sp (n:=n) (by rw[qft];exact hL) hn with⟨t,_,r1⟩|⟨_,r1⟩
  ·simp only[STD,ch,r1,su,Bool.false_and];split
   ·split<;>rfl
   ·rfl
  ·simp only[STD,ch,r1,Bool.false_and]
end Go.Eng

namespace Go.Eng
variable {l:R}
theorem qL2 {L:List Nat}{n:Nat}(hL:L.length=n+1)(hlt:∀a,a∈L->a<l.length)(hz:∀k,k<l.length->(pV l k).z=0):(cO l L).z=0:=by
 have eL:L.length-1=n:=by omega
 unfold cO;rw[eL];show su (n+1) (fun j=>wts (tO l L) n j*(pV l (Lf l L j)).z)=0;rw[ql (g:=fun _=>0) fun j hj=>by rw[hz _ (qJz hL hlt hj)];grind,q5I]
theorem qCF:tQ 0=[48]:=(q4S 0).symm▸rfl
theorem qKT (a b c:Bs):qAe [a,b,[48],c]=qAe [a,b,c]:=by
 have e:qCl [48]=0:=by rw[<-qCF];exact qsk (by constructor<;>decide)
 unfold qAe kn;simp only[qLA,qLO,qdb,qjv,qMp,List.getD_cons_succ,e,if_true]
theorem qKZ (n:Nat)(a b c:Bs)(y:R)(m:Int):clE n [a,b,[48],c] y m=clE n [a,b,c] y m:=by unfold clE;rw[qKT]
theorem qsJ {a b c:Bs}(ha:a.length<=100000000)(hb:b.length<=100000000)(hc:c.length<=100000000){ys:List Int}(hy:ys.length<1000000) :∃r e,(zc [.r l,.s a,.s b,.s c,.r (rI ys)]).run=some (0,[.b r,.i e])/\(yq [.r l,.s a,.s b,.s c,.r (rI ys)]).run=some (0,[.b r,.i e]):=by
 rw[q5X,qiS];by_cases h0:qol l=0
 ·obtain⟨h1,h2,h3,h4,h5⟩:=qj2 h0;have hall:∀s,s∈[a,b,c]->s.length<=100000000:=fun s hs=>by simp only[qLq,qN8,or_false] at hs;rcases hs with rfl|rfl|rfl<;>assumption
  have hcl:(yD [.i (qg l),.s a,.s b,.s [48],.s c,.r (rI ys),.i 3]).run=_:=qEc l.length ha hb (c:=[48]) (by simp) hc (y:=rI ys) (by rw[q2j];exact hy) 3;rw[qKZ] at hcl;by_cases he:clE (raR l).length [a,b,c] (rI ys) 3=0
  ·obtain⟨L,q,e1,e2,e3,e4,e5,e6,r1⟩:=qx4 h4 hall hy he;have r2:=qEa h4 e2 e3 e5 a b [48] c;have hz:(cO (raR l) L).z=0:=qL2 e2 e5 (by
    rcases h5 with h5|h5
    ·omega
    ·exact h5.2)
   have ee:qwp [tQ (cO (raR l) L).x,tQ (cO (raR l) L).y,tQ (cO (raR l) L).z,tQ (sO (raR l) L)] [a,b,[48],c]=qwp [tQ (cO (raR l) L).x,tQ (cO (raR l) L).y,tQ (sO (raR l) L)] [a,b,c]:=by rw[hz,qCF];simp only[qwp,decide_true,qNa]
   rw[ee] at r2;rw[qiu] at he;rw[he] at hcl;have r1':(qP [.r (raR l),.r [[.s a],[.s b],[.s c]],.r (rI ys),.i 3]).run=_:=r1;rw[e1] at hcl r1' ⊢;refine⟨kT (raR l) L&&qwp [tQ (cO (raR l) L).x,tQ (cO (raR l) L).y,tQ (sO (raR l) L)] [a,b,c],0,?_,?_⟩
   rotate_left
   ·simp only[STD,qir,h0,hcl,qtk h2,r2]
   ·simp only[STD,q1t,h0,qn6 h2,r1']
  ·have r1:(qP [.r (raR l),.r [[.s a],[.s b],[.s c]],.r (rI ys),.i 3]).run=_:=qkc hall (by simp) (y:=rI ys) (by rw[q2j];exact hy) he;rw[qiu] at he r1;refine⟨false,clE l.length [a,b,c] (rI ys) 3,?_,?_⟩
   rotate_left
   ·simp only[STD,qir,h0,hcl,he]
   ·simp only[STD,q1t,h0,qn6 h2,r1]
 ·refine⟨false,qol l,?_,?_⟩
  ·simp only[STD,q1t,h0]
  ·simp only[STD,qir,h0]
theorem qtz {a b c d:Bs}(ha:a.length<=100000000)(hb:b.length<=100000000)(hc:c.length<=100000000)(hd:d.length<=100000000){ys:List Int}(hy:ys.length<1000000) :∃r e,(jc [.r l,.s a,.s b,.s c,.s d,.r (rI ys)]).run=some (0,[.b r,.i e])/\(yl [.r l,.s a,.s b,.s c,.s d,.r (rI ys)]).run=some (0,[.b r,.i e]):=by
 rw[qfL,qhV];by_cases h0:qt9 l=0
 ·obtain⟨h4,h3⟩:=quz h0;have hall:∀s,s∈[a,b,c,d]->s.length<=100000000:=fun s hs=>by simp only[qLq,qN8,or_false] at hs;rcases hs with rfl|rfl|rfl|rfl<;>assumption
  have hcl:(yD [.i (qg l),.s a,.s b,.s c,.s d,.r (rI ys),.i 4]).run=_:=qEc l.length ha hb hc hd (y:=rI ys) (by rw[q2j];exact hy) 4;have rc:(zu [.r (qr7 [[.s a],[.s b],[.s c]] 0 3)]).run=some (0,[.r [[.s a],[.s b],[.s c]]]):=by have e0:qr7 [[U.s a],[.s b],[.s c]] 0 3=[[.s a],[.s b],[.s c]]:=rfl;have e1:qg [[U.s a],[.s b],[.s c]]=3:=rfl;have e2:qg ([]:R)=0:=rfl;have e3:jo [] [[U.s a],[.s b],[.s c]]=[[.s a],[.s b],[.s c]]:=rfl;rw[q7v];simp only[STD,e0,e1,e2,e3,show (0:Int)<3 by omega,show (0:Int)+3<=8796093022208 by omega]
  have f1:qg [[U.s a],[.s b],[.s c]]=3:=rfl;have f2:qg [[U.s d]]=1:=rfl;have f3:jo [[U.s a],[.s b],[.s c]] [[.s d]]=[[.s a],[.s b],[.s c],[.s d]]:=rfl;by_cases he:clE l.length [a,b,c,d] (rI ys) 4=0
  ·obtain⟨L,q,e1,e2,e3,e4,e5,e6,r1⟩:=qEs h4 hall hy he;have r2:=qEa h4 e2 e3 e5 a b c d;rw[he] at hcl;have r1':(qP [.r l,.r [[.s a],[.s b],[.s c],[.s d]],.r (rI ys),.i 4]).run=_:=r1;rw[e1] at hcl r1' ⊢;refine⟨kT l L&&qwp [tQ (cO l L).x,tQ (cO l L).y,tQ (cO l L).z,tQ (sO l L)] [a,b,c,d],0,?_,?_⟩
   rotate_left
   ·simp only[STD,qi3,h0,hcl,r2]
   ·simp only[STD,q8i,h0,rc,f1,f2,f3,r1',show (3:Int)<=3 by omega,show (0:Int)<=3 by omega,show (0:Int)<=0 by omega,show (3:Int)+1<=8796093022208 by omega,and_self]
  ·have r1:(qP [.r l,.r [[.s a],[.s b],[.s c],[.s d]],.r (rI ys),.i 4]).run=_:=qkc hall (by simp) (y:=rI ys) (by rw[q2j];exact hy) he;refine⟨false,clE l.length [a,b,c,d] (rI ys) 4,?_,?_⟩
   rotate_left
   ·simp only[STD,qi3,h0,hcl,he]
   ·simp only[STD,q8i,h0,rc,f1,f2,f3,r1,show (3:Int)<=3 by omega,show (0:Int)<=3 by omega,show (0:Int)<=0 by omega,show (3:Int)+1<=8796093022208 by omega,and_self]
 ·refine⟨false,qt9 l,?_,?_⟩
  ·simp only[STD,q8i,h0]
  ·simp only[STD,qi3,h0]
end Go.Eng

namespace Go.Eng
variable {n:Nat}
noncomputable def E1:R:=[[.i 0,.i 0],[.i 4,.i 0],[.i 0,.i 2]]
noncomputable def E2:R:=[[.i 0,.i 0],[.i 6,.i 0],[.i 3,.i 5]]
noncomputable def E3:R:=[[.i 0,.i 0,.i 0],[.i 2,.i 0,.i 0],[.i 0,.i 2,.i 0],[.i 0,.i 0,.i 2]]
noncomputable def E4:R:=[[.i 0,.i 0],[.i 6,.i 0],[.i 3,.i 1]]
theorem qIC:qol E1=0:=by decide
theorem qHA:qol E2=0:=by decide
theorem qHG:qt9 E3=0:=by decide
theorem qE6:qol E4=0:=by decide
theorem qDp {c:Nat->V3}{t:Nat->Rat}{a b d:Rat}(h1:qpU c 0 0=a)(h2:qpU c 0 1=b)(h3:qpU c 1 0=b)(h4:qpU c 1 1=d)(hdet:a*d-b*b≠0)(e1:a*t 0+b*t 1=d2 (c 0) (c 1)) (e2:b*t 0+d*t 1=d2 (c 0) (c 2)):Bl 2 c t:=by
 refine⟨q7m.2 fun u hu=>?_,fun i hi=>?_⟩
 ·have q1:=hu 0 (by omega);have q2:=hu 1 (by omega);simp only[su,h1,h2,h3,h4] at q1 q2;have z0:u 0*(a*d-b*b)=0:=by grind
  have z1:u 1*(a*d-b*b)=0:=by grind
  intro j hj;rcases (show j=0\/j=1 by omega) with rfl|rfl
  ·rcases Rat.mul_eq_zero.1 z0 with h|h
   ·exact h
   ·exact absurd h hdet
  ·rcases Rat.mul_eq_zero.1 z1 with h|h
   ·exact h
   ·exact absurd h hdet
 ·rcases (show i=0\/i=1 by omega) with rfl|rfl
  ·simp only[su,h1,h2];grind
  ·simp only[su,h3,h4];grind
theorem qJx {c:Nat->V3}{t:Nat->Rat}{a:Rat}(h1:qpU c 0 0=a)(ha:a≠0)(e1:a*t 0=d2 (c 0) (c 1)):Bl 1 c t:=by
 refine⟨q7m.2 fun u hu=>?_,fun i hi=>?_⟩
 ·have q1:=hu 0 (by omega);simp only[su,h1] at q1;intro j hj;have:j=0:=by omega
  subst this;have z:a*u 0=0:=by grind
  rcases Rat.mul_eq_zero.1 z with h|h
  ·exact absurd h ha
  ·exact h
 ·have:i=0:=by omega
  subst this;simp only[su,h1];grind
theorem qor {p:Nat->V3}{q:Nat}{L:Nat->Nat}{u:Nat->Rat}{s:Rat}(h:Sup n p q L u s){α β γ δ:Rat}(hz:∀j,j<q->α*(p (L j)).x+β*(p (L j)).y+γ*(p (L j)).z+δ=0) :α*(cen q u fun j=>p (L j)).x+β*(cen q u fun j=>p (L j)).y+γ*(cen q u fun j=>p (L j)).z+δ=0:=by
 have e:su q (fun j=>u j*(α*(p (L j)).x+β*(p (L j)).y+γ*(p (L j)).z+δ))=0:=by rw[ql (g:=fun _=>0) fun j hj=>by rw[hz j hj];grind,q5I]
 have e2:su q (fun j=>u j*(α*(p (L j)).x+β*(p (L j)).y+γ*(p (L j)).z+δ))=α*su q (fun j=>u j*(p (L j)).x)+β*su q (fun j=>u j*(p (L j)).y)+γ*su q (fun j=>u j*(p (L j)).z)+δ*su q u:=by rw[<-zJ,<-zJ,<-zJ,<-zJ,<-q1Z,<-q1Z,<-q1Z];exact ql fun j _=>by grind
 rw[h.one] at e2;show α*su q (fun j=>u j*(p (L j)).x)+β*su q (fun j=>u j*(p (L j)).y)+γ*su q (fun j=>u j*(p (L j)).z)+δ=0;grind
theorem qy6 {l:R}(h0:qol l=0)(hl:l.length=n+1)(hn:n<=2){t:Nat->Rat}(ht:Bl n (pV (raR l)) t) :(yi [.r l]).run=some (0,[.s (tQ (cen (n+1) (wts t n) (pV (raR l))).x),.s (tQ (cen (n+1) (wts t n) (pV (raR l))).y),.s (tQ (d2 (cen (n+1) (wts t n) (pV (raR l))) (pV (raR l) 0))),.i 0]):=by
 obtain⟨h1,h2,h3,h4,h5⟩:=qj2 h0;have lr:qg (raR l)=(l.length:Int):=by unfold qg;rw[qiu]
 rcases qvf h4 (n:=n) (by rw[qiu];exact hl) (by omega) with⟨t',g1,_,_,k1⟩|⟨g1,_⟩
 ·have e:=qbr (c:=pV (raR l)) (qfG g1 ht);rw[e] at k1;have ku:(q1c [.r (raR l),.i 3]).run=some (0,[.s (tQ (cen (n+1) (wts t n) (pV (raR l))).x),.s (tQ (cen (n+1) (wts t n) (pV (raR l))).y),.s (tQ (cen (n+1) (wts t n) (pV (raR l))).z),.s (tQ (d2 (cen (n+1) (wts t n) (pV (raR l))) (pV (raR l) 0))),.r (txR ((List.range (n+1)).map fun j=>tQ (wts t' n j))),.i 0]):=by rw[qnZ];simp only[STD,lr,k1,show ¬(3:Int)<l.length by omega]
  rw[qo2];simp only[STD,q1t,h0,qn6 h2,ku,q5G]
 ·exact absurd ht.ind g1
theorem qBJ {l:R}{L:List Nat}(hL:L.length=n+1){t:Nat->Rat}(h:qwo (pV l) l.length n (Lf l L) t) :kT l L=true/\cO l L=cen (n+1) (wts t n) fun j=>pV l (Lf l L j):=by
 have eL:L.length-1=n:=by omega
 have sb:kT l L=true:=qeQ.2 ⟨t,by rw[eL];exact h⟩;have st:=qvs sb;rw[eL] at st;refine⟨sb,?_⟩;unfold cO;rw[eL];exact qbr (qfG st.1 h.1)
end Go.Eng

namespace Go.Eng
noncomputable def qIK(a b:Rat):Nat->Rat:=fun j=>if j=0 then a else b
theorem qF7:(yi [.r E1]).run=some (0,[.s [50],.s [49],.s [53],.i 0]):=by
 have bl:Bl 2 (pV (raR E1)) (qIK (1/2) (1/2)):=qDp (a:=32) (b:=0) (d:=8) (by decide +kernel) (by decide +kernel) (by decide +kernel) (by decide +kernel) (by decide +kernel) (by decide +kernel) (by decide +kernel);have r:=qy6 qIC (n:=2) rfl (by omega) bl;have e1:tQ (cen (2+1) (wts (qIK (1/2) (1/2)) 2) (pV (raR E1))).x=[50]:=by decide +kernel
 have e2:tQ (cen (2+1) (wts (qIK (1/2) (1/2)) 2) (pV (raR E1))).y=[49]:=by decide +kernel
 have e3:tQ (d2 (cen (2+1) (wts (qIK (1/2) (1/2)) 2) (pV (raR E1))) (pV (raR E1) 0))=[53]:=by decide +kernel
 rw[e1,e2,e3] at r;exact r
noncomputable def T2:Nat->Rat:=qIK (17/50) (8/25)
theorem qGF:qwo (pV (raR E2)) (raR E2).length 2 (Lf (raR E2) [0,1,2]) T2:=by
 refine⟨qDp (a:=72) (b:=36) (d:=68) (by decide +kernel) (by decide +kernel) (by decide +kernel) (by decide +kernel) (by decide +kernel) (by decide +kernel) (by decide +kernel),?_,?_⟩
 ·decide +kernel
 ·decide +kernel
theorem qF4:cen (2+1) (wts T2 2) (fun j=>pV (raR E2) (Lf (raR E2) [0,1,2] j))=⟨3,8/5,0⟩:=by
 have h1:(cen (2+1) (wts T2 2) (fun j=>pV (raR E2) (Lf (raR E2) [0,1,2] j))).x=3:=by decide +kernel
 have h2:(cen (2+1) (wts T2 2) (fun j=>pV (raR E2) (Lf (raR E2) [0,1,2] j))).y=8/5:=by decide +kernel
 have h3:(cen (2+1) (wts T2 2) (fun j=>pV (raR E2) (Lf (raR E2) [0,1,2] j))).z=0:=by decide +kernel
 generalize cen (2+1) (wts T2 2) (fun j=>pV (raR E2) (Lf (raR E2) [0,1,2] j))=v at *;cases v;simp only at h1 h2 h3;rw[h1,h2,h3]
theorem qH0{l:R}{L:List Nat}{n:Nat}(hL:L.length=n+1){j:Nat}(hj:j<n+1):Lf l L j∈L:=by unfold Lf;rw[qLa,qLg (show j<L.length by omega)];exact qLP _
theorem qEi:(yh [.r E2]).run=some (0,[.s [51],.s [56,47,53],.s [50,56,57,47,50,53],.r [[.i 0],[.i 1],[.i 2]],.i 0]):=by
  obtain⟨L,n,lo,r⟩:=qC3 qHA;have sp:=qve qGF (by decide) (by intro j k h1 h2;have:j=0/\k=1\/j=0/\k=2\/j=1/\k=2:=(by omega);rcases this with⟨rfl,rfl⟩|⟨rfl,rfl⟩|⟨rfl,rfl⟩<;>decide)
  obtain⟨us,uc⟩:=qAd lo.sup sp;rw[<-lo.cen,qF4] at uc;rw[qF4] at us;have es:sO (raR E2) L=289/25:=by rw[us];decide +kernel
  have hlen:(raR E2).length=3:=rfl;have vals:∀k,k<3->(pV (raR E2) k=⟨0,0,0⟩/\k=0)\/(pV (raR E2) k=⟨6,0,0⟩/\k=1)\/(pV (raR E2) k=⟨3,5,0⟩/\k=2):=fun k hk=>by
    rcases (show k=0\/k=1\/k=2 by omega) with rfl|rfl|rfl
    · exact .inl ⟨rfl,rfl⟩
    · exact .inr (.inl ⟨rfl,rfl⟩)
    · exact .inr (.inr ⟨rfl,rfl⟩)
  have at_:∀j,j<n+1->(pV (raR E2) (Lf (raR E2) L j)=⟨0,0,0⟩/\0∈L)\/(pV (raR E2) (Lf (raR E2) L j)=⟨6,0,0⟩/\1∈L)\/(pV (raR E2) (Lf (raR E2) L j)=⟨3,5,0⟩/\2∈L):=fun j hj=>by
    have hm:=qH0 (l:=raR E2) lo.len hj;rcases vals _ (lo.lt _ hm) with⟨h1,h2⟩|⟨h1,h2⟩|⟨h1,h2⟩
    · exact .inl ⟨h1,h2▸hm⟩
    · exact .inr (.inl ⟨h1,h2▸hm⟩)
    · exact .inr (.inr ⟨h1,h2▸hm⟩)
  have m0:0∈L:=qMU fun hn=>by
    have:=qor lo.sup (α:=-1/6) (β:=-1/10) (γ:=0) (δ:=1) fun j hj=>by
      rcases at_ j hj with⟨_,h⟩|⟨h,_⟩|⟨h,_⟩
      · exact absurd h hn
      · rw[h];decide +kernel
      · rw[h];decide +kernel
    rw[<-lo.cen,uc] at this;exact absurd this (by decide +kernel)
  have m1:1∈L:=qMU fun hn=>by
    have:=qor lo.sup (α:=1/6) (β:=-1/10) (γ:=0) (δ:=0) fun j hj=>by
      rcases at_ j hj with⟨h,_⟩|⟨_,h⟩|⟨h,_⟩
      · rw[h];decide +kernel
      · exact absurd h hn
      · rw[h];decide +kernel
    rw[<-lo.cen,uc] at this;exact absurd this (by decide +kernel)
  have m2:2∈L:=qMU fun hn=>by
    have:=qor lo.sup (α:=0) (β:=1) (γ:=0) (δ:=0) fun j hj=>by
      rcases at_ j hj with⟨h,_⟩|⟨h,_⟩|⟨_,h⟩
      · rw[h];decide +kernel
      · rw[h];decide +kernel
      · exact absurd h hn
    rw[<-lo.cen,uc] at this;exact absurd this (by decide +kernel)
  have eL:L=[0,1,2]:=by
    have hm:L∈lsN 3 (n+1):=qhL.2 ⟨lo.len,lo.lt,lo.asc⟩;have hn:=lo.most;rcases (show n=0\/n=1\/n=2 by omega) with rfl|rfl|rfl
    · exact(show ∀L,L∈lsN 3 1->0∈L->1∈L->2∈L->L=[0,1,2] by decide) L hm m0 m1 m2
    · exact(show ∀L,L∈lsN 3 2->0∈L->1∈L->2∈L->L=[0,1,2] by decide) L hm m0 m1 m2
    · exact(show ∀L,L∈lsN 3 3->0∈L->1∈L->2∈L->L=[0,1,2] by decide) L hm m0 m1 m2
  rw[uc,es,eL] at r;have e1:tQ 3=[51]:=by decide +kernel
  have e2:tQ (8/5)=[56,47,53]:=by decide +kernel
  have e3:tQ (289/25)=[50,56,57,47,50,53]:=by decide +kernel
  simp only[e1,e2,e3] at r;exact r
noncomputable def T3:Nat->Rat:=qIK (1/3) (1/3)
theorem qFZ:qwo (pV E3) E3.length 2 (Lf E3 [1,2,3]) T3:=by
 refine⟨qDp (a:=16) (b:=8) (d:=16) (by decide +kernel) (by decide +kernel) (by decide +kernel) (by decide +kernel) (by decide +kernel) (by decide +kernel) (by decide +kernel),?_,?_⟩
 ·decide +kernel
 ·decide +kernel
theorem qER:cen (2+1) (wts T3 2) (fun j=>pV E3 (Lf E3 [1,2,3] j))=⟨2/3,2/3,2/3⟩:=by
 have h1:(cen (2+1) (wts T3 2) (fun j=>pV E3 (Lf E3 [1,2,3] j))).x=2/3:=by decide +kernel
 have h2:(cen (2+1) (wts T3 2) (fun j=>pV E3 (Lf E3 [1,2,3] j))).y=2/3:=by decide +kernel
 have h3:(cen (2+1) (wts T3 2) (fun j=>pV E3 (Lf E3 [1,2,3] j))).z=2/3:=by decide +kernel
 generalize cen (2+1) (wts T3 2) (fun j=>pV E3 (Lf E3 [1,2,3] j))=v at *;cases v;simp only at h1 h2 h3;rw[h1,h2,h3]
theorem qEX:(yf [.r E3]).run=some (0,[.s [50,47,51],.s [50,47,51],.s [50,47,51],.s [56,47,51],.r [[.i 1],[.i 2],[.i 3]],.i 0]):=by
  obtain⟨L,n,lo,r⟩:=qC7 qHG;have sp:=qve qFZ (by decide) (by intro j k h1 h2;have:j=0/\k=1\/j=0/\k=2\/j=1/\k=2:=(by omega);rcases this with⟨rfl,rfl⟩|⟨rfl,rfl⟩|⟨rfl,rfl⟩<;>decide)
  obtain⟨us,uc⟩:=qAd lo.sup sp;rw[<-lo.cen,qER] at uc;rw[qER] at us;have es:sO E3 L=8/3:=by rw[us];decide +kernel
  have vals:∀k,k<4->(pV E3 k=⟨0,0,0⟩/\k=0)\/(pV E3 k=⟨2,0,0⟩/\k=1)\/(pV E3 k=⟨0,2,0⟩/\k=2)\/(pV E3 k=⟨0,0,2⟩/\k=3):=fun k hk=>by
    rcases (show k=0\/k=1\/k=2\/k=3 by omega) with rfl|rfl|rfl|rfl
    · exact .inl ⟨rfl,rfl⟩
    · exact .inr (.inl ⟨rfl,rfl⟩)
    · exact .inr (.inr (.inl ⟨rfl,rfl⟩))
    · exact .inr (.inr (.inr ⟨rfl,rfl⟩))
  have at_:∀j,j<n+1->(pV E3 (Lf E3 L j)=⟨2,0,0⟩/\1∈L)\/(pV E3 (Lf E3 L j)=⟨0,2,0⟩/\2∈L)\/(pV E3 (Lf E3 L j)=⟨0,0,2⟩/\3∈L):=fun j hj=>by
    have hm:=qH0 (l:=E3) lo.len hj;have hq:=lo.sup.eq j hj;rw[<-lo.cen,uc,es] at hq;rcases vals _ (lo.lt _ hm) with⟨h1,h2⟩|⟨h1,h2⟩|⟨h1,h2⟩|⟨h1,h2⟩
    · rw[h1] at hq
      exact absurd hq (by decide +kernel)
    · exact .inl ⟨h1,h2▸hm⟩
    · exact .inr (.inl ⟨h1,h2▸hm⟩)
    · exact .inr (.inr ⟨h1,h2▸hm⟩)
  have m0:0∉L:=fun hn=>by
    obtain⟨j,hj,he⟩:=List.mem_iff_getElem.1 hn;have hj':j<n+1:=by have:=lo.len;omega
    have hq:=lo.sup.eq j hj';have e0:Lf E3 L j=0:=by unfold Lf;rw[qLa,qLg hj];exact he
    rw[<-lo.cen,uc,es,e0] at hq;exact absurd hq (by decide +kernel)
  have m1:1∈L:=qMU fun hn=>by
    have:=qor lo.sup (α:=1) (β:=0) (γ:=0) (δ:=0) fun j hj=>by
      rcases at_ j hj with⟨_,h⟩|⟨h,_⟩|⟨h,_⟩
      · exact absurd h hn
      · rw[h];decide +kernel
      · rw[h];decide +kernel
    rw[<-lo.cen,uc] at this;exact absurd this (by decide +kernel)
  have m2:2∈L:=qMU fun hn=>by
    have:=qor lo.sup (α:=0) (β:=1) (γ:=0) (δ:=0) fun j hj=>by
      rcases at_ j hj with⟨h,_⟩|⟨_,h⟩|⟨h,_⟩
      · rw[h];decide +kernel
      · exact absurd h hn
      · rw[h];decide +kernel
    rw[<-lo.cen,uc] at this;exact absurd this (by decide +kernel)
  have m3:3∈L:=qMU fun hn=>by
    have:=qor lo.sup (α:=0) (β:=0) (γ:=1) (δ:=0) fun j hj=>by
      rcases at_ j hj with⟨h,_⟩|⟨h,_⟩|⟨_,h⟩
      · rw[h];decide +kernel
      · rw[h];decide +kernel
      · exact absurd h hn
    rw[<-lo.cen,uc] at this;exact absurd this (by decide +kernel)
  have eL:L=[1,2,3]:=by
    have hm:L∈lsN 4 (n+1):=qhL.2 ⟨lo.len,lo.lt,lo.asc⟩;have hn:=lo.most;rcases (show n=0\/n=1\/n=2\/n=3 by omega) with rfl|rfl|rfl|rfl
    · exact(show ∀L,L∈lsN 4 1->0∉L->1∈L->2∈L->3∈L->L=[1,2,3] by decide) L hm m0 m1 m2 m3
    · exact(show ∀L,L∈lsN 4 2->0∉L->1∈L->2∈L->3∈L->L=[1,2,3] by decide) L hm m0 m1 m2 m3
    · exact(show ∀L,L∈lsN 4 3->0∉L->1∈L->2∈L->3∈L->L=[1,2,3] by decide) L hm m0 m1 m2 m3
    · exact(show ∀L,L∈lsN 4 4->0∉L->1∈L->2∈L->3∈L->L=[1,2,3] by decide) L hm m0 m1 m2 m3
  rw[uc,es,eL] at r;have e1:tQ (2/3)=[50,47,51]:=by decide +kernel
  have e3:tQ (8/3)=[56,47,51]:=by decide +kernel
  simp only[e1,e3] at r;exact r
theorem qFW:qwo (pV (raR E4)) (raR E4).length 1 (Lf (raR E4) [0,1]) (fun _=>1/2):=by
 refine⟨qJx (a:=72) (by decide +kernel) (by decide +kernel) (by decide +kernel),?_,?_⟩
 ·decide +kernel
 ·decide +kernel
theorem qEy:(zc [.r E4,.s [51],.s [48],.s [57],.r [[.i 0],[.i 1]]]).run=some (0,[.b true,.i 0]):=by
 obtain⟨h1,h2,h3,h4,h5⟩:=qj2 qE6;have e3:tQ 3=[51]:=by decide +kernel
 have e0:tQ 0=[48]:=by decide +kernel
 have e9:tQ 9=[57]:=by decide +kernel
 have ck:qAe [[51],[48],[57]]=0:=by
  rw[<-e3,<-e0,<-e9];unfold qAe;refine qFd fun i hi=>?_;have:i<3:=hi;rcases (show i=0\/i=1\/i=2 by omega) with rfl|rfl|rfl
  ·exact qsk (q:=3) (by constructor<;>decide +kernel)
  ·exact qsk (q:=0) (by constructor<;>decide +kernel)
  ·exact qsk (q:=9) (by constructor<;>decide +kernel)
 have hs:kn (qAg (raR E4).length (rI [0,1])) (rI [0,1]).length=0:=by decide
 have he:clE (raR E4).length [[51],[48],[57]] (rI [0,1]) 3=0:=by unfold clE;rw[if_pos ck,if_neg (by decide),if_neg (by decide)];exact hs
 obtain⟨L,q,k1,k2,k3,k4,k5,k6,r1⟩:=qx4 h4 (a:=[51]) (b:=[48]) (c:=[57]) (by intro s hs;simp at hs;rcases hs with rfl|rfl|rfl<;>decide) (ys:=[0,1]) (by decide) he;have eL:L=[0,1]:=by
  have hl:L.length=2:=by have:=congrArg List.length k1;unfold rN at this;rw[q2j,q2j,qLh] at this;exact this.symm
  have hm:L∈lsN 3 2:=qhL.2 ⟨hl,k5,k6⟩;have h2':cI (rN L) 0 0=0/\cI (rN L) 1 0=1:=by rw[<-k1];exact⟨rfl,rfl⟩
  exact(show ∀L,L∈lsN 3 2->cI (rN L) 0 0=0/\cI (rN L) 1 0=1->L=[0,1] by decide) L hm h2'
 obtain⟨sb,sc⟩:=qBJ (l:=raR E4) (L:=[0,1]) (n:=1) rfl qFW;have c1:(cO (raR E4) [0,1]).x=3:=by rw[sc];decide +kernel
 have c2:(cO (raR E4) [0,1]).y=0:=by rw[sc];decide +kernel
 have c3:sO (raR E4) [0,1]=9:=by unfold sO;rw[sc];decide +kernel
 rw[eL,sb,c1,c2,c3,e3,e0,e9] at r1;have r2:(qP [.r (raR E4),.r [[.s [51]],[.s [48]],[.s [57]]],.r [[.i 0],[.i 1]],.i 3]).run=some (0,[.b true,.i 0]):=r1;rw[q5X];simp only[STD,q1t,qE6,qn6 h2,r2]
theorem qem:(vP []).run=some (0,[.b true]):=by
 have a1:(yi [.r [[.i 0,.i 0],[.i 4,.i 0],[.i 0,.i 2]]]).run=_:=qF7;have a2:(yh [.r [[.i 0,.i 0],[.i 6,.i 0],[.i 3,.i 5]]]).run=_:=qEi;have a3:(yf [.r [[.i 0,.i 0,.i 0],[.i 2,.i 0,.i 0],[.i 0,.i 2,.i 0],[.i 0,.i 0,.i 2]]]).run=_:=qEX;have a4:(zc [.r [[.i 0,.i 0],[.i 6,.i 0],[.i 3,.i 1]],.s [51],.s [48],.s [57],.r [[.i 0],[.i 1]]]).run=_:=qEy;have b1:=qrq (y:=[[.i 0],[.i 1],[.i 2]]) (by decide);have b2:=qrq (y:=[[.i 1],[.i 2],[.i 3]]) (by decide);have at_:∀x y,(q1u [.i x,.i y]).run=some (0,[.i x,.i y]):=fun x y=>by rw[qyT];rfl
 have w0:qw .i64 0 0=0:=by decide
 have s1:∀s:Bs,seq s s=true:=fun s=>by rw[qY]
 rw[qtu];simp only[STD,at_,a1,a2,a3,a4,b1,b2,w0,s1,qtA,Bool.and_self]
theorem qKz(l:R):∃b,(qb6 [.r l]).run=some (0,[.b b]):=by
 rw[qxt];by_cases h1:qg l<=8
 ·exact⟨true,by simp only[STD,h1]⟩
 ·by_cases h2:64<qg l
  ·exact⟨ilt (qg l) 128,by simp only[STD,h1,h2]⟩
  ·exact⟨false,by simp only[STD,h1,h2]⟩
theorem qB5(l:R):∃b,(q1j [.r l]).run=some (0,[.b b]):=by
 rw[qoD];by_cases h1:qg l<=6
 ·exact⟨true,by simp only[STD,h1]⟩
 ·by_cases h2:64<qg l
  ·exact⟨ilt (qg l) 128,by simp only[STD,h1,h2]⟩
  ·exact⟨false,by simp only[STD,h1,h2]⟩
theorem qAw(x:Int):ieq x x=true:=by simp[ieq]
theorem qy3{a b c d:Bs}(ha:a.length<=maxLen)(hb:b.length<=maxLen)(hc:c.length<=maxLen)(hd:d.length<=maxLen)(y:R) :∃r,(q0X [.s a,.s b,.s c,.s d,.r y]).run=some (0,[.b r])/\(r=true->a.length<=100/\b.length<=100/\c.length<=100/\d.length<=100/\y.length<20):=by
 have q:∀{s:Bs},s.length<=maxLen->s.length<=9223372036854775807:=fun h=>by unfold maxLen at h;omega
 have r1:=qlP a (q ha);have r2:=qlP b (q hb);have r3:=qlP c (q hc);have r4:=qlP d (q hd);rw[qsW];by_cases h1:shN a
 ·by_cases h2:shN b
  ·by_cases h3:shN c
   ·by_cases h4:shN d
    ·refine⟨ilt (qg y) 20,?_,fun h=>⟨qva h1,qva h2,qva h3,qva h4,?_⟩⟩
     ·simp only[STD,r1,r2,r3,r4,h1,h2,h3,h4,decide_true]
     ·have:qg y<20:=of_decide_eq_true h;unfold qg at this;omega
    ·exact⟨false,by simp only[STD,r1,r2,r3,r4,h1,h2,h3,h4,decide_true,decide_false],fun h=>by cases h⟩
   ·exact⟨false,by simp only[STD,r1,r2,r3,h1,h2,h3,decide_true,decide_false],fun h=>by cases h⟩
  ·exact⟨false,by simp only[STD,r1,r2,h1,h2,decide_true,decide_false],fun h=>by cases h⟩
 ·exact⟨false,by simp only[STD,r1,h1,decide_false],fun h=>by cases h⟩
theorem qju(x0:R)(x1 x2 x3 x4:qL8)(x5:R)(_:UFit (.sl [(.int .i64),(.int .i64)]) (.l x0))(_:x0.length*16<=140737488351232)(lex1:x1.length<=maxLen)(lex2:x2.length<=maxLen)(lex3:x3.length<=maxLen)(lex4:x4.length<=maxLen)(lex5:UFit (.sl [(.int .i64)]) (.l x5)):(vr [.r x0,.s x1,.s x2,.s x3,.s x4,.r x5]).run=some (0,[.b true]):=by
 obtain⟨b,hb⟩:=qKz x0;obtain⟨s,hs,hs'⟩:=qy3 lex1 lex2 lex3 lex4 x5;rw[qez];cases b with
 | false=>simp only[STD,hb,qem]
 | true=>
  cases s with
  | false=>simp only[STD,hb,hs,qem]
  | true=>
   obtain⟨h1,h2,h3,h4,h5⟩:=hs' rfl;obtain⟨ys,rfl⟩:=qyg lex5;rw[q2j] at h5;obtain⟨r,e,r1,r2⟩:=qsJ (l:=x0) (a:=x1) (b:=x2) (c:=x4) (by omega) (by omega) (by omega) (ys:=ys) (by omega);simp only[STD,hb,hs,r1,r2,qem,qAw]
theorem qnu(x0:R)(x1 x2 x3 x4:qL8)(x5:R)(_:UFit (.sl [(.int .i64),(.int .i64),(.int .i64)]) (.l x0))(_:x0.length*24<=140737488351232)(lex1:x1.length<=maxLen)(lex2:x2.length<=maxLen)(lex3:x3.length<=maxLen)(lex4:x4.length<=maxLen)(lex5:UFit (.sl [(.int .i64)]) (.l x5)):(jG [.r x0,.s x1,.s x2,.s x3,.s x4,.r x5]).run=some (0,[.b true]):=by
 obtain⟨b,hb⟩:=qB5 x0;obtain⟨s,hs,hs'⟩:=qy3 lex1 lex2 lex3 lex4 x5;rw[qhb];cases b with
 | false=>simp only[STD,hb,qem]
 | true=>
  cases s with
  | false=>simp only[STD,hb,hs,qem]
  | true=>
   obtain⟨h1,h2,h3,h4,h5⟩:=hs' rfl;obtain⟨ys,rfl⟩:=qyg lex5;rw[q2j] at h5;obtain⟨r,e,r1,r2⟩:=qtz (l:=x0) (a:=x1) (b:=x2) (c:=x3) (d:=x4) (by omega) (by omega) (by omega) (by omega) (ys:=ys) (by omega);simp only[STD,hb,hs,r1,r2,qem,qAw]
end Go.Eng

