/- Texts of the proof, merged: what the code computes, and plain laws. No statement stands here. -/
import Derived.Test.YtiohngnhjabaiaaGreatDoorU6
namespace Go.Eng
variable {k:Nat}{n:Nat}
theorem qLz {S:List PV->TR}(hS:∀(y0:Int) (y1:R) (y2:Int) (y3:R) (y4:Int) (y5:Int) (y6:R),S [.i y0,.r y1,.i y2,.r y3,.i y4,.i y5,.r y6]=(.br (ilt y2 y0) (.br (ile ((qg [])+(qg y1)) 17592186044416) (.br (ile ((qg (zR [] y1))+(qg [[(.i y2)]])) 17592186044416) (.br (ile ((qg y6)+(qg [[(.l (zR (zR [] y1) [[(.i y2)]]))]])) 5864062014805) (.leaf (0,[(.i y0),(.r y1),(.i (qu .i64 y2 1)),(.r y3),(.i y4),(.i y5),(.r (zR y6 [[(.l (zR (zR [] y1) [[(.i y2)]]))]]))])) .fail) .fail) .fail) (.leaf (1,[(.i y0),(.r y3),(.i y4),(.i y5),(.r y6)])))){n:Nat} {l:List Nat} (hn:n<=64) (hl:l.length<=64) (y3:R) (y4 y5:Int) (acc:List (List Nat)) (ha:acc.length<=1000000000) :(qf S [.i (n:Int),.r (rN l),.i (nxL l:Int),.r y3,.i y4,.i y5,.r (lsR acc)]).run=some (0,[.i (n:Int),.r y3,.i y4,.i y5,.r (lsR (acc++exL n l))]):=by
 have key:=qA (S:=S) (fun j=>[.i (n:Int),.r (rN l),.i ((nxL l+j:Nat):Int),.r y3,.i y4,.i y5,.r (lsR (acc++exT l j))]) (0,[.i (n:Int),.r y3,.i y4,.i y5,.r (lsR (acc++exL n l))]) (n-nxL l) (by omega) (fun j hj=>by
  have w:qu .i64 ((nxL l+j:Nat):Int) 1=((nxL l+j+1:Nat):Int):=jJ (show nxL l+j<64 by omega) (by omega);have e1:qg ([]:R)=0:=rfl;have e2:∀x:U,qg [[x]]=1:=fun _=>rfl;have e3:(acc++exT l j).length=acc.length+j:=by rw[qMz,qzk]
  rw[hS];simp only[STD,e1,e2,qEl,qEB,qcm,q0K,qAC,e3,w,show ((nxL l+j:Nat):Int)<n by omega,show (0:Int)+l.length<=17592186044416 by omega,show (l.length:Int)+1<=17592186044416 by omega,
   show ((acc.length+j:Nat):Int)+1<=5864062014805 by omega,qAY,qMK,qNM]) (by
  rw[hS];simp only[STD,show ¬((nxL l+(n-nxL l):Nat):Int)<n by omega,qFn])
 have key':(qf S [.i (n:Int),.r (rN l),.i ((nxL l+0:Nat):Int),.r y3,.i y4,.i y5,.r (lsR (acc++exT l 0))]).run=_:=key;rw[qB5,qNc,qN4] at key';exact key'
theorem qzX {l:List Nat}(h:0<l.length)(hl:l.length<=64)(hx:nxL l<=64):qu .i64 (cI (rN l) (wW .i64 (l.length:Int) 1) 0) 1=(nxL l:Int):=by have e:=qID h;have e1:wW .i64 (l.length:Int) 1=(l.length:Int)-1:=wj ⟨by omega,by omega⟩;rw[e1,qV ⟨by omega,by omega⟩];exact e
theorem qLo {S S16:List PV->TR}(hS16:∀(y0:Int) (y1:R) (y2:Int) (y3:R) (y4:Int) (y5:Int) (y6:R),S16 [.i y0,.r y1,.i y2,.r y3,.i y4,.i y5,.r y6]=(.br (ilt y2 y0) (.br (ile ((qg [])+(qg y1)) 17592186044416) (.br (ile ((qg (zR [] y1))+(qg [[(.i y2)]])) 17592186044416) (.br (ile ((qg y6)+(qg [[(.l (zR (zR [] y1) [[(.i y2)]]))]])) 5864062014805) (.leaf (0,[(.i y0),(.r y1),(.i (qu .i64 y2 1)),(.r y3),(.i y4),(.i y5),(.r (zR y6 [[(.l (zR (zR [] y1) [[(.i y2)]]))]]))])) .fail) .fail) .fail) (.leaf (1,[(.i y0),(.r y3),(.i y4),(.i y5),(.r y6)]))))(hS:∀(y0:Int) (y1:R) (y2:Int) (y3:Int) (y4:R),S [.i y0,.r y1,.i y2,.i y3,.r y4]=(.br (ilt y3 y2) (.br (inb y3 (qg y1)) (.br (ilt 0 (qg (cR y1 y3 0))) (.br (inb (wW .i64 (qg (cR y1 y3 0)) 1) (qg (cR y1 y3 0))) (let r0:TR:=(qf S16 [(.i y0),(.r (cR y1 y3 0)),(.i (qu .i64 (cI (cR y1 y3 0) (wW .i64 (qg (cR y1 y3 0)) 1) 0) 1)),(.r y1),(.i y2),(.i y3),(.r y4)]);.br (okR r0) (.leaf (0,[(.i (gI r0 0)),(.r (gR r0 1)),(.i (gI r0 2)),(.i (qu .i64 (gI r0 3) 1)),(.r (gR r0 4))])) .fail) .fail) (let r0:TR:=(qf S16 [(.i y0),(.r (cR y1 y3 0)),(.i 0),(.r y1),(.i y2),(.i y3),(.r y4)]);.br (okR r0) (.leaf (0,[(.i (gI r0 0)),(.r (gR r0 1)),(.i (gI r0 2)),(.i (qu .i64 (gI r0 3) 1)),(.r (gR r0 4))])) .fail)) .fail) (.leaf (1,[(.r y4)])))){n:Nat} {ls:List (List Nat)} (hn:n<=64) (hm:∀l,l∈ls->l.length<=64/\nxL l<=64) (hls:ls.length<=10000000) :(qf S [.i (n:Int),.r (lsR ls),.i (ls.length:Int),.i 0,.r []]).run=some (0,[.r (lsR (ls.flatMap (exL n)))]):=by
 have key:=qA (S:=S) (fun j=>[.i (n:Int),.r (lsR ls),.i (ls.length:Int),.i (j:Int),.r (lsR ((ls.take j).flatMap (exL n)))]) (0,[.r (lsR (ls.flatMap (exL n)))]) ls.length (by omega) (fun j hj=>by
  obtain⟨l,hl⟩:∃l,ls[j]?=some l:=⟨ls[j],qMl hj⟩;obtain⟨m1,m2⟩:=hm l (qN2 hl);have fl:((ls.take j).flatMap (exL n)).length<=1000000000:=by have:=qrc (exL n) n (qzZ n) (ls.take j);rw[qNa,qNb (by omega)] at this;have:j*n<=10000000*64:=qN7 (by omega) hn;omega
  have r0:=qLz hS16 hn m1 (lsR ls) (ls.length:Int) (j:Int) _ fl;have w:qu .i64 (j:Int) 1=((j+1:Nat):Int):=jJ hj (by omega);rw[hS];by_cases h0:0<l.length
  ·have w1:wW .i64 (l.length:Int) 1=(l.length:Int)-1:=wj ⟨by omega,by omega⟩;have e:=qzX h0 m1 m2;rw[w1] at e;simp only[STD,q0K,qjq hl,qcm,w1,e,r0,w,qtj (exL n) hl,show (j:Int)<ls.length by omega,show (0:Int)<=j by omega,show (0:Int)<l.length by omega,show (0:Int)<=(l.length:Int)-1 by omega,show (l.length:Int)-1<l.length by omega,and_self]
  ·have e:l=[]:=qNL (by omega);subst e;have r1:(qf S16 [.i (n:Int),.r (rN []),.i 0,.r (lsR ls),.i (ls.length:Int),.i (j:Int),.r (lsR ((ls.take j).flatMap (exL n)))]).run=_:=r0;simp only[STD,q0K,qjq hl,qcm,r1,w,qtj (exL n) hl,show (j:Int)<ls.length by omega,show (0:Int)<=j by omega,show ¬(0:Int)<(([]:List Nat).length:Int) from by decide,and_self]) (by
  rw[hS];simp only[STD,show ¬(ls.length:Int)<ls.length by omega,qNn])
 exact key
theorem qGT (n:Nat):(yL [.i (n:Int),.i ((0:Nat):Int)]).run=some (0,[.r (lsR (lsN n 0))]):=by rw[qtt];simp only[STD,show (((0:Nat):Int)=0)=True from eq_true rfl];rfl
theorem qBo {n k:Nat}(hn:n<=64)(hk:k<=64):∀l,l∈lsN n k->l.length<=64/\nxL l<=64:=fun l hl=>by obtain⟨h1,h2,_⟩:=qeS.1 hl;exact⟨by omega,qMi (qGa h2) hn⟩
theorem qp3 {n k:Nat}(hn:n<=64)(hk:k<=3):(lsN n k).length<=10000000:=by refine qMi (qA7 n k) (qMi (Nat.pow_le_pow_left hn k) (qMi (qNJ (by decide) hk) (by decide)))
theorem qHc (hn:n<=64)(hk:k<=1):(kz [.i (n:Int),.i (k:Int)]).run=some (0,[.r (lsR (lsN n k))]):=by
 rw[qs2]
 match k with
 | 0=>
  simp only[STD,show (((0:Nat):Int)=0)=True from eq_true rfl];rfl
 | k+1=>
  have w:wW .i64 ((k+1:Nat):Int) 1=(k:Int):=by rw[wj ⟨by omega,by omega⟩];omega
  have r0:(yL [.i (n:Int),.i (k:Int)]).run=some (0,[.r (lsR (lsN n k))]):=by
   have e:k=0:=by omega
   subst e;exact qGT n
  have r1:=qLo (S:=q1a) (S16:=yY) qnV qp1 hn (qBo (k:=k) hn (by omega)) (qp3 hn (by omega));simp only[STD,show ¬((k+1:Nat):Int)=0 by omega,w,r0,q0K,r1];rfl
theorem qH3 (hn:n<=64)(hk:k<=2):(kD [.i (n:Int),.i (k:Int)]).run=some (0,[.r (lsR (lsN n k))]):=by
 rw[qrQ]
 match k with
 | 0=>
  simp only[STD,show (((0:Nat):Int)=0)=True from eq_true rfl];rfl
 | k+1=>
  have w:wW .i64 ((k+1:Nat):Int) 1=(k:Int):=by rw[wj ⟨by omega,by omega⟩];omega
  have r0:=qHc hn (k:=k) (by omega);have r1:=qLo (S:=q1f) (S16:=yX) qoc qoD hn (qBo (k:=k) hn (by omega)) (qp3 hn (by omega));simp only[STD,show ¬((k+1:Nat):Int)=0 by omega,w,r0,q0K,r1];rfl
theorem qGD (hn:n<=64)(hk:k<=3):(kU [.i (n:Int),.i (k:Int)]).run=some (0,[.r (lsR (lsN n k))]):=by
 rw[qso]
 match k with
 | 0=>
  simp only[STD,show (((0:Nat):Int)=0)=True from eq_true rfl];rfl
 | k+1=>
  have w:wW .i64 ((k+1:Nat):Int) 1=(k:Int):=by rw[wj ⟨by omega,by omega⟩];omega
  have r0:=qH3 hn (k:=k) (by omega);have r1:=qLo (S:=q1h) (S16:=yR) qnP qp7 hn (qBo (k:=k) hn (by omega)) (qp3 hn (by omega));simp only[STD,show ¬((k+1:Nat):Int)=0 by omega,w,r0,q0K,r1];rfl
theorem qF3 (hn:n<=64)(hk:k<=4):(q6l [.i (n:Int),.i (k:Int)]).run=some (0,[.r (lsR (lsN n k))]):=by
 rw[qtS]
 match k with
 | 0=>
  simp only[STD,show (((0:Nat):Int)=0)=True from eq_true rfl];rfl
 | k+1=>
  have w:wW .i64 ((k+1:Nat):Int) 1=(k:Int):=by rw[wj ⟨by omega,by omega⟩];omega
  have r0:=qGD hn (k:=k) (by omega);have r1:=qLo (S:=q2z) (S16:=uS) qpJ qqN hn (qBo (k:=k) hn (by omega)) (qp3 hn (by omega));simp only[STD,show ¬((k+1:Nat):Int)=0 by omega,w,r0,q0K,r1];rfl
theorem qAN {l:R}(hs:kI l){m k:Int}{ls:List (List Nat)}(hls:ls.length<=1000000000)(hm:∀L,L∈ls->∃n,L.length=n+1/\n<=3/\∀a,a∈L->a<l.length) :(qf q0A [.r l,.i m,.i k,.r (lsR ls),.i (ls.length:Int),.i 0]).run=some (((ls.find? (uh l)).map fun L=>(1,[.r (rN L)])).getD (0,[.r l,.i m,.i k])):=by
 have key:=q0h (S:=q0A) (fun j=>[.r l,.i m,.i k,.r (lsR ls),.i (ls.length:Int),.i (j:Int)]) (fun j=>if uh l (ls.getD j [])=true then some (1,[.r (rN (ls.getD j []))]) else none) (0,[.r l,.i m,.i k]) ls.length (by omega) (fun j hj hf=>by
  have hl:=qsc hj;obtain⟨n,h1,h2,h3⟩:=hm _ (qN2 hl);have r0:=qho hs h1 h2 h3;have e:uh l (ls.getD j [])=false:=by
   cases h:uh l (ls.getD j []) with
   | true=>rw[if_pos h] at hf;cases hf
   | false=>rfl
  rw[e] at r0;rw[qae];simp only[STD,q0K,qjq hl,r0,jJ hj (show ls.length<9223372036854775808 by omega),show (j:Int)<ls.length by omega,show (0:Int)<=j by omega,and_self]) (fun j r hj hf=>by
  have hl:=qsc hj;obtain⟨n,h1,h2,h3⟩:=hm _ (qN2 hl);have r0:=qho hs h1 h2 h3;have e:uh l (ls.getD j [])=true:=by
   cases h:uh l (ls.getD j []) with
   | false=>rw[if_neg (by rw[h];decide)] at hf;cases hf
   | true=>rfl
  rw[e] at r0;rw[if_pos e] at hf;cases hf;rw[qae];simp only[STD,q0K,qjq hl,r0,show (j:Int)<ls.length by omega,show (0:Int)<=j by omega,and_self]) (by
  rw[qae];simp only[STD,show ¬(ls.length:Int)<ls.length by omega])
 have e:=qyu (P:=uh l) (fun L=>((1:Nat),[PV.r (rN L)])) ls [];rw[qNv] at e;rw[show (qcX _ 0 ls.length)=_ from e] at key;exact key
theorem qIi {n k j:Nat}(hk:k+1<=4)(hj:n=j):∀L,L∈lsN n (k+1)->∃q,L.length=q+1/\q<=3/\∀a,a∈L->a<j:=fun L hL=>by obtain⟨h1,h2,_⟩:=qeS.1 hL;exact⟨k,h1,by omega,fun a ha=>hj▸h2 a ha⟩
theorem qBb {n k:Nat}(hn:n<=64)(hk:k<=4):(lsN n k).length<=1000000000:=by refine qMi (qA7 n k) (qMi (Nat.pow_le_pow_left hn k) (qMi (qNJ (by decide) hk) (by decide)))
theorem qDr {l:R}(hs:kI l){m:Nat}(hm:m<=4){L:List Nat}(h:qhH (uh l) l.length 1 m=some L):(yC [.r l,.i (m:Int)]).run=some (0,[.r (rN L)]):=by
 have key:=q0h (S:=q0c) (fun k=>[.r l,.i (m:Int),.i ((k+1:Nat):Int)]) (fun k=>((lsN l.length (k+1)).find? (uh l)).map fun L=>(1,[.r (rN L)])) (0,[]) m (by omega) (fun k hk hf=>by
  have r0:=qF3 hs.1 (k:=k+1) (by omega);have r1:=qAN hs (m:=(m:Int)) (k:=((k+1:Nat):Int)) (qBb (k:=k+1) hs.1 (by omega)) (qIi (k:=k) (by omega) rfl);rw[hf] at r1;simp only[Option.getD_none] at r1;have w:qu .i64 ((k+1:Nat):Int) 1=((k+1+1:Nat):Int):=jJ (show k+1<64 by omega) (by omega);have lx:qg l=(l.length:Int):=rfl;rw[q9y];simp only[STD,lx,r0,q0K,r1,zw r1,w,show ((k+1:Nat):Int)<=m by omega]) (fun k r hk hf=>by
  have r0:=qF3 hs.1 (k:=k+1) (by omega);have r1:=qAN hs (m:=(m:Int)) (k:=((k+1:Nat):Int)) (qBb (k:=k+1) hs.1 (by omega)) (qIi (k:=k) (by omega) rfl);rw[hf] at r1;cases hx:(lsN l.length (k+1)).find? (uh l) with
  | none=>rw[hx] at hf;cases hf
  | some L'=>
   rw[hx] at hf;cases hf;simp only[qNs] at r1;have lx:qg l=(l.length:Int):=rfl;rw[q9y];simp only[STD,lx,r0,q0K,r1,zw r1,show ((k+1:Nat):Int)<=m by omega];rw[if_neg (by decide)]) (by
  rw[q9y];simp only[STD,show ¬((m+1:Nat):Int)<=m by omega])
 rw[qpH (P:=uh l) (fun L=>((1:Nat),[PV.r (rN L)])) l.length m 0,h] at key;have key':(qf q0c [.r l,.i (m:Int),.i 1]).run=some (1,[.r (rN L)]):=key;rw[qu5];simp only[STD,key',zw key'];rw[if_neg (by decide)]
end Go.Eng

namespace Go.Eng
variable {L:List Nat}{l:R}
noncomputable def tO(l:R)(L:List Nat):Nat->Rat:=Classical.epsilon fun t=>qxp (pV l) l.length (L.length-1) (Lf l L) t
noncomputable def cO(l:R)(L:List Nat):V3:=cen (L.length-1+1) (wts (tO l L) (L.length-1)) fun j=>pV l (Lf l L j)
noncomputable def sO(l:R)(L:List Nat):Rat:=d2 (cO l L) (pV l (Lf l L 0))
noncomputable def wO(l:R)(L:List Nat):R:=txR ((List.range (L.length-1+1)).map fun j=>tQ (wts (tO l L) (L.length-1) j))
theorem qvX (h:uh l L=true):qxp (pV l) l.length (L.length-1) (Lf l L) (tO l L):=Classical.epsilon_spec (qfp.1 h)
theorem qrr (hs:kI l){n:Nat}(hL:L.length=n+1)(hn:n<=3)(hlt:∀k,k∈L->k<l.length)(h:uh l L=true) :CB (cO l L)/\(zf [.r l,.r (rN L)]).run=some (0,[.s (tQ (cO l L).x),.s (tQ (cO l L).y),.s (tQ (cO l L).z),.s (tQ (sO l L)),.r (wO l L),.b true,.i 0]):=by
 have eL:L.length-1=n:=by omega
 have sp:=qvX h;unfold sO wO;unfold cO;rw[eL] at sp ⊢;rcases qrE hs hL hn hlt with⟨t,h1,h2,h3,h4⟩|⟨h1,_⟩
 ·have e:=qau h1.1 sp.1;have ec:=q6U (c:=fun j=>pV l (Lf l L j)) e;have el:((List.range (n+1)).map fun j=>tQ (wts t n j))=(List.range (n+1)).map fun j=>tQ (wts (tO l L) n j):=qNo fun j hj=>by rw[e j (qNf.1 hj)]
  rw[ec,el] at h4;rw[ec] at h3;exact⟨h3,h4⟩
 ·exact absurd sp (h1 _)
theorem qBL (hs:kI l){n:Nat}(hL:L.length=n+1)(hn:n<=3)(hlt:∀k,k∈L->k<l.length)(h:uh l L=false) :∃s1 s2 s3 s4 wl,(zf [.r l,.r (rN L)]).run=some (0,[.s s1,.s s2,.s s3,.s s4,.r wl,.b false,.i 0]):=by
 have eL:L.length-1=n:=by omega
 have hh:=qma.1 h;rw[eL] at hh;rcases qrE hs hL hn hlt with⟨t,h1,_⟩|⟨_,h4⟩
 ·exact absurd h1 (hh t)
 ·exact h4
noncomputable def lO(l:R)(n m:Int)(L:List Nat):Nat×List PV:=(1,[.r l,.s (tQ (cO l L).x),.s (tQ (cO l L).y),.s (tQ (cO l L).z),.s (tQ (sO l L)),.r (wO l L),.i 0,.i n,.i m,.r (rN L)])
theorem qLY (hs:kI l)(hL:L.length<=3)(hlt:∀k,k∈L->k<l.length)(y2 y3 y4 y5 y13:Int)(y14:R)(acc:List (List Nat))(ha:acc.length<=1000000000) :(qf qO [.r (rN L),.i (nxL L:Int),.i y2,.i y3,.i y4,.i y5,.r l,.s [],.s [],.s [],.s [],.i 0,.i (l.length:Int),.i y13,.r y14,.r (lsR acc)]).run = some ((((exL l.length L).find? (uh l)).map (lO l l.length y13)).getD (0,[.i y2,.i y3,.i y4,.i y5,.r l,.s [],.s [],.s [],.s [],.i 0,.i (l.length:Int),.i y13,.r y14,.r (lsR (acc++exL l.length L))])):=by
 have hn:=hs.1;have key:=q0h (S:=qO) (fun j=>[.r (rN L),.i ((nxL L+j:Nat):Int),.i y2,.i y3,.i y4,.i y5,.r l,.s [],.s [],.s [],.s [],.i 0,.i (l.length:Int),.i y13,.r y14,.r (lsR (acc++exT L j))])
  (fun j=>if uh l (L++[nxL L+j])=true then some (lO l l.length y13 (L++[nxL L+j])) else none)
  (0,[.i y2,.i y3,.i y4,.i y5,.r l,.s [],.s [],.s [],.s [],.i 0,.i (l.length:Int),.i y13,.r y14,.r (lsR (acc++exL l.length L))]) (l.length-nxL L) (by omega) (fun j hj hf=>by
  have e:uh l (L++[nxL L+j])=false:=by
   cases h:uh l (L++[nxL L+j]) with
   | true=>rw[if_pos h] at hf;cases hf
   | false=>rfl
  have lj:(L++[nxL L+j]).length=L.length+1:=by rw[qMz];rfl
  have ltj:∀k,k∈L++[nxL L+j]->k<l.length:=fun k hk=>by
   rcases qMD.1 hk with q|q
   ·exact hlt k q
   ·rw[qMJ.1 q];omega
  obtain⟨s1,s2,s3,s4,wl,r1⟩:=qBL hs lj hL ltj e;have w:qu .i64 ((nxL L+j:Nat):Int) 1=((nxL L+j+1:Nat):Int):=jJ (show nxL L+j<64 by omega) (by omega);have e2:∀x:U,qg [[x]]=1:=fun _=>rfl;have e3:(acc++exT L j).length=acc.length+j:=by rw[qMz,qzk]
  have cl:(wD [.r (rN L)]).run=some (0,[.r (rN L)]):=by rw[q6n];simp only[STD,qcm,show (L.length:Int)<=17592186044416 by omega]
  rw[q13];simp only[STD,cl,e2,qEB,qcm,q0K,qAC,e3,w,r1,show ((nxL L+j:Nat):Int)<l.length by omega,show (L.length:Int)+1<=17592186044416 by omega,
   show ((acc.length+j:Nat):Int)+1<=5864062014805 by omega,qAY,qMK,qNM]) (fun j r hj hf=>by
  have e:uh l (L++[nxL L+j])=true:=by
   cases h:uh l (L++[nxL L+j]) with
   | false=>rw[if_neg (by rw[h];decide)] at hf;cases hf
   | true=>rfl
  rw[if_pos e] at hf;cases hf;have lj:(L++[nxL L+j]).length=L.length+1:=by rw[qMz];rfl
  have ltj:∀k,k∈L++[nxL L+j]->k<l.length:=fun k hk=>by
   rcases qMD.1 hk with q|q
   ·exact hlt k q
   ·rw[qMJ.1 q];omega
  obtain⟨_,r1⟩:=qrr hs lj hL ltj e;have e2:∀x:U,qg [[x]]=1:=fun _=>rfl;have e3:(acc++exT L j).length=acc.length+j:=by rw[qMz,qzk]
  have cl:(wD [.r (rN L)]).run=some (0,[.r (rN L)]):=by rw[q6n];simp only[STD,qcm,show (L.length:Int)<=17592186044416 by omega]
  rw[q13];unfold lO;simp only[STD,cl,e2,qEB,qcm,q0K,qAC,e3,r1,show ((nxL L+j:Nat):Int)<l.length by omega,show (L.length:Int)+1<=17592186044416 by omega,
   show ((acc.length+j:Nat):Int)+1<=5864062014805 by omega]) (by
  rw[q13];simp only[STD,show ¬((nxL L+(l.length-nxL L):Nat):Int)<l.length by omega,qFn])
 have e:=qEa (P:=uh l) (lO l l.length y13) L (l.length-nxL L) 0;rw[e] at key;have key':(qf qO [.r (rN L),.i ((nxL L+0:Nat):Int),.i y2,.i y3,.i y4,.i y5,.r l,.s [],.s [],.s [],.s [],.i 0,.i (l.length:Int),.i y13,.r y14,.r (lsR (acc++exT L 0))]).run=_:=key;rw[qB5,qNc,qN4] at key';exact key'
theorem qM3 (hs:kI l){ls:List (List Nat)}{q:Nat}(hq:q<=3)(hls:ls.length<=10000000)(hm:∀L,L∈ls->L.length=q/\∀a,a∈L->a<l.length)(y0 y1 y11:Int) :(qf v8 [.i y0,.i y1,.i (ls.length:Int),.i 0,.r l,.s [],.s [],.s [],.s [],.i 0,.i (l.length:Int),.i y11,.r (lsR ls),.r []]).run = some ((((ls.flatMap (exL l.length)).find? (uh l)).map (lO l l.length y11)).getD (0,[.i y0,.i y1,.r l,.s [],.s [],.s [],.s [],.i 0,.i (l.length:Int),.i y11,.r (lsR (ls.flatMap (exL l.length)))])):=by
 have hn:=hs.1;have step:∀j,j<ls.length->∃L,ls[j]?=some L/\ls.getD j []=L/\(qf qO [.r (rN L),.i (nxL L:Int),.i y0,.i y1,.i (ls.length:Int),.i (j:Int),.r l,.s [],.s [],.s [],.s [],.i 0,.i (l.length:Int),.i y11,.r (lsR ls),.r (lsR ((ls.take j).flatMap (exL l.length)))]).run =
   some ((((exL l.length L).find? (uh l)).map (lO l l.length y11)).getD (0,[.i y0,.i y1,.i (ls.length:Int),.i (j:Int),.r l,.s [],.s [],.s [],.s [],.i 0,.i (l.length:Int),.i y11,.r (lsR ls),.r (lsR ((ls.take (j+1)).flatMap (exL l.length)))])) /\
   L.length<=3/\nxL L<=64:=fun j hj=>by
  have hl:=qsc hj;obtain⟨h1,h2⟩:=hm _ (qN2 hl);have fl:((ls.take j).flatMap (exL l.length)).length<=1000000000:=by have:=qrc (exL l.length) l.length (qzZ l.length) (ls.take j);rw[qNa,qNb (by omega)] at this;have:j*l.length<=10000000*64:=qN7 (by omega) hn;omega
  have r0:=qLY hs (L:=ls.getD j []) (by omega) h2 y0 y1 (ls.length:Int) (j:Int) y11 (lsR ls) _ fl;rw[<-qtj (exL l.length) hl] at r0;exact⟨_,hl,rfl,r0,by omega,qMi (qGa h2) hn⟩
 have key:=q0h (S:=v8) (fun j=>[.i y0,.i y1,.i (ls.length:Int),.i (j:Int),.r l,.s [],.s [],.s [],.s [],.i 0,.i (l.length:Int),.i y11,.r (lsR ls),.r (lsR ((ls.take j).flatMap (exL l.length)))])
  (fun j=>((exL l.length (ls.getD j [])).find? (uh l)).map (lO l l.length y11))
  (0,[.i y0,.i y1,.r l,.s [],.s [],.s [],.s [],.i 0,.i (l.length:Int),.i y11,.r (lsR (ls.flatMap (exL l.length)))]) ls.length (by omega) (fun j hj hf=>by
  obtain⟨L,hl,hg,r0,h3,h4⟩:=step j hj;rw[hg] at hf;rw[hf] at r0;simp only[Option.getD_none] at r0;have w:qu .i64 (j:Int) 1=((j+1:Nat):Int):=jJ hj (by omega);rw[q1O];by_cases h0:0<L.length
  ·have w1:wW .i64 (L.length:Int) 1=(L.length:Int)-1:=wj ⟨by omega,by omega⟩;have e:=qzX h0 (by omega) h4;rw[w1] at e;simp only[STD,q0K,qjq hl,qcm,w1,e,r0,zw r0,w,show (j:Int)<ls.length by omega,show (0:Int)<=j by omega,show (0:Int)<L.length by omega,show (0:Int)<=(L.length:Int)-1 by omega,show (L.length:Int)-1<L.length by omega,and_self]
  ·have e:L=[]:=qNL (by omega);subst e;have r1:(qf qO [.r (rN []),.i 0,.i y0,.i y1,.i (ls.length:Int),.i (j:Int),.r l,.s [],.s [],.s [],.s [],.i 0,.i (l.length:Int),.i y11,.r (lsR ls),.r (lsR ((ls.take j).flatMap (exL l.length)))]).run=_:=r0;simp only[STD,q0K,qjq hl,qcm,r1,zw r1,w,show (j:Int)<ls.length by omega,show (0:Int)<=j by omega,show ¬(0:Int)<(([]:List Nat).length:Int) from by decide,and_self]) (fun j r hj hf=>by
  obtain⟨L,hl,hg,r0,h3,h4⟩:=step j hj;rw[hg] at hf;rw[hf] at r0;simp only[qNs] at r0;obtain⟨L2,hL2,e2⟩:=qNW.1 hf;subst e2;unfold lO at r0 ⊢;rw[q1O];by_cases h0:0<L.length
  ·have w1:wW .i64 (L.length:Int) 1=(L.length:Int)-1:=wj ⟨by omega,by omega⟩;have e:=qzX h0 (by omega) h4;rw[w1] at e;simp only[STD,q0K,qjq hl,qcm,w1,e,r0,zw r0,show (j:Int)<ls.length by omega,show (0:Int)<=j by omega,show (0:Int)<L.length by omega,show (0:Int)<=(L.length:Int)-1 by omega,show (L.length:Int)-1<L.length by omega,and_self];rw[if_neg (by decide)]
  ·have e:L=[]:=qNL (by omega);subst e;have r1:(qf qO [.r (rN []),.i 0,.i y0,.i y1,.i (ls.length:Int),.i (j:Int),.r l,.s [],.s [],.s [],.s [],.i 0,.i (l.length:Int),.i y11,.r (lsR ls),.r (lsR ((ls.take j).flatMap (exL l.length)))]).run=_:=r0;simp only[STD,q0K,qjq hl,qcm,r1,zw r1,show (j:Int)<ls.length by omega,show (0:Int)<=j by omega,show ¬(0:Int)<(([]:List Nat).length:Int) from by decide,and_self];rw[if_neg (by decide)]) (by
  rw[q1O];simp only[STD,show ¬(ls.length:Int)<ls.length by omega,qNn])
 have e:=qyV (P:=uh l) (lO l l.length y11) (exL l.length) ls [];simp only[qNv,qMU] at e;rw[e] at key;exact key
theorem qFu (hs:kI l){m:Nat}(hm:m<=4)(h:qhH (uh l) l.length 1 m=some L) :(vM [.r l,.i (m:Int)]).run=some (0,[.s (tQ (cO l L).x),.s (tQ (cO l L).y),.s (tQ (cO l L).z),.s (tQ (sO l L)),.r (wO l L),.r (rN L),.i 0]):=by
 have hn:=hs.1;have hms:∀q,∀L,L∈lsN l.length q->L.length=q/\∀a,a∈L->a<l.length:=fun q L hL=>by obtain⟨h1,h2,_⟩:=qeS.1 hL;exact⟨h1,h2⟩
 have key:=q0h (S:=vh) (fun q=>[.i (m:Int),.i (q:Int),.r l,.s [],.s [],.s [],.s [],.i 0,.i (l.length:Int),.i (m:Int),.r (lsR (lsN l.length q))])
  (fun q=>((lsN l.length (q+1)).find? (uh l)).map (lO l l.length m))
  (0,[.r l,.s [],.s [],.s [],.s [],.i 0,.i (l.length:Int),.i (m:Int)]) m (by omega) (fun q hq hf=>by
  have r0:=qM3 hs (q:=q) (by omega) (qp3 (k:=q) hn (by omega)) (hms q) (m:Int) (q:Int) (m:Int);have hf':((((lsN l.length q).flatMap (exL l.length)).find? (uh l)).map (lO l l.length m))=none:=hf;rw[hf'] at r0;simp only[Option.getD_none] at r0;have w:qu .i64 (q:Int) 1=((q+1:Nat):Int):=jJ hq (by omega);rw[q1I];simp only[STD,q0K,r0,zw r0,w,show (q:Int)<m by omega];rfl) (fun q r hq hf=>by
  have r0:=qM3 hs (q:=q) (by omega) (qp3 (k:=q) hn (by omega)) (hms q) (m:Int) (q:Int) (m:Int);have hf':((((lsN l.length q).flatMap (exL l.length)).find? (uh l)).map (lO l l.length m))=some r:=hf;rw[hf'] at r0;simp only[qNs] at r0;obtain⟨L2,hL2,e2⟩:=qNW.1 hf';subst e2;unfold lO at r0 ⊢;rw[q1I];simp only[STD,q0K,r0,zw r0,show (q:Int)<m by omega];rw[if_neg (by decide)]) (by
  rw[q1I];simp only[STD,show ¬(m:Int)<m by omega])
 rw[qpH (P:=uh l) (lO l l.length m) l.length m 0,h] at key;have key':(qf vh [.i (m:Int),.i 0,.r l,.s [],.s [],.s [],.s [],.i 0,.i (l.length:Int),.i (m:Int),.r [[.l []]]]).run=some (lO l l.length m L):=key;unfold lO at key';have lx:qg l=(l.length:Int):=rfl;rw[qqB];simp only[STD,lx,key',zw key'];rw[if_neg (by decide)]
end Go.Eng

namespace Go.Eng
variable {l:R}
noncomputable def ptE(x y:Int):Int:=if -100000<=x/\x<=100000/\-100000<=y/\y<=100000 then 0 else 2
noncomputable def ptA(l:R)(i:Nat):Int:=ptE (cI l i 0) (cI l i 1)
noncomputable def qDm(l:R):Int:=if 64<qg l then 5 else q1n (ptA l) l.length
theorem qz1 (x y:Int):ptE x y=0\/ptE x y=2:=by unfold ptE;split<;>simp
theorem qGs {x y:Int}(h:ptE x y=0):-100000<=x/\x<=100000/\-100000<=y/\y<=100000:=by
 unfold ptE at h;split at h
 ·assumption
 ·omega
theorem qj5 (x:Int):(qY [.i x]).run=some (0,[.b (decide (-100000<=x/\x<=100000))]):=by rw[qqt];simp only[STD];by_cases h:-100000<=x<;>simp[h,ile]
theorem qvc (x:Int):(ji [.i x]).run=some (0,[.b (decide (-100000<=x/\x<=100000))]):=by rw[qzr];simp only[STD];by_cases h:-100000<=x<;>simp[h,ile]
theorem qxi (x y:Int):(kx [.i x,.i y]).run=some (0,[.b (decide (ptE x y=0))]):=by rw[qtV];simp only[STD,qj5];unfold ptE;by_cases h:-100000<=x<;>by_cases h2:x<=100000<;>by_cases h3:-100000<=y<;>by_cases h4:y<=100000<;>simp[h,h2,h3,h4]
theorem qvH (x y:Int):(q3v [.i x,.i y]).run=some (0,[.b (decide (ptE x y=0))]):=by rw[qtP];simp only[STD,qvc];unfold ptE;by_cases h:-100000<=x<;>by_cases h2:x<=100000<;>by_cases h3:-100000<=y<;>by_cases h4:y<=100000<;>simp[h,h2,h3,h4]
theorem qxT (l:R)(hl:l.length<9223372036854775808):(jc [.r l]).run=some (0,[.i (q1n (ptA l) l.length)]):=by
 rw[qg7];have k:=qre (S:=zm) (fun i=>[.r l,.i (qg l),.i (i:Int)]) (ptA l) [] [] l.length hl (fun i hi=>by
  rw[q4r];simp only[STD,qvo hi,qbZ,qxi,and_self,jJ hi hl];show (if ¬ptA l i=0 then _ else _)=_;have:=qz1 (cI l i 0) (cI l i 1);by_cases he:ptA l i=0
  ·simp[he]
  ·have:ptA l i=2:=by unfold ptA at *;omega
   simp[this]) (by
  rw[q4r];simp only[STD,qoF])
 by_cases hf:q1n (ptA l) l.length=0
 ·rw[if_pos hf] at k;have k':(qf zm [.r l,.i (qg l),.i 0]).run=_:=k;simp only[STD,k',zw k',hf]
 ·rw[if_neg hf] at k;have k':(qf zm [.r l,.i (qg l),.i 0]).run=_:=k;simp only[STD,k',zw k',show ¬((1:Nat)=0) by decide]
theorem ql2 (l:R):(q3X [.r l]).run=some (0,[.i (qDm l)]):=by
 rw[qsJ];have e:(wk [.r l]).run=some (0,[.i (qDm l)]):=by
  rw[qcK];unfold qDm;by_cases h:64<qg l
  ·simp only[STD,h]
  ·simp only[STD,h,qxT l (by unfold qg at h;omega)]
 simp only[STD,e]
theorem qof (l:R):(q6g [.r l]).run=some (0,[.i (qDm l)]):=by
 rw[quq];unfold qDm;by_cases h:64<qg l
 ·simp only[STD,h]
 ·have hl:l.length<9223372036854775808:=by unfold qg at h;omega
  have k:=qre (S:=un) (fun i=>[.r l,.i (i:Int)]) (ptA l) [] [] l.length hl (fun i hi=>by
   rw[qhU];simp only[STD,qvo hi,qbZ,qvH,and_self,jJ hi hl];show (if ¬ptA l i=0 then _ else _)=_;have:=qz1 (cI l i 0) (cI l i 1);by_cases he:ptA l i=0
   ·simp[he]
   ·have:ptA l i=2:=by unfold ptA at *;omega
    simp[this]) (by
   rw[qhU];simp only[STD,qoF])
  by_cases hf:q1n (ptA l) l.length=0
  ·rw[if_pos hf] at k;have k':(qf un [.r l,.i 0]).run=_:=k;simp only[STD,k',zw k',hf,h]
  ·rw[if_neg hf] at k;have k':(qf un [.r l,.i 0]).run=_:=k;simp only[STD,k',zw k',h,show ¬((1:Nat)=0) by decide]
noncomputable def spE(x y z:Int):Int:=if -100000<=x/\x<=100000/\-100000<=y/\y<=100000/\-100000<=z/\z<=100000 then 0 else 2
noncomputable def spA(l:R)(i:Nat):Int:=spE (cI l i 0) (cI l i 1) (cI l i 2)
noncomputable def qEd(l:R):Int:=if 64<qg l then 5 else q1n (spA l) l.length
theorem qy4 (x y z:Int):spE x y z=0\/spE x y z=2:=by unfold spE;split<;>simp
theorem qGR {x y z:Int}(h:spE x y z=0):co x/\co y/\co z:=by
 unfold spE at h;split at h
 ·unfold co;omega
 ·omega
theorem qwr (x y z:Int):(uY [.i x,.i y,.i z]).run=some (0,[.b (decide (spE x y z=0))]):=by rw[quD];simp only[STD,qj5];unfold spE;by_cases h:-100000<=x<;>by_cases h2:x<=100000<;>by_cases h3:-100000<=y<;>by_cases h4:y<=100000<;>by_cases h5:-100000<=z<;>by_cases h6:z<=100000<;>simp[h,h2,h3,h4,h5,h6]
theorem qpM (x y z:Int):(yO [.i x,.i y,.i z]).run=some (0,[.b (decide (spE x y z=0))]):=by rw[qoo];simp only[STD,qvc];unfold spE;by_cases h:-100000<=x<;>by_cases h2:x<=100000<;>by_cases h3:-100000<=y<;>by_cases h4:y<=100000<;>by_cases h5:-100000<=z<;>by_cases h6:z<=100000<;>simp[h,h2,h3,h4,h5,h6]
theorem qvQ (l:R)(hl:l.length<9223372036854775808):(jH [.r l]).run=some (0,[.i (q1n (spA l) l.length)]):=by
 rw[qib];have k:=qre (S:=zu) (fun i=>[.r l,.i (qg l),.i (i:Int)]) (spA l) [] [] l.length hl (fun i hi=>by
  rw[q5A];simp only[STD,qvo hi,qbZ,qwr,and_self,jJ hi hl];show (if ¬spA l i=0 then _ else _)=_;have:=qy4 (cI l i 0) (cI l i 1) (cI l i 2);by_cases he:spA l i=0
  ·simp[he]
  ·have:spA l i=2:=by unfold spA at *;omega
   simp[this]) (by
  rw[q5A];simp only[STD,qoF])
 by_cases hf:q1n (spA l) l.length=0
 ·rw[if_pos hf] at k;have k':(qf zu [.r l,.i (qg l),.i 0]).run=_:=k;simp only[STD,k',zw k',hf]
 ·rw[if_neg hf] at k;have k':(qf zu [.r l,.i (qg l),.i 0]).run=_:=k;simp only[STD,k',zw k',show ¬((1:Nat)=0) by decide]
theorem qc4 (l:R):(um [.r l]).run=some (0,[.i (qEd l)]):=by
 rw[qks];have e:(wM [.r l]).run=some (0,[.i (qEd l)]):=by
  rw[qcP];unfold qEd;by_cases h:64<qg l
  ·simp only[STD,h]
  ·simp only[STD,h,qvQ l (by unfold qg at h;omega)]
 simp only[STD,e]
theorem qdp (l:R):(kj [.r l]).run=some (0,[.i (qEd l)]):=by
 rw[qlI];unfold qEd;by_cases h:64<qg l
 ·simp only[STD,h]
 ·have hl:l.length<9223372036854775808:=by unfold qg at h;omega
  have k:=qre (S:=ww) (fun i=>[.r l,.i (i:Int)]) (spA l) [] [] l.length hl (fun i hi=>by
   rw[q8X];simp only[STD,qvo hi,qbZ,qpM,and_self,jJ hi hl];show (if ¬spA l i=0 then _ else _)=_;have:=qy4 (cI l i 0) (cI l i 1) (cI l i 2);by_cases he:spA l i=0
   ·simp[he]
   ·have:spA l i=2:=by unfold spA at *;omega
    simp[this]) (by
   rw[q8X];simp only[STD,qoF])
  by_cases hf:q1n (spA l) l.length=0
  ·rw[if_pos hf] at k;have k':(qf ww [.r l,.i 0]).run=_:=k;simp only[STD,k',zw k',hf,h]
  ·rw[if_neg hf] at k;have k':(qf ww [.r l,.i 0]).run=_:=k;simp only[STD,k',zw k',h,show ¬((1:Nat)=0) by decide]
theorem qEh (h:qEd l=0):kI l:=by
 unfold qEd at h;split at h
 ·omega
 ·rename_i h64;unfold qg at h64;exact⟨by omega,fun i hi=>qGR (qmg h i hi)⟩
noncomputable def qid(l:R):Int:=if qDm l=0 then (if qg l=0 then 13 else 0) else qDm l
noncomputable def qmm(l:R):Int:=if qEd l=0 then (if qg l=0 then 13 else 0) else qEd l
theorem qlv (x:Int):(kF [.i x]).run=some (0,[.i (if x=0 then 13 else 0)]):=by rw[qrJ];by_cases h:x=0<;>simp[STD,h]
theorem yK (l:R):(jw [.r l]).run=some (0,[.i (qid l)]):=by
 rw[qrB];unfold qid;by_cases h:qDm l=0
 ·by_cases h2:qg l=0<;>simp only[STD,ql2,qlv,h,h2]
 ·simp only[STD,ql2,h]
theorem q5M (l:R):(q2E [.r l]).run=some (0,[.i (qid l)]):=by
 rw[qx4];unfold qid;by_cases h:qDm l=0
 ·by_cases h2:qg l=0<;>simp only[STD,qof,h,h2]
 ·simp only[STD,qof,h]
theorem q1A (l:R):(kC [.r l]).run=some (0,[.i (qmm l)]):=by
 rw[qsI];unfold qmm;by_cases h:qEd l=0
 ·by_cases h2:qg l=0<;>simp only[STD,qc4,qlv,h,h2]
 ·simp only[STD,qc4,h]
theorem q5L (l:R):(q2j [.r l]).run=some (0,[.i (qmm l)]):=by
 rw[qwg];unfold qmm;by_cases h:qEd l=0
 ·by_cases h2:qg l=0<;>simp only[STD,qdp,h,h2]
 ·simp only[STD,qdp,h]
theorem qoJ (h:qmm l=0):kI l/\0<l.length:=by
 unfold qmm at h;split at h
 ·rename_i h1;split at h
  ·omega
  ·rename_i h2;unfold qg at h2;exact⟨qEh h1,by omega⟩
 ·rename_i h1;exact absurd h h1
noncomputable def raR(l:R):R:=(List.range l.length).map fun i:Nat=>[.i (cI l (i:Int) 0),.i (cI l (i:Int) 1),.i 0]
noncomputable def raN(l:R)(n:Nat):R:=(List.range n).map fun i:Nat=>[.i (cI l (i:Int) 0),.i (cI l (i:Int) 1),.i 0]
theorem qE2 (l:R)(n:Nat):qg (raN l n)=(n:Int):=by unfold raN qg;rw[qMm,qMP]
theorem qis (l:R):(raR l).length=l.length:=by unfold raR;rw[qMm,qMP]
theorem qBa (l:R)(n:Nat):raN l (n+1)=zR (raN l n) [[.i (cI l (n:Int) 0),.i (cI l (n:Int) 1),.i 0]]:=by unfold raN zR;rw[qNq,qMC];rfl
theorem qDE {i:Nat}(h:i<l.length):cI (raR l) (i:Int) 0=cI l (i:Int) 0/\cI (raR l) (i:Int) 1=cI l (i:Int) 1/\cI (raR l) (i:Int) 2=0:=by
 have e:(raR l).getD ((i:Int).toNat) []=[.i (cI l (i:Int) 0),.i (cI l (i:Int) 1),.i 0]:=by unfold raR;rw[qMp,qMf,qMo,qMY h];rfl
 refine⟨?_,?_,?_⟩<;>(conv=>lhs;unfold cI zH)<;>rw[e]<;>rfl
theorem qjT (hl:l.length<=64):(wT [.r l]).run=some (0,[.r (raR l)]):=by
 have key:=qA (S:=jY) (fun i=>[.r l,.i (l.length:Int),.i (i:Int),.r (raN l i)]) (0,[.r (raR l)]) l.length (by omega) (fun i hi=>by
  have e3:qg [[U.i (cI l (i:Int) 0),.i (cI l (i:Int) 1),.i 0]]=1:=rfl;have e4:qg l=(l.length:Int):=rfl;rw[qbH];simp only[STD,qE2,qBa,e3,e4,jJ hi (show l.length<9223372036854775808 by omega),show (i:Int)<l.length by omega,show (0:Int)<=i by omega,show (i:Int)+1<=5864062014805 by omega,and_self]) (by
  rw[qbH];simp only[STD,show ¬(l.length:Int)<l.length by omega];rfl)
 have key':(qf jY [.r l,.i (qg l),.i 0,.r []]).run=some (0,[.r (raR l)]):=key;rw[qpq];simp only[STD,key']
theorem qeq (hl:l.length<=64):(kV [.r l]).run=some (0,[.r (raR l)]):=by
 have key:=qA (S:=uN) (fun i=>[.r l,.i (i:Int),.r (raN l i)]) (0,[.r (raR l)]) l.length (by omega) (fun i hi=>by
  have e3:qg [[U.i (cI l (i:Int) 0),.i (cI l (i:Int) 1),.i 0]]=1:=rfl;have e4:qg l=(l.length:Int):=rfl;rw[qfM];simp only[STD,qE2,qBa,e3,e4,jJ hi (show l.length<9223372036854775808 by omega),show (i:Int)<l.length by omega,show (0:Int)<=i by omega,show (i:Int)+1<=5864062014805 by omega,and_self]) (by
  have e4:qg l=(l.length:Int):=rfl;rw[qfM];simp only[STD,e4,show ¬(l.length:Int)<l.length by omega];rfl)
 have key':(qf uN [.r l,.i 0,.r []]).run=some (0,[.r (raR l)]):=key;rw[qt3];simp only[STD,key']
theorem qDN (h:qDm l=0):l.length<=64/\∀i,i<l.length->co (cI l (i:Int) 0)/\co (cI l (i:Int) 1):=by
 unfold qDm at h;split at h
 ·omega
 ·rename_i h64;unfold qg at h64;refine⟨by omega,fun i hi=>?_⟩;obtain⟨h1,h2,h3,h4⟩:=qGs (qmg h i hi);exact⟨⟨h1,h2⟩,⟨h3,h4⟩⟩
theorem qfe (h:qid l=0):qDm l=0/\l.length<=64/\0<l.length/\kI (raR l)/\Mst (raR l) 3:=by
 unfold qid at h;split at h
 ·rename_i h1;split at h
  ·omega
  ·rename_i h2;unfold qg at h2;obtain⟨q1,q2⟩:=qDN h1;refine⟨h1,q1,by omega,⟨by rw[qis];exact q1,fun i hi=>?_⟩,.inr ⟨rfl,fun k hk=>?_⟩⟩
   ·rw[qis] at hi;obtain⟨e1,e2,e3⟩:=qDE hi;obtain⟨k1,k2⟩:=q2 i hi;unfold qJs;rw[e1,e2,e3];exact⟨k1,k2,by unfold co;omega⟩
   ·rw[qis] at hk;obtain⟨e1,e2,e3⟩:=qDE hk;show ((cI (raR l) (k:Int) 2:Int):Rat)=0;rw[e3];rfl
 ·rename_i h1;exact absurd h h1
end Go.Eng

namespace Go.Eng
variable {L:List Nat}{l:R}{n:Nat}
noncomputable def tBl(l:R):Nat->Rat:=Classical.epsilon fun t=>Bl (l.length-1) (pV l) t
noncomputable def cBl(l:R):V3:=cen (l.length-1+1) (wts (tBl l) (l.length-1)) (pV l)
noncomputable def sBl(l:R):Rat:=d2 (cBl l) (pV l 0)
theorem qvb (h:kI l)(hl:l.length=n+1)(hn:n<=3) :(CB (cBl l)/\(∃wl,(zS [.r l]).run=some (0,[.s (tQ (cBl l).x),.s (tQ (cBl l).y),.s (tQ (cBl l).z),.s (tQ (sBl l)),.r wl,.b true,.i 0])) /\(zq [.r l]).run=some (0,[.s (tQ (cBl l).x),.s (tQ (cBl l).y),.s (tQ (cBl l).z),.s (tQ (sBl l)),.b true])) \/(¬Ind (n+1) (pV l)/\(zS [.r l]).run=some (0,[.s [],.s [],.s [],.s [],.r [],.b false,.i 0])/\(zq [.r l]).run=some (0,[.s [],.s [],.s [],.s [],.b false])):=by
 have el:l.length-1=n:=by omega
 rcases qr9 h hl hn with⟨t,h1,h2,h3,h4⟩|⟨h1,h4⟩
 ·rcases qdF h hl hn with⟨t',g1,g4⟩|⟨g1,g4⟩
  ·left;have sp:Bl (l.length-1) (pV l) (tBl l):=Classical.epsilon_spec (p:=fun t=>Bl (l.length-1) (pV l) t) ⟨t,by rw[el];exact h1⟩;rw[el] at sp;have e1:cen (n+1) (wts t n) (pV l)=cBl l:=by unfold cBl;rw[el];exact q6U (qau h1 sp)
   have e2:cen (n+1) (wts t' n) (pV l)=cBl l:=by unfold cBl;rw[el];exact q6U (qau g1 sp)
   rw[e1] at h3 h4;rw[e2] at g4;exact⟨h3,⟨_,h4⟩,g4⟩
  ·exact absurd h1.ind g1
 ·rcases qdF h hl hn with⟨t',g1,g4⟩|⟨g1,g4⟩
  ·exact absurd g1.ind h1
  ·right;exact⟨h1,h4,g4⟩
theorem qom {m:Int}(h:m<qg l):(zk [.r l,.i m]).run=some (0,[.s [],.s [],.s [],.s [],.r [],.i 5]):=by rw[u4];simp only[STD,h]
theorem qGv (l:R):∃a b c e,(zT [.r l]).run=some (0,[.s a,.s b,.s c,.i e])/\(q41 [.r l]).run=some (0,[.s a,.s b,.s c,.i e]):=by
 rw[qfr,qs6];by_cases h0:qid l=0
 ·obtain⟨h1,h2,h3,h4,h5⟩:=qfe h0;have lx:qg l=(l.length:Int):=rfl;have lr:qg (raR l)=(l.length:Int):=by unfold qg;rw[qis]
  by_cases hm:3<l.length
  ·refine⟨[],[],[],5,?_,?_⟩
   ·simp only[STD,yK,h0,qjT h2,qom (l:=raR l) (m:=3) (by rw[lr];omega)];rw[if_pos (by decide)]
   ·simp only[STD,q5M,h0,lx,show (3:Int)<l.length by omega]
  ·obtain⟨n,hn⟩:∃n,l.length=n+1:=⟨l.length-1,by omega⟩;rcases qvb h4 (n:=n) (by rw[qis];exact hn) (by omega) with⟨_,⟨wl,k1⟩,k2⟩|⟨_,k1,k2⟩
   ·have ku:(zk [.r (raR l),.i 3]).run=some (0,[.s (tQ (cBl (raR l)).x),.s (tQ (cBl (raR l)).y),.s (tQ (cBl (raR l)).z),.s (tQ (sBl (raR l))),.r wl,.i 0]):=by rw[u4];simp only[STD,lr,k1,show ¬(3:Int)<l.length by omega]
    refine⟨tQ (cBl (raR l)).x,tQ (cBl (raR l)).y,tQ (sBl (raR l)),0,?_,?_⟩
    ·simp only[STD,yK,h0,qjT h2,ku,q0F]
    ·simp only[STD,q5M,h0,lx,qeq h2,k2,show ¬(3:Int)<l.length by omega]
   ·have ku:(zk [.r (raR l),.i 3]).run=some (0,[.s [],.s [],.s [],.s [],.r [],.i 10]):=by rw[u4];simp only[STD,lr,k1,show ¬(3:Int)<l.length by omega]
    refine⟨[],[],[],10,?_,?_⟩
    ·simp only[STD,yK,h0,qjT h2,ku];rw[if_pos (by decide)]
    ·simp only[STD,q5M,h0,lx,qeq h2,k2,show ¬(3:Int)<l.length by omega]
 ·refine⟨[],[],[],qid l,?_,?_⟩
  ·simp only[STD,yK,h0]
  ·simp only[STD,q5M,h0]
theorem qwL (l:R):∃a b c d e,(jI [.r l]).run=some (0,[.s a,.s b,.s c,.s d,.i e])/\(uo [.r l]).run=some (0,[.s a,.s b,.s c,.s d,.i e]):=by
 rw[qi5,qkt];by_cases h0:qmm l=0
 ·obtain⟨h4,h3⟩:=qoJ h0;have lx:qg l=(l.length:Int):=rfl;by_cases hm:4<l.length
  ·refine⟨[],[],[],[],5,?_,?_⟩
   ·simp only[STD,q1A,h0,qom (l:=l) (m:=4) (by rw[lx];omega)];rw[if_pos (by decide)]
   ·simp only[STD,q5L,h0,lx,show (4:Int)<l.length by omega]
  ·obtain⟨n,hn⟩:∃n,l.length=n+1:=⟨l.length-1,by omega⟩;rcases qvb h4 hn (by omega) with⟨_,⟨wl,k1⟩,k2⟩|⟨_,k1,k2⟩
   ·have ku:(zk [.r l,.i 4]).run=some (0,[.s (tQ (cBl l).x),.s (tQ (cBl l).y),.s (tQ (cBl l).z),.s (tQ (sBl l)),.r wl,.i 0]):=by rw[u4];simp only[STD,lx,k1,show ¬(4:Int)<l.length by omega]
    refine⟨tQ (cBl l).x,tQ (cBl l).y,tQ (cBl l).z,tQ (sBl l),0,?_,?_⟩
    ·simp only[STD,q1A,h0,ku]
    ·simp only[STD,q5L,h0,lx,k2,show ¬(4:Int)<l.length by omega]
   ·have ku:(zk [.r l,.i 4]).run=some (0,[.s [],.s [],.s [],.s [],.r [],.i 10]):=by rw[u4];simp only[STD,lx,k1,show ¬(4:Int)<l.length by omega]
    refine⟨[],[],[],[],10,?_,?_⟩
    ·simp only[STD,q1A,h0,ku];rw[if_pos (by decide)]
    ·simp only[STD,q5L,h0,lx,k2,show ¬(4:Int)<l.length by omega]
 ·refine⟨[],[],[],[],qmm l,?_,?_⟩
  ·simp only[STD,q1A,h0]
  ·simp only[STD,q5L,h0]
theorem qI1 (hs:kI l)(hL:L.length=n+1)(hn:n<=3)(hlt:∀k,k∈L->k<l.length)(h:uh l L=true) :(zq [.r (chR l L)]).run=some (0,[.s (tQ (cO l L).x),.s (tQ (cO l L).y),.s (tQ (cO l L).z),.s (tQ (sO l L)),.b true]):=by
 have sp:=qtf hs (show L.length<=64 by omega) hlt;have hl:(chR l L).length=n+1:=by rw[qiw];exact hL
 have eL:L.length-1=n:=by omega
 have st:=qvX h;rw[eL] at st;rcases qdF sp hl hn with⟨t,h1,h4⟩|⟨h1,h4⟩
 ·rw[qyE] at h1 h4;have e:=q6U (c:=fun j=>pV l (Lf l L j)) (qau h1 st.1);rw[e] at h4;have ec:cO l L=cen (n+1) (wts (tO l L) n) fun j=>pV l (Lf l L j):=by unfold cO;rw[eL]
  unfold sO;rw[ec];exact h4
 ·rw[qyE] at h1;exact absurd st.1.ind h1
structure LO (l:R) (m:Nat) (L:List Nat) (n:Nat):Prop where
 first:qhH (uh l) l.length 1 m=some L
 len:L.length=n+1
 most:n<m
 three:n<=3
 lt:∀a,a∈L->a<l.length
 asc:L.Pairwise (·<·)
 supp:uh l L=true
 cb:CB (cO l L)
 sup:Sup l.length (pV l) (n+1) (Lf l L) (wts (tO l L) n) (sO l L)
 cen:cO l L=Go.Eng.cen (n+1) (wts (tO l L) n) fun j=>pV l (Lf l L j)
theorem qLu (hL:L.length=n+1)(hlt:∀a,a∈L->a<l.length){j:Nat}(hj:j<n+1):Lf l L j<l.length:=by unfold Lf;rw[qMf,qMl (show j<L.length by omega)];exact hlt _ (qMT _)
theorem qBf (hs:kI l)(hl:0<l.length){m:Nat}(hm:Mst l m):∃L n,LO l m L n:=by
 obtain⟨L,n,h1,h2,h3,h4,h5,h6,t,ht⟩:=qCp hl hm;have eL:L.length-1=n:=by omega
 have sb:uh l L=true:=qfp.2 ⟨t,by rw[eL];exact ht⟩;have st:=qvX sb;rw[eL] at st;have ec:cO l L=cen (n+1) (wts (tO l L) n) fun j=>pV l (Lf l L j):=by unfold cO;rw[eL]
 have su:=qvF st (fun j hj=>qLu h2 h5 hj) (by have:=qHj h6 l.length;rw[h2] at this;exact this);rw[<-ec] at su;exact⟨L,n,h1,h2,h3,h4,h5,h6,sb,(qrr hs h2 h4 h5 sb).1,su,ec⟩
theorem qvr (h0:qid l=0):∃L n,LO (raR l) 3 L n /\(zV [.r l]).run=some (0,[.s (tQ (cO (raR l) L).x),.s (tQ (cO (raR l) L).y),.s (tQ (sO (raR l) L)),.r (rN L),.i 0]):=by obtain⟨h1,h2,h3,h4,h5⟩:=qfe h0;obtain⟨L,n,lo⟩:=qBf h4 (by rw[qis];exact h3) h5;have r1:(vM [.r (raR l),.i 3]).run=_:=qFu h4 (m:=3) (by omega) lo.first;refine⟨L,n,lo,?_⟩;rw[qfu];simp only[STD,yK,h0,qjT h2,r1,q0F]
theorem qCu (h0:qid l=0)(lo:LO (raR l) 3 L n) :(q1t [.r l]).run=some (0,[.s (tQ (cO (raR l) L).x),.s (tQ (cO (raR l) L).y),.s (tQ (sO (raR l) L)),.r (rN L),.i 0]):=by obtain⟨h1,h2,h3,h4,h5⟩:=qfe h0;have r2:(yC [.r (raR l),.i 3]).run=_:=qDr h4 (m:=3) (by omega) lo.first;have r3:=qf4 (l:=raR l) (L:=L) (by have:=lo.len;have:=lo.three;omega) lo.lt;have r4:=qI1 h4 lo.len lo.three lo.lt lo.supp;rw[qiL];simp only[STD,q5M,h0,qeq h2,r2,r3,r4]
theorem qyc (h0:qid l≠0):(zV [.r l]).run=some (0,[.s [],.s [],.s [],.r [],.i (qid l)])/\(q1t [.r l]).run=some (0,[.s [],.s [],.s [],.r [],.i (qid l)]):=by
 rw[qfu,qiL];constructor
 ·simp only[STD,yK,h0]
 ·simp only[STD,q5M,h0]
theorem qv3 (h0:qmm l=0):∃L n,LO l 4 L n /\(zX [.r l]).run=some (0,[.s (tQ (cO l L).x),.s (tQ (cO l L).y),.s (tQ (cO l L).z),.s (tQ (sO l L)),.r (rN L),.i 0]):=by obtain⟨h4,h3⟩:=qoJ h0;obtain⟨L,n,lo⟩:=qBf h4 h3 (m:=4) (.inl rfl);have r1:(vM [.r l,.i 4]).run=_:=qFu h4 (m:=4) (by omega) lo.first;refine⟨L,n,lo,?_⟩;rw[qfg];simp only[STD,q1A,h0,r1]
theorem qDg (h0:qmm l=0)(lo:LO l 4 L n) :(q1s [.r l]).run=some (0,[.s (tQ (cO l L).x),.s (tQ (cO l L).y),.s (tQ (cO l L).z),.s (tQ (sO l L)),.r (rN L),.i 0]):=by obtain⟨h4,h3⟩:=qoJ h0;have r2:(yC [.r l,.i 4]).run=_:=qDr h4 (m:=4) (by omega) lo.first;have r3:=qf4 (l:=l) (L:=L) (by have:=lo.len;have:=lo.three;omega) lo.lt;have r4:=qI1 h4 lo.len lo.three lo.lt lo.supp;rw[qix];simp only[STD,q5L,h0,r2,r3,r4]
theorem qz3 (h0:qmm l≠0):(zX [.r l]).run=some (0,[.s [],.s [],.s [],.s [],.r [],.i (qmm l)])/\(q1s [.r l]).run=some (0,[.s [],.s [],.s [],.s [],.r [],.i (qmm l)]):=by
 rw[qfg,qix];constructor
 ·simp only[STD,q1A,h0]
 ·simp only[STD,q5L,h0]
end Go.Eng

namespace Go.Eng
theorem qjZ{y:R}(hy:y.length<9223372036854775808):(yf [.r y,.r y]).run=some (0,[.b true]):=by
 have key:=qA (S:=jP) (fun i=>[.r y,.r y,.i (i:Int)]) (0,[]) y.length hy (fun i hi=>by
  rw[qcj];simp only[STD,qvo hi,qbZ,and_self,jJ hi hy]) (by
  rw[qcj];simp only[STD,qoF])
 have key':(qf jP [.r y,.r y,.i 0]).run=_:=key;rw[qoY];simp only[STD,key',zw key']
theorem qts{y:R}(hy:y.length<9223372036854775808):(wB [.r y,.r y]).run=some (0,[.b true]):=by
 have key:=qA (S:=zI) (fun i=>[.r y,.r y,.i (qg y),.i (i:Int)]) (0,[]) y.length hy (fun i hi=>by
  rw[q3R];simp only[STD,qvo hi,qbZ,and_self,jJ hi hy]) (by
  rw[q3R];simp only[STD,qoF])
 have key':(qf zI [.r y,.r y,.i (qg y),.i 0]).run=_:=key;rw[qh8];simp only[STD,key',zw key']
noncomputable def qJM:List Bs->List Bs->Bool
 | [],[]=>true
 | a::l,b::m=>decide (a=b)&&qJM l m
 | _,_=>false
theorem qy9:∀(a b pa pb:List Bs),a.length=b.length->pa.length=pb.length ->
  qcX (fun i=>if (pa++a).getD i []=(pb++b).getD i [] then none else some ((1:Nat),[PV.b false])) pa.length a.length=if qJM a b=true then none else some (1,[.b false])
 | [],[],pa,pb,_,_=>rfl
 | x::a,y::b,pa,pb,h,hp=>by
  have ex:(pa++x::a).getD pa.length []=x:=by rw[qMf,qMv (qMg _),qMS];rfl
  have ey:(pb++y::b).getD pa.length []=y:=by rw[hp,qMf,qMv (qMg _),qMS];rfl
  have ih:=qy9 a b (pa++[x]) (pb++[y]) (by simpa using h) (by simp[hp]);rw[qMK,qMK,qMz] at ih;rw[qMH];simp only[qcX];rw[ex,ey];unfold qJM;by_cases hxy:x=y
  ·subst hxy;rw[if_pos rfl];simp only[decide_true,Bool.true_and];exact ih
  ·rw[if_neg hxy];simp[hxy]
 | [],_::_,_,_,h,_=>by simp at h
 | _::_,[],_,_,h,_=>by simp at h
theorem qKw(a b:Bs):seq a b=decide (a=b):=by unfold seq;first|rfl|(by_cases h:a=b<;>simp[h])
theorem qFf{a b:List Bs}(h:a.length=b.length)(ha:a.length<=1000):(z8 [.r (txR a),.r (txR b)]).run=some (0,[.b (qJM a b)]):=by
 have ra:qg (txR a)=(a.length:Int):=by unfold txR qg;rw[qMm]
 have rb:qg (txR b)=(a.length:Int):=by unfold txR qg;rw[qMm,h]
 have ga:∀(l:List Bs) (i:Nat),i<l.length->cS (txR l) (i:Int) 0=l.getD i []:=fun l i hi=>by
  have e:(txR l).getD ((i:Int).toNat) []=[U.s (l.getD i [])]:=by unfold txR;rw[qMp,qMf,qMo,qMf,qMl hi];rfl
  unfold cS zH;rw[e];rfl
 have key:=q0h (S:=qM) (fun i=>[.r (txR a),.r (txR b),.i (a.length:Int),.i (i:Int)]) (fun i=>if a.getD i []=b.getD i [] then none else some (1,[.b false])) (0,[]) a.length (by omega) (fun i hi hf=>by
  have e:a.getD i []=b.getD i []:=qNY fun hne=>by rw[if_neg hne] at hf;cases hf
  rw[vA];simp only[STD,qKw,ra,rb,ga a i hi,ga b i (by omega),e,jJ hi (show a.length<9223372036854775808 by omega),show (i:Int)<a.length by omega,show (0:Int)<=i by omega,and_self]) (fun i r hi hf=>by
  have e:¬a.getD i []=b.getD i []:=fun he=>by rw[if_pos he] at hf;cases hf
  rw[if_neg e] at hf;cases hf;rw[vA];simp only[STD,qKw,ra,rb,ga a i hi,ga b i (by omega),e,show (i:Int)<a.length by omega,show (0:Int)<=i by omega,and_self]) (by
  rw[vA];simp only[STD,show ¬(a.length:Int)<a.length by omega])
 have e:=qy9 a b [] [] h rfl;simp only[qNv,qMU] at e;rw[e] at key;rw[q7P];cases hb:qJM a b with
 | true=>
  rw[hb] at key;have key':(qf qM [.r (txR a),.r (txR b),.i (a.length:Int),.i 0]).run=some (0,[]):=key;simp only[STD,ra,rb,key',zw key']
 | false=>
  rw[hb] at key;have key':(qf qM [.r (txR a),.r (txR b),.i (a.length:Int),.i 0]).run=some (1,[.b false]):=key;simp only[STD,ra,rb,key',zw key'];rw[if_neg (by decide)]
noncomputable def shN(s:qMd):Prop:=(spn s).length<=30/\(spd s).length<=30
noncomputable instance (s:qMd):Decidable (shN s):=by unfold shN;infer_instance
variable {i:Nat}
theorem qyD {S:List PV->TR}(st:Nat->List PV)(e:Nat->Int)(fin:List PV)(n:Nat)(hn:n<9223372036854775808)(h:∀i,i<n->(S (st i)).run=if e i=0 then some (0,st (i+1)) else some (2,[.b false,.i (e i)])) (h3:(S (st n)).run=some (1,fin)) :(qf S (st 0)).run=some (if q1n e n=0 then (0,fin) else (1,[.b false,.i (q1n e n)])):=by
 have key:=q0h st (fun i=>(qmx e i).map fun x=>(1,[PV.b false,PV.i x])) (0,fin) n hn (fun i hi hf=>by
  rw[h i hi];unfold qmx at hf;split at hf
  ·rename_i h0;rw[if_pos h0]
  ·simp at hf) (fun i r hi hf=>by
  rw[h i hi];unfold qmx at hf;split at hf
  ·simp at hf
  ·rename_i h0;simp at hf;rw[if_neg h0,<-hf]) h3
 rw[key,qvV];unfold q1n;cases hs:qcX (qmx e) 0 n with
 | none=>simp
 | some x=>simp[qrh hs]
noncomputable def qJn(cl:List Bs):Int:=q1n (fun i=>qJG (cl.getD i [])) cl.length
theorem qI0 {l:List Bs}(hi:i<l.length):cS (txR l) (i:Int) 0=l.getD i []:=by
 have e:(txR l).getD ((i:Int).toNat) []=[U.s (l.getD i [])]:=by unfold txR;rw[qMp,qMf,qMo,qMf,qMl hi];rfl
 unfold cS zH;rw[e];rfl
theorem qGy {l:List Bs}(hi:i<l.length):l.getD i []∈l:=by rw[qMf,qMl hi];exact qMT _
theorem qKl {cl:List Bs}(h:∀s,s∈cl->s.length<=100000000)(hc:cl.length<=1000)(l y:R)(m:Int) :(qf vV [.r l,.r (txR cl),.r y,.i m,.r (txR cl),.i (qg (txR cl)),.i 0]).run=some (if qJn cl=0 then (0,[.r l,.r (txR cl),.r y,.i m]) else (1,[.b false,.i (qJn cl)])):=by
 rw[qgJ];have key:=qyD (S:=vV) (fun i=>[.r l,.r (txR cl),.r y,.i m,.r (txR cl),.i (cl.length:Int),.i (i:Int)]) (fun i=>qJG (cl.getD i [])) [.r l,.r (txR cl),.r y,.i m] cl.length (by omega) (fun i hi=>by
  have r0:=qmN _ (h _ (qGy hi));rw[q9c];by_cases he:qJG (cl.getD i [])=0
  ·rw[he] at r0;simp only[STD,qgJ,qI0 hi,r0,he,jJ hi (show cl.length<9223372036854775808 by omega),show (i:Int)<cl.length by omega,show (0:Int)<=i by omega,and_self]
  ·simp only[STD,qgJ,qI0 hi,r0,he,show (i:Int)<cl.length by omega,show (0:Int)<=i by omega,and_self]) (by
  rw[q9c];simp only[STD,show ¬(cl.length:Int)<cl.length by omega])
 exact key
noncomputable def qHM(n:Nat)(y:R)(i:Nat):Int:=if cI y i 0<0 then 2 else if (n:Int)<=cI y i 0 then 2 else if 0<i then (if cI y i 0<=cI y ((i-1:Nat):Int) 0 then 9 else 0) else 0
theorem qK7 (h:0<i)(hi:i<9223372036854775808):wW .i64 (i:Int) 1=((i-1:Nat):Int):=by rw[wj ⟨by omega,by omega⟩];omega
theorem qJ6 {l y:R}(hy:y.length<1000000)(cl:R)(m:Int) :(qf wZ [.r l,.r cl,.r y,.i m,.r y,.i (qg y),.i 0]).run=some (if q1n (qHM l.length y) y.length=0 then (0,[.r l,.r cl,.r y,.i m]) else (1,[.b false,.i (q1n (qHM l.length y) y.length)])):=by
 have lx:qg l=(l.length:Int):=rfl;have ly:qg y=(y.length:Int):=rfl;rw[ly];have key:=qyD (S:=wZ) (fun i=>[.r l,.r cl,.r y,.i m,.r y,.i (y.length:Int),.i (i:Int)]) (qHM l.length y) [.r l,.r cl,.r y,.i m] y.length (by omega) (fun i hi=>by
  have w:=jJ hi (show y.length<9223372036854775808 by omega);rw[q7z];unfold qHM;by_cases h1:cI y i 0<0
  ·simp only[STD,lx,ly,h1,show (i:Int)<y.length by omega,show (0:Int)<=i by omega,and_self];rw[if_neg (by decide)]
  ·by_cases h2:(l.length:Int)<=cI y i 0
   ·simp only[STD,lx,ly,h1,h2,show (i:Int)<y.length by omega,show (0:Int)<=i by omega,and_self];rw[if_neg (by decide)]
   ·by_cases h3:0<i
    ·by_cases h4:cI y i 0<=cI y ((i-1:Nat):Int) 0
     ·simp only[STD,lx,ly,h1,h2,h3,h4,qK7 h3 (show i<9223372036854775808 by omega),show (0:Int)<i by omega,show (i:Int)<y.length by omega,show (0:Int)<=i by omega,show ((i-1:Nat):Int)<y.length by omega,show (0:Int)<=((i-1:Nat):Int) by omega,and_self];rw[if_neg (by decide)]
     ·simp only[STD,lx,ly,h1,h2,h3,h4,w,qK7 h3 (show i<9223372036854775808 by omega),show (0:Int)<i by omega,show (i:Int)<y.length by omega,show (0:Int)<=i by omega,show ((i-1:Nat):Int)<y.length by omega,show (0:Int)<=((i-1:Nat):Int) by omega,and_self]
    ·simp only[STD,lx,ly,h1,h2,h3,w,show ¬(0:Int)<i by omega,show (i:Int)<y.length by omega,show (0:Int)<=i by omega,and_self]) (by
  rw[q7z];simp only[STD,show ¬(y.length:Int)<y.length by omega])
 exact key
theorem qzV {n:Nat}{ys:List Int}(h:q1n (qHM n (rI ys)) ys.length=0):∃L:List Nat,rI ys=rN L/\L.length=ys.length/\(∀a,a∈L->a<n)/\L.Pairwise (·<·):=by
 have hi:∀i,i<ys.length->0<=ys.getD i 0/\ys.getD i 0<n/\(0<i->ys.getD (i-1) 0<ys.getD i 0):=fun i hi=>by
  have e:=qmg h i hi;unfold qHM at e;rw[qzU,qzU,qMp,qMp] at e;split at e
  ·omega
  ·split at e
   ·omega
   ·split at e
    ·split at e
     ·omega
     ·refine⟨by omega,by omega,fun _=>by omega⟩
    ·refine⟨by omega,by omega,fun _=>by omega⟩
 have hg:∀i (hi:i<ys.length),ys.getD i 0=ys[i]:=fun i hi=>by rw[qMf,qMl hi];rfl
 refine⟨ys.map Int.toNat,?_,by rw[qMm],fun a ha=>?_,?_⟩
 ·unfold rN;congr 1;rw[List.map_map];apply List.ext_getElem
  ·rw[qMm]
  ·intro i h1 h2;rw[qOm];have:=(hi i h1).1;rw[hg i h1] at this;show ys[i]=((ys[i].toNat:Nat):Int);omega
 ·obtain⟨v,hv,rfl⟩:=qN3.1 ha;obtain⟨i,h1,rfl⟩:=List.mem_iff_getElem.1 hv;have:=hi i h1;rw[hg i h1] at this;omega
 ·rw[List.pairwise_iff_getElem];have mono:∀d i,i+d+1<ys.length->ys.getD i 0<ys.getD (i+d+1) 0:=by
   intro d;induction d with
   | zero=>intro i h1;exact(hi (i+1) h1).2.2 (by omega)
   | succ d ih=>
    intro i h1;have a:=ih i (by omega);have b:=(hi (i+(d+1)+1) h1).2.2 (by omega);have e:i+(d+1)+1-1=i+d+1:=by omega
    rw[e] at b;omega
  intro i j h1 h2 hij;rw[qMm] at h1 h2;rw[qOm,qOm];have a:=mono (j-i-1) i (by omega);have e:i+(j-i-1)+1=j:=by omega
  rw[e,hg i h1,hg j h2] at a;have b:=(hi i h1).1;rw[hg i h1] at b;omega
end Go.Eng

namespace Go.Eng
noncomputable def clE(n:Nat)(cl:List Bs)(y:R)(m:Int):Int:=if qJn cl=0 then (if qg y=0 then 13 else if m<qg y then 5 else q1n (qHM n y) y.length) else qJn cl
theorem qGF{n:Nat}{cl:List Bs}{ys:List Int}{m:Nat}(hm:m<=4)(h:clE n cl (rI ys) m=0):qJn cl=0/\q1n (qHM n (rI ys)) (rI ys).length=0/\¬qg (rI ys)=0/\¬(m:Int)<qg (rI ys) /\∃(L:List Nat) (q:Nat),rI ys=rN L/\L.length=q+1/\q<=3/\q<m/\(∀a,a∈L->a<n)/\L.Pairwise (·<·):=by
 unfold clE at h;split at h
 ·rename_i h0;split at h
  ·omega
  ·rename_i h1;split at h
   ·omega
   ·rename_i h2;have h':=h;rw[qjJ] at h';obtain⟨L,e1,e2,e3,e4⟩:=qzV h';rw[qd6] at h1 h2;exact⟨h0,h,by rw[qd6];exact h1,by rw[qd6];exact h2,L,L.length-1,e1,by omega,by omega,by omega,e3,e4⟩
 ·rename_i h0;exact absurd h h0
theorem qGb{l:R}(hs:kI l){a b c:Bs}(h:∀s,s∈[a,b,c]->s.length<=100000000){ys:List Int}(hy:ys.length<1000000)(he:clE l.length [a,b,c] (rI ys) 3=0) :∃L q,rI ys=rN L/\L.length=q+1/\q<=3/\q<3/\(∀a,a∈L->a<l.length)/\L.Pairwise (·<·) /\(jO [.r l,.r (txR [a,b,c]),.r (rI ys),.i 3]).run=some (0,[.b (uh l L&&qJM [tQ (cO l L).x,tQ (cO l L).y,tQ (sO l L)] [a,b,c]),.i 0]):=by
 obtain⟨h0,h1,h2,h3,L,q,e1,e2,e3,e4,e5,e6⟩:=qGF (m:=3) (by omega) he;refine⟨L,q,e1,e2,e3,e4,e5,e6,?_⟩;have r0:=qKl h (by simp) l (rI ys) 3;have r1:=qJ6 (l:=l) (y:=rI ys) (by rw[qjJ];exact hy) (txR [a,b,c]) 3;rw[if_pos h0] at r0;rw[if_pos h1] at r1;have w:wW .i64 3 1=2:=by decide
 rw[qmn];rw[e1] at r0 r1 h2 h3 ⊢;cases hb:uh l L with
 | false=>
  obtain⟨s1,s2,s3,s4,wl,r2⟩:=qBL hs e2 e3 e5 hb;simp only[STD,r0,zw r0,r1,zw r1,h2,show ¬(3:Int)<qg (rN L) from h3,r2,Bool.false_and]
 | true=>
  obtain⟨_,r2⟩:=qrr hs e2 e3 e5 hb;have r3:(z8 [.r (zR (qxn [[.s (tQ (cO l L).x)],[.s (tQ (cO l L).y)],[.s (tQ (cO l L).z)]] 0 2) [[.s (cS [[.s (tQ (cO l L).x),.s (tQ (cO l L).y),.s (tQ (cO l L).z),.s (tQ (sO l L)),.l (wO l L)]] 0 3)]]),.r (txR [a,b,c])]).run=_:=
   qFf (a:=[tQ (cO l L).x,tQ (cO l L).y,tQ (sO l L)]) (b:=[a,b,c]) rfl (by simp)
  have e8:qg (qxn [[U.s (tQ (cO l L).x)],[.s (tQ (cO l L).y)],[.s (tQ (cO l L).z)]] 0 2)=2:=rfl;have e9:∀x:U,qg [[x]]=1:=fun _=>rfl;simp only[STD,r0,zw r0,r1,zw r1,h2,show ¬(3:Int)<qg (rN L) from h3,r2,w,e8,e9,r3,show (0:Int)<=2 by omega,show (2:Int)<=3 by omega,show (0:Int)<=0 by omega,show (0:Int)<1 by omega,show (2:Int)+1<=8796093022208 by omega,and_self,Bool.true_and]
variable {n:Nat}
noncomputable def E1:R:=[[.i 0,.i 0],[.i 4,.i 0],[.i 0,.i 2]]
noncomputable def E2:R:=[[.i 0,.i 0],[.i 6,.i 0],[.i 3,.i 5]]
noncomputable def E3:R:=[[.i 0,.i 0,.i 0],[.i 2,.i 0,.i 0],[.i 0,.i 2,.i 0],[.i 0,.i 0,.i 2]]
noncomputable def E4:R:=[[.i 0,.i 0],[.i 6,.i 0],[.i 3,.i 1]]
theorem qJc:qid E1=0:=by decide
theorem qJv:qid E2=0:=by decide
theorem qIE:qmm E3=0:=by decide
theorem qEI:qid E4=0:=by decide
theorem qFc {c:Nat->V3}{t:Nat->Rat}{a b d:Rat}(h1:qqo c 0 0=a)(h2:qqo c 0 1=b)(h3:qqo c 1 0=b)(h4:qqo c 1 1=d)(hdet:a*d-b*b≠0)(e1:a*t 0+b*t 1=d2 (c 0) (c 1)) (e2:b*t 0+d*t 1=d2 (c 0) (c 2)):Bl 2 c t:=by
 refine⟨q7Y.2 fun u hu=>?_,fun i hi=>?_⟩
 ·have q1:=hu 0 (by omega);have q2:=hu 1 (by omega);simp only[su,h1,h2,h3,h4] at q1 q2;have z0:u 0*(a*d-b*b)=0:=by grind
  have z1:u 1*(a*d-b*b)=0:=by grind
  intro j hj;rcases (show j=0\/j=1 by omega) with rfl|rfl
  ·rcases Rat.mul_eq_zero.1 z0 with h|h
   ·exact h
   ·exact absurd h hdet
  ·rcases Rat.mul_eq_zero.1 z1 with h|h
   ·exact h
   ·exact absurd h hdet
 ·rcases (show i=0\/i=1 by omega) with rfl|rfl
  ·simp only[su,h1,h2];grind
  ·simp only[su,h3,h4];grind
theorem qK6 {c:Nat->V3}{t:Nat->Rat}{a:Rat}(h1:qqo c 0 0=a)(ha:a≠0)(e1:a*t 0=d2 (c 0) (c 1)):Bl 1 c t:=by
 refine⟨q7Y.2 fun u hu=>?_,fun i hi=>?_⟩
 ·have q1:=hu 0 (by omega);simp only[su,h1] at q1;intro j hj;have:j=0:=by omega
  subst this;have z:a*u 0=0:=by grind
  rcases Rat.mul_eq_zero.1 z with h|h
  ·exact absurd h ha
  ·exact h
 ·have:i=0:=by omega
  subst this;simp only[su,h1];grind
theorem qp5 {p:Nat->V3}{q:Nat}{L:Nat->Nat}{u:Nat->Rat}{s:Rat}(h:Sup n p q L u s){α β γ δ:Rat}(hz:∀j,j<q->α*(p (L j)).x+β*(p (L j)).y+γ*(p (L j)).z+δ=0) :α*(cen q u fun j=>p (L j)).x+β*(cen q u fun j=>p (L j)).y+γ*(cen q u fun j=>p (L j)).z+δ=0:=by
 have e:su q (fun j=>u j*(α*(p (L j)).x+β*(p (L j)).y+γ*(p (L j)).z+δ))=0:=by rw[ql (g:=fun _=>0) fun j hj=>by rw[hz j hj];grind,q8l]
 have e2:su q (fun j=>u j*(α*(p (L j)).x+β*(p (L j)).y+γ*(p (L j)).z+δ))=α*su q (fun j=>u j*(p (L j)).x)+β*su q (fun j=>u j*(p (L j)).y)+γ*su q (fun j=>u j*(p (L j)).z)+δ*su q u:=by rw[<-zK,<-zK,<-zK,<-zK,<-q25,<-q25,<-q25];exact ql fun j _=>by grind
 rw[h.one] at e2;show α*su q (fun j=>u j*(p (L j)).x)+β*su q (fun j=>u j*(p (L j)).y)+γ*su q (fun j=>u j*(p (L j)).z)+δ=0;grind
theorem qyn {l:R}(h0:qid l=0)(hl:l.length=n+1)(hn:n<=2){t:Nat->Rat}(ht:Bl n (pV (raR l)) t) :(zT [.r l]).run=some (0,[.s (tQ (cen (n+1) (wts t n) (pV (raR l))).x),.s (tQ (cen (n+1) (wts t n) (pV (raR l))).y),.s (tQ (d2 (cen (n+1) (wts t n) (pV (raR l))) (pV (raR l) 0))),.i 0]):=by
 obtain⟨h1,h2,h3,h4,h5⟩:=qfe h0;have lr:qg (raR l)=(l.length:Int):=by unfold qg;rw[qis]
 rcases qr9 h4 (n:=n) (by rw[qis];exact hl) (by omega) with⟨t',g1,_,_,k1⟩|⟨g1,_⟩
 ·have e:=q6U (c:=pV (raR l)) (qau g1 ht);rw[e] at k1;have ku:(zk [.r (raR l),.i 3]).run=some (0,[.s (tQ (cen (n+1) (wts t n) (pV (raR l))).x),.s (tQ (cen (n+1) (wts t n) (pV (raR l))).y),.s (tQ (cen (n+1) (wts t n) (pV (raR l))).z),.s (tQ (d2 (cen (n+1) (wts t n) (pV (raR l))) (pV (raR l) 0))),.r (txR ((List.range (n+1)).map fun j=>tQ (wts t' n j))),.i 0]):=by rw[u4];simp only[STD,lr,k1,show ¬(3:Int)<l.length by omega]
  rw[qfr];simp only[STD,yK,h0,qjT h2,ku,q0F]
 ·exact absurd ht.ind g1
theorem qCw {l:R}{L:List Nat}(hL:L.length=n+1){t:Nat->Rat}(h:qxp (pV l) l.length n (Lf l L) t) :uh l L=true/\cO l L=cen (n+1) (wts t n) fun j=>pV l (Lf l L j):=by
 have eL:L.length-1=n:=by omega
 have sb:uh l L=true:=qfp.2 ⟨t,by rw[eL];exact h⟩;have st:=qvX sb;rw[eL] at st;refine⟨sb,?_⟩;unfold cO;rw[eL];exact q6U (qau st.1 h.1)
end Go.Eng

namespace Go.Eng
noncomputable def qJU(a b:Rat):Nat->Rat:=fun j=>if j=0 then a else b
theorem qG0:(zT [.r E1]).run=some (0,[.s [50],.s [49],.s [53],.i 0]):=by
 have bl:Bl 2 (pV (raR E1)) (qJU (1/2) (1/2)):=qFc (a:=32) (b:=0) (d:=8) (by decide +kernel) (by decide +kernel) (by decide +kernel) (by decide +kernel) (by decide +kernel) (by decide +kernel) (by decide +kernel);have r:=qyn qJc (n:=2) rfl (by omega) bl;have e1:tQ (cen (2+1) (wts (qJU (1/2) (1/2)) 2) (pV (raR E1))).x=[50]:=by decide +kernel
 have e2:tQ (cen (2+1) (wts (qJU (1/2) (1/2)) 2) (pV (raR E1))).y=[49]:=by decide +kernel
 have e3:tQ (d2 (cen (2+1) (wts (qJU (1/2) (1/2)) 2) (pV (raR E1))) (pV (raR E1) 0))=[53]:=by decide +kernel
 rw[e1,e2,e3] at r;exact r
noncomputable def T2:Nat->Rat:=qJU (17/50) (8/25)
theorem qHz:qxp (pV (raR E2)) (raR E2).length 2 (Lf (raR E2) [0,1,2]) T2:=by
 refine⟨qFc (a:=72) (b:=36) (d:=68) (by decide +kernel) (by decide +kernel) (by decide +kernel) (by decide +kernel) (by decide +kernel) (by decide +kernel) (by decide +kernel),?_,?_⟩
 ·decide +kernel
 ·decide +kernel
theorem qFi:cen (2+1) (wts T2 2) (fun j=>pV (raR E2) (Lf (raR E2) [0,1,2] j))=⟨3,8/5,0⟩:=by
 have h1:(cen (2+1) (wts T2 2) (fun j=>pV (raR E2) (Lf (raR E2) [0,1,2] j))).x=3:=by decide +kernel
 have h2:(cen (2+1) (wts T2 2) (fun j=>pV (raR E2) (Lf (raR E2) [0,1,2] j))).y=8/5:=by decide +kernel
 have h3:(cen (2+1) (wts T2 2) (fun j=>pV (raR E2) (Lf (raR E2) [0,1,2] j))).z=0:=by decide +kernel
 generalize cen (2+1) (wts T2 2) (fun j=>pV (raR E2) (Lf (raR E2) [0,1,2] j))=v at *;cases v;simp only at h1 h2 h3;rw[h1,h2,h3]
theorem qHV{l:R}{L:List Nat}{n:Nat}(hL:L.length=n+1){j:Nat}(hj:j<n+1):Lf l L j∈L:=by unfold Lf;rw[qMf,qMl (show j<L.length by omega)];exact qMT _
theorem qFZ:(zV [.r E2]).run=some (0,[.s [51],.s [56,47,53],.s [50,56,57,47,50,53],.r [[.i 0],[.i 1],[.i 2]],.i 0]):=by
  obtain⟨L,n,lo,r⟩:=qvr qJv;have sp:=qvF qHz (by decide) (by intro j k h1 h2;have:j=0/\k=1\/j=0/\k=2\/j=1/\k=2:=(by omega);rcases this with⟨rfl,rfl⟩|⟨rfl,rfl⟩|⟨rfl,rfl⟩<;>decide)
  obtain⟨us,uc⟩:=qB4 lo.sup sp;rw[<-lo.cen,qFi] at uc;rw[qFi] at us;have es:sO (raR E2) L=289/25:=by rw[us];decide +kernel
  have hlen:(raR E2).length=3:=rfl;have vals:∀k,k<3->(pV (raR E2) k=⟨0,0,0⟩/\k=0)\/(pV (raR E2) k=⟨6,0,0⟩/\k=1)\/(pV (raR E2) k=⟨3,5,0⟩/\k=2):=fun k hk=>by
    rcases (show k=0\/k=1\/k=2 by omega) with rfl|rfl|rfl
    · exact .inl ⟨rfl,rfl⟩
    · exact .inr (.inl ⟨rfl,rfl⟩)
    · exact .inr (.inr ⟨rfl,rfl⟩)
  have at_:∀j,j<n+1->(pV (raR E2) (Lf (raR E2) L j)=⟨0,0,0⟩/\0∈L)\/(pV (raR E2) (Lf (raR E2) L j)=⟨6,0,0⟩/\1∈L)\/(pV (raR E2) (Lf (raR E2) L j)=⟨3,5,0⟩/\2∈L):=fun j hj=>by
    have hm:=qHV (l:=raR E2) lo.len hj;rcases vals _ (lo.lt _ hm) with⟨h1,h2⟩|⟨h1,h2⟩|⟨h1,h2⟩
    · exact .inl ⟨h1,h2▸hm⟩
    · exact .inr (.inl ⟨h1,h2▸hm⟩)
    · exact .inr (.inr ⟨h1,h2▸hm⟩)
  have m0:0∈L:=qNY fun hn=>by
    have:=qp5 lo.sup (α:=-1/6) (β:=-1/10) (γ:=0) (δ:=1) fun j hj=>by
      rcases at_ j hj with⟨_,h⟩|⟨h,_⟩|⟨h,_⟩
      · exact absurd h hn
      · rw[h];decide +kernel
      · rw[h];decide +kernel
    rw[<-lo.cen,uc] at this;exact absurd this (by decide +kernel)
  have m1:1∈L:=qNY fun hn=>by
    have:=qp5 lo.sup (α:=1/6) (β:=-1/10) (γ:=0) (δ:=0) fun j hj=>by
      rcases at_ j hj with⟨h,_⟩|⟨_,h⟩|⟨h,_⟩
      · rw[h];decide +kernel
      · exact absurd h hn
      · rw[h];decide +kernel
    rw[<-lo.cen,uc] at this;exact absurd this (by decide +kernel)
  have m2:2∈L:=qNY fun hn=>by
    have:=qp5 lo.sup (α:=0) (β:=1) (γ:=0) (δ:=0) fun j hj=>by
      rcases at_ j hj with⟨h,_⟩|⟨h,_⟩|⟨_,h⟩
      · rw[h];decide +kernel
      · rw[h];decide +kernel
      · exact absurd h hn
    rw[<-lo.cen,uc] at this;exact absurd this (by decide +kernel)
  have eL:L=[0,1,2]:=by
    have hm:L∈lsN 3 (n+1):=qeS.2 ⟨lo.len,lo.lt,lo.asc⟩;have hn:=lo.most;rcases (show n=0\/n=1\/n=2 by omega) with rfl|rfl|rfl
    · exact(show ∀L,L∈lsN 3 1->0∈L->1∈L->2∈L->L=[0,1,2] by decide) L hm m0 m1 m2
    · exact(show ∀L,L∈lsN 3 2->0∈L->1∈L->2∈L->L=[0,1,2] by decide) L hm m0 m1 m2
    · exact(show ∀L,L∈lsN 3 3->0∈L->1∈L->2∈L->L=[0,1,2] by decide) L hm m0 m1 m2
  rw[uc,es,eL] at r;have e1:tQ 3=[51]:=by decide +kernel
  have e2:tQ (8/5)=[56,47,53]:=by decide +kernel
  have e3:tQ (289/25)=[50,56,57,47,50,53]:=by decide +kernel
  simp only[e1,e2,e3] at r;exact r
noncomputable def T3:Nat->Rat:=qJU (1/3) (1/3)
theorem qHB:qxp (pV E3) E3.length 2 (Lf E3 [1,2,3]) T3:=by
 refine⟨qFc (a:=16) (b:=8) (d:=16) (by decide +kernel) (by decide +kernel) (by decide +kernel) (by decide +kernel) (by decide +kernel) (by decide +kernel) (by decide +kernel),?_,?_⟩
 ·decide +kernel
 ·decide +kernel
theorem qFg:cen (2+1) (wts T3 2) (fun j=>pV E3 (Lf E3 [1,2,3] j))=⟨2/3,2/3,2/3⟩:=by
 have h1:(cen (2+1) (wts T3 2) (fun j=>pV E3 (Lf E3 [1,2,3] j))).x=2/3:=by decide +kernel
 have h2:(cen (2+1) (wts T3 2) (fun j=>pV E3 (Lf E3 [1,2,3] j))).y=2/3:=by decide +kernel
 have h3:(cen (2+1) (wts T3 2) (fun j=>pV E3 (Lf E3 [1,2,3] j))).z=2/3:=by decide +kernel
 generalize cen (2+1) (wts T3 2) (fun j=>pV E3 (Lf E3 [1,2,3] j))=v at *;cases v;simp only at h1 h2 h3;rw[h1,h2,h3]
theorem qEm:(zX [.r E3]).run=some (0,[.s [50,47,51],.s [50,47,51],.s [50,47,51],.s [56,47,51],.r [[.i 1],[.i 2],[.i 3]],.i 0]):=by
  obtain⟨L,n,lo,r⟩:=qv3 qIE;have sp:=qvF qHB (by decide) (by intro j k h1 h2;have:j=0/\k=1\/j=0/\k=2\/j=1/\k=2:=(by omega);rcases this with⟨rfl,rfl⟩|⟨rfl,rfl⟩|⟨rfl,rfl⟩<;>decide)
  obtain⟨us,uc⟩:=qB4 lo.sup sp;rw[<-lo.cen,qFg] at uc;rw[qFg] at us;have es:sO E3 L=8/3:=by rw[us];decide +kernel
  have vals:∀k,k<4->(pV E3 k=⟨0,0,0⟩/\k=0)\/(pV E3 k=⟨2,0,0⟩/\k=1)\/(pV E3 k=⟨0,2,0⟩/\k=2)\/(pV E3 k=⟨0,0,2⟩/\k=3):=fun k hk=>by
    rcases (show k=0\/k=1\/k=2\/k=3 by omega) with rfl|rfl|rfl|rfl
    · exact .inl ⟨rfl,rfl⟩
    · exact .inr (.inl ⟨rfl,rfl⟩)
    · exact .inr (.inr (.inl ⟨rfl,rfl⟩))
    · exact .inr (.inr (.inr ⟨rfl,rfl⟩))
  have at_:∀j,j<n+1->(pV E3 (Lf E3 L j)=⟨2,0,0⟩/\1∈L)\/(pV E3 (Lf E3 L j)=⟨0,2,0⟩/\2∈L)\/(pV E3 (Lf E3 L j)=⟨0,0,2⟩/\3∈L):=fun j hj=>by
    have hm:=qHV (l:=E3) lo.len hj;have hq:=lo.sup.eq j hj;rw[<-lo.cen,uc,es] at hq;rcases vals _ (lo.lt _ hm) with⟨h1,h2⟩|⟨h1,h2⟩|⟨h1,h2⟩|⟨h1,h2⟩
    · rw[h1] at hq
      exact absurd hq (by decide +kernel)
    · exact .inl ⟨h1,h2▸hm⟩
    · exact .inr (.inl ⟨h1,h2▸hm⟩)
    · exact .inr (.inr ⟨h1,h2▸hm⟩)
  have m0:0∉L:=fun hn=>by
    obtain⟨j,hj,he⟩:=List.mem_iff_getElem.1 hn;have hj':j<n+1:=by have:=lo.len;omega
    have hq:=lo.sup.eq j hj';have e0:Lf E3 L j=0:=by unfold Lf;rw[qMf,qMl hj];exact he
    rw[<-lo.cen,uc,es,e0] at hq;exact absurd hq (by decide +kernel)
  have m1:1∈L:=qNY fun hn=>by
    have:=qp5 lo.sup (α:=1) (β:=0) (γ:=0) (δ:=0) fun j hj=>by
      rcases at_ j hj with⟨_,h⟩|⟨h,_⟩|⟨h,_⟩
      · exact absurd h hn
      · rw[h];decide +kernel
      · rw[h];decide +kernel
    rw[<-lo.cen,uc] at this;exact absurd this (by decide +kernel)
  have m2:2∈L:=qNY fun hn=>by
    have:=qp5 lo.sup (α:=0) (β:=1) (γ:=0) (δ:=0) fun j hj=>by
      rcases at_ j hj with⟨h,_⟩|⟨_,h⟩|⟨h,_⟩
      · rw[h];decide +kernel
      · exact absurd h hn
      · rw[h];decide +kernel
    rw[<-lo.cen,uc] at this;exact absurd this (by decide +kernel)
  have m3:3∈L:=qNY fun hn=>by
    have:=qp5 lo.sup (α:=0) (β:=0) (γ:=1) (δ:=0) fun j hj=>by
      rcases at_ j hj with⟨h,_⟩|⟨h,_⟩|⟨_,h⟩
      · rw[h];decide +kernel
      · rw[h];decide +kernel
      · exact absurd h hn
    rw[<-lo.cen,uc] at this;exact absurd this (by decide +kernel)
  have eL:L=[1,2,3]:=by
    have hm:L∈lsN 4 (n+1):=qeS.2 ⟨lo.len,lo.lt,lo.asc⟩;have hn:=lo.most;rcases (show n=0\/n=1\/n=2\/n=3 by omega) with rfl|rfl|rfl|rfl
    · exact(show ∀L,L∈lsN 4 1->0∉L->1∈L->2∈L->3∈L->L=[1,2,3] by decide) L hm m0 m1 m2 m3
    · exact(show ∀L,L∈lsN 4 2->0∉L->1∈L->2∈L->3∈L->L=[1,2,3] by decide) L hm m0 m1 m2 m3
    · exact(show ∀L,L∈lsN 4 3->0∉L->1∈L->2∈L->3∈L->L=[1,2,3] by decide) L hm m0 m1 m2 m3
    · exact(show ∀L,L∈lsN 4 4->0∉L->1∈L->2∈L->3∈L->L=[1,2,3] by decide) L hm m0 m1 m2 m3
  rw[uc,es,eL] at r;have e1:tQ (2/3)=[50,47,51]:=by decide +kernel
  have e3:tQ (8/3)=[56,47,51]:=by decide +kernel
  simp only[e1,e3] at r;exact r
theorem qHg:qxp (pV (raR E4)) (raR E4).length 1 (Lf (raR E4) [0,1]) (fun _=>1/2):=by
 refine⟨qK6 (a:=72) (by decide +kernel) (by decide +kernel) (by decide +kernel),?_,?_⟩
 ·decide +kernel
 ·decide +kernel
theorem qEF:(wG [.r E4,.s [51],.s [48],.s [57],.r [[.i 0],[.i 1]]]).run=some (0,[.b true,.i 0]):=by
 obtain⟨h1,h2,h3,h4,h5⟩:=qfe qEI;have e3:tQ 3=[51]:=by decide +kernel
 have e0:tQ 0=[48]:=by decide +kernel
 have e9:tQ 9=[57]:=by decide +kernel
 have ck:qJn [[51],[48],[57]]=0:=by
  rw[<-e3,<-e0,<-e9];unfold qJn;refine qFo fun i hi=>?_;have:i<3:=hi;rcases (show i=0\/i=1\/i=2 by omega) with rfl|rfl|rfl
  ·exact qw6 (q:=3) (by constructor<;>decide +kernel)
  ·exact qw6 (q:=0) (by constructor<;>decide +kernel)
  ·exact qw6 (q:=9) (by constructor<;>decide +kernel)
 have hs:q1n (qHM (raR E4).length (rI [0,1])) (rI [0,1]).length=0:=by decide
 have he:clE (raR E4).length [[51],[48],[57]] (rI [0,1]) 3=0:=by unfold clE;rw[if_pos ck,if_neg (by decide),if_neg (by decide)];exact hs
 obtain⟨L,q,k1,k2,k3,k4,k5,k6,r1⟩:=qGb h4 (a:=[51]) (b:=[48]) (c:=[57]) (by intro s hs;simp at hs;rcases hs with rfl|rfl|rfl<;>decide) (ys:=[0,1]) (by decide) he;have eL:L=[0,1]:=by
  have hl:L.length=2:=by have:=congrArg List.length k1;unfold rN at this;rw[qjJ,qjJ,qMm] at this;exact this.symm
  have hm:L∈lsN 3 2:=qeS.2 ⟨hl,k5,k6⟩;have h2':cI (rN L) 0 0=0/\cI (rN L) 1 0=1:=by rw[<-k1];exact⟨rfl,rfl⟩
  exact(show ∀L,L∈lsN 3 2->cI (rN L) 0 0=0/\cI (rN L) 1 0=1->L=[0,1] by decide) L hm h2'
 obtain⟨sb,sc⟩:=qCw (l:=raR E4) (L:=[0,1]) (n:=1) rfl qHg;have c1:(cO (raR E4) [0,1]).x=3:=by rw[sc];decide +kernel
 have c2:(cO (raR E4) [0,1]).y=0:=by rw[sc];decide +kernel
 have c3:sO (raR E4) [0,1]=9:=by unfold sO;rw[sc];decide +kernel
 rw[eL,sb,c1,c2,c3,e3,e0,e9] at r1;have r2:(jO [.r (raR E4),.r [[.s [51]],[.s [48]],[.s [57]]],.r [[.i 0],[.i 1]],.i 3]).run=some (0,[.b true,.i 0]):=r1;rw[qgc];simp only[STD,yK,qEI,qjT h2,r2]
theorem qg1:(zZ []).run=some (0,[.b true]):=by
 have a1:(zT [.r [[.i 0,.i 0],[.i 4,.i 0],[.i 0,.i 2]]]).run=_:=qG0;have a2:(zV [.r [[.i 0,.i 0],[.i 6,.i 0],[.i 3,.i 5]]]).run=_:=qFZ;have a3:(zX [.r [[.i 0,.i 0,.i 0],[.i 2,.i 0,.i 0],[.i 0,.i 2,.i 0],[.i 0,.i 0,.i 2]]]).run=_:=qEm;have a4:(wG [.r [[.i 0,.i 0],[.i 6,.i 0],[.i 3,.i 1]],.s [51],.s [48],.s [57],.r [[.i 0],[.i 1]]]).run=_:=qEF;have b1:=qts (y:=[[.i 0],[.i 1],[.i 2]]) (by decide);have b2:=qts (y:=[[.i 1],[.i 2],[.i 3]]) (by decide);have at_:∀x y,(q1q [.i x,.i y]).run=some (0,[.i x,.i y]):=fun x y=>by rw[qzn];rfl
 have w0:qu .i64 0 0=0:=by decide
 have s1:∀s:Bs,seq s s=true:=fun s=>by rw[zB]
 rw[qub];simp only[STD,at_,a1,a2,a3,a4,b1,b2,w0,s1,qlN,Bool.and_self]
theorem qLR(l:R):∃b,(q8j [.r l]).run=some (0,[.b b]):=by
 rw[qys];by_cases h1:qg l<=8
 ·exact⟨true,by simp only[STD,h1]⟩
 ·by_cases h2:64<qg l
  ·exact⟨ilt (qg l) 128,by simp only[STD,h1,h2]⟩
  ·exact⟨false,by simp only[STD,h1,h2]⟩
theorem qC2(l:R):∃b,(uO [.r l]).run=some (0,[.b b]):=by
 rw[qpm];by_cases h1:qg l<=6
 ·exact⟨true,by simp only[STD,h1]⟩
 ·by_cases h2:64<qg l
  ·exact⟨ilt (qg l) 128,by simp only[STD,h1,h2]⟩
  ·exact⟨false,by simp only[STD,h1,h2]⟩
theorem qr8(x:Int):ieq x x=true:=by simp[ieq]
theorem qqX(s:Bs):seq s s=true:=by rw[zB]
theorem qK2{l:R}{m:Nat}{L:List Nat}{n:Nat}(h:LO l m L n):(rN L).length<9223372036854775808:=by have h1:=h.len;have h2:=h.three;unfold rN;rw[qjJ,qMm];omega
theorem qlC(x0:R)(_:UFit (.sl [(.int .i64),(.int .i64)]) (.l x0))(_:x0.length*16<=140737488351232):(j8 [.r x0]).run=some (0,[.b true]):=by
 obtain⟨b,hb⟩:=qLR x0;rw[qgy];cases b with
 | false=>simp only[STD,hb,qg1]
 | true=>
  obtain⟨a,c,d,e,r1,r2⟩:=qGv x0;by_cases h0:qid x0=0
  ·obtain⟨L,n,lo,r3⟩:=qvr h0;have r4:=qCu h0 lo;have r5:=qjZ (qK2 lo);simp only[STD,hb,r1,r2,r3,r4,qg1,qqX,r5,qlN,Bool.and_self,qr8]
  ·obtain⟨r3,r4⟩:=qyc h0;have r5:=qjZ (y:=[]) (by decide);simp only[STD,hb,r1,r2,r3,r4,qg1,qqX,r5,qlN,Bool.and_self,qr8]
theorem qlS(x0:R)(_:UFit (.sl [(.int .i64),(.int .i64),(.int .i64)]) (.l x0))(_:x0.length*24<=140737488351232):(ja [.r x0]).run=some (0,[.b true]):=by
 obtain⟨b,hb⟩:=qC2 x0;rw[qgu];cases b with
 | false=>simp only[STD,hb,qg1]
 | true=>
  obtain⟨a,c,d,f,e,r1,r2⟩:=qwL x0;by_cases h0:qmm x0=0
  ·obtain⟨L,n,lo,r3⟩:=qv3 h0;have r4:=qDg h0 lo;have r5:=qjZ (qK2 lo);simp only[STD,hb,r1,r2,r3,r4,qg1,qqX,r5,qlN,Bool.and_self,qr8]
  ·obtain⟨r3,r4⟩:=qz3 h0;have r5:=qjZ (y:=[]) (by decide);simp only[STD,hb,r1,r2,r3,r4,qg1,qqX,r5,qlN,Bool.and_self,qr8]
end Go.Eng

