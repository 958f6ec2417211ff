/- Texts of the proof, merged: what the code computes, and plain laws. No statement stands here. -/
import Derived.Test.YtflobilbbfefaaaGreatDoorP4
namespace Go.Eng
theorem qvS{a b:Rat}{N D N' D':Nat}(ha:bnd N D a)(hb:bnd N' D' b)(h1:N+D'≤1023)(h2:N'+D≤1023)(h3:D+D'≤1024):(zq [.s (tQ a),.s (tQ b),.i 0]).run=some (0,[.s (tQ (a+b)),.i 0]):=by
 rw[qj2]
 have:(wd [.s (tQ a),.s (tQ b),.i 0]).run=some (0,[.s (tQ (a+b)),.i 0]):=by
  rw[q8R]
  simp only[STD,qrz ha hb h1 h2 h3]
 simp only[STD,this]
theorem qqk{a b:Rat}{N D N' D':Nat}(ha:bnd N D a)(hb:bnd N' D' b)(h1:N+D'≤1023)(h2:N'+D≤1023)(h3:D+D'≤1024):(qF [.s (tQ a),.s (tQ b),.i 0]).run=some (0,[.s (tQ (a-b)),.i 0]):=by
 rw[qio]
 have:(wt [.s (tQ a),.s (tQ b),.i 0]).run=some (0,[.s (tQ (a-b)),.i 0]):=by
  rw[q8S]
  simp only[STD,qs4 ha hb h1 h2 h3]
 simp only[STD,this]
theorem qqW{a b:Rat}{N D N' D':Nat}(ha:bnd N D a)(hb:bnd N' D' b)(h1:N+N'≤1024)(h2:D+D'≤1024):(qM [.s (tQ a),.s (tQ b),.i 0]).run=some (0,[.s (tQ (a*b)),.i 0]):=by
 rw[qja]
 have:(we [.s (tQ a),.s (tQ b),.i 0]).run=some (0,[.s (tQ (a*b)),.i 0]):=by
  rw[q8V]
  simp only[STD,qsA ha hb h1 h2]
 simp only[STD,this]
theorem qAs{a b:Rat}{N D N' D':Nat}(h0:b≠0)(ha:bnd N D a)(hb:bnd N' D' b)(h1:N+D'≤1024)(h2:D+N'≤1024):(zu [.s (tQ a),.s (tQ b),.i 0]).run=some (0,[.s (tQ (a/b)),.i 0]):=by
 rw[q8P]
 simp only[STD,qrW h0 ha hb h1 h2]
theorem qwN{ax ay bx by_:Rat}{N D N' D':Nat}(h1:bnd N D ax)(h2:bnd N D ay)(h3:bnd N' D' bx)(h4:bnd N' D' by_)(c1:N+D'≤1023)(c2:N'+D≤1023)(c3:D+D'≤1024) :
  (zO [.s (tQ ax),.s (tQ ay),.s (tQ bx),.s (tQ by_),.i 0]).run=some (0,[.s (tQ (ax-bx)),.s (tQ (ay-by_)),.i 0]):=by
 rw[qhG]
 simp only[STD,qqk h1 h3 c1 c2 c3,qqk h2 h4 c1 c2 c3]
theorem qvC{ax ay bx by_:Rat}{N D N' D':Nat}(h1:bnd N D ax)(h2:bnd N D ay)(h3:bnd N' D' bx)(h4:bnd N' D' by_)(c1:N+N'+(D+D')≤1023)(c2:D+D'+(D+D')≤1024) :
  (zp [.s (tQ ax),.s (tQ ay),.s (tQ bx),.s (tQ by_),.i 0]).run=some (0,[.s (tQ (ax*bx+ay*by_)),.i 0]):=by
 rw[qj1]
 simp only[STD,qqW h1 h3 (by omega) (by omega),qqW h2 h4 (by omega) (by omega),qvS (h1.mul h3) (h2.mul h4) (by omega) (by omega) (by omega)]
theorem qpb{ax ay bx by_:Rat}{N D N' D':Nat}(h1:bnd N D ax)(h2:bnd N D ay)(h3:bnd N' D' bx)(h4:bnd N' D' by_):bnd (N+N'+(D+D')+1) (D+D'+(D+D')) (ax*bx+ay*by_):=
 (h1.mul h3).add (h2.mul h4) (by omega) (by omega)
def q1J(ax ay bx by_:Rat):Rat:=(ax-bx)*(ax-bx)+(ay-by_)*(ay-by_)
theorem q5C{a b:Rat}(ha:bnd 12 10 a)(hb:bnd 12 10 b):bnd 23 20 (a-b):=ha.sub hb (by omega) (by omega)
theorem qlQ{ax ay bx by_:Rat}(h1:bnd 12 10 ax)(h2:bnd 12 10 ay)(h3:bnd 12 10 bx)(h4:bnd 12 10 by_):bnd 87 80 (q1J ax ay bx by_):=
 qpb (q5C h1 h3) (q5C h2 h4) (q5C h1 h3) (q5C h2 h4)
theorem qBg{ax ay bx by_:Rat}(h1:bnd 12 10 ax)(h2:bnd 12 10 ay)(h3:bnd 12 10 bx)(h4:bnd 12 10 by_) :
  (yQ [.s (tQ ax),.s (tQ ay),.s (tQ bx),.s (tQ by_),.i 0]).run=some (0,[.s (tQ (q1J ax ay bx by_)),.i 0]):=by
 rw[qiD]
 have k1:=q5C h1 h3
 have k2:=q5C h2 h4
 simp only[STD,qwN h1 h2 h3 h4 (by omega) (by omega) (by omega),qvC k1 k2 k1 k2 (by omega) (by omega)]
 rfl
structure DQ where
 x:Rat
 y:Rat
 s:Rat
def DQ.sh(d:DQ):Prop:=bnd 12 10 d.x∧bnd 12 10 d.y∧bnd 13 10 d.s
def qB9(a b:DQ)(k:Rat):Int:=qf5 (q1J a.x a.y b.x b.y-(a.s+b.s)) k (a.s*b.s)
theorem qyv{a b c:Rat}(h:RootOk a b c)(hc:0≤c):(vA [.s (tQ a),.s (tQ b),.s (tQ c),.i 0]).run=some (0,[.i (qf5 a b c),.i 0]):=by
 rw[qhj]
 simp only[STD,qtR h hc]
theorem qnC(a:Rat):qf5 a 0 0=sgq a:=by
 unfold qf5
 rw[show sgq 0=0 from rfl,Int.mul_zero,Int.mul_zero,if_pos (by omega)]
 split
 ·rename_i h;rw[h]
 ·rfl
theorem qz3{a b:Rat}{N D N' D':Nat}(ha:bnd N D a)(hb:bnd N' D' b)(c1:N+D'+1≤500)(c2:N'+D+1≤500)(c3:D+D'≤300):(jc [.s (tQ a),.s (tQ b),.i 0]).run=some (0,[.i (sgq (a-b)),.i 0]):=by
 rw[qgq]
 have k:bnd 500 (D+D') (a-b):=ha.sub hb (by omega) (by omega)
 have hr:=qyv (a:=a-b) (b:=0) (c:=0) (RootOk.of k q5J q5J (by omega) (by omega)) (by decide)
 rw[qnC,show tQ 0=[48] from rfl] at hr
 simp only[STD,qqk ha hb (by omega) (by omega) (by omega),hr]
theorem qyx:tQ 2=[50]:=qxO 2
def qwU(a b:DQ):Prop:=a.s≤b.s∧qB9 a b 2≤0
instance (a b:DQ):Decidable (qwU a b):=by unfold qwU;infer_instance
theorem qna(a b:Rat):(sgq (a-b)≤0)=(a≤b):=by rw[qeO];exact propext ⟨fun h=>by grind,fun h=>by grind⟩
def shT(s:List UInt8):Prop:=s.length≤12
noncomputable def qzn(x y s:List UInt8):Int:=if qmU x≠0 then qmU x else if qmU y≠0 then qmU y else if qmU s≠0 then qmU s else if s.getD 0 0=45 then 2 else 0
theorem qBm{S:List PV→TR}{st:Nat→List PV}{e0 e1 e2:Int}{fin:List PV}
  (h0:(S (st 0)).run=if e0=0 then some (0,st 1) else some (2,[.i e0])) (h1:(S (st 1)).run=if e1=0 then some (0,st 2) else some (2,[.i e1])) (h2:(S (st 2)).run=if e2=0 then some (0,st 3) else some (2,[.i e2]))
  (h3:(S (st 3)).run=some (1,fin)):(ql S (st 0)).run=some (if e0≠0 then (1,[.i e0]) else if e1≠0 then (1,[.i e1]) else if e2≠0 then (1,[.i e2]) else (0,fin)):=by
 have hr:∃m,qdW=m+4:=⟨qdW-4,by unfold qdW;omega⟩
 obtain⟨m,hm⟩:=hr
 unfold ql
 rw[hm]
 by_cases c0:e0=0
 ·rw[if_pos c0] at h0
  rw[qew h0]
  by_cases c1:e1=0
  ·rw[if_pos c1] at h1
   rw[qew h1]
   by_cases c2:e2=0
   ·rw[if_pos c2] at h2
    rw[qew h2,q6e h3]
    simp[c0,c1,c2]
   ·rw[if_neg c2] at h2
    rw[q6e h2]
    simp[c0,c1,c2]
  ·rw[if_neg c1] at h1
   rw[q6e h1]
   simp[c0,c1]
 ·rw[if_neg c0] at h0
  rw[q6e h0]
  simp[c0]
theorem qgO(x y s:List UInt8)(h1:x.length≤1000000)(h2:y.length≤1000000)(h3:s.length≤1000000):(jN [.s x,.s y,.s s]).run=some (0,[.i (qzn x y s)]):=by
  rw[qmZ]
  have c0:=q7o x (by omega)
  have c1:=q7o y (by omega)
  have c2:=q7o s (by omega)
  have d0:cS [[.s x],[.s y],[.s s]] 0 0=x:=rfl
  have d1:cS [[.s x],[.s y],[.s s]] 1 0=y:=rfl
  have d2:cS [[.s x],[.s y],[.s s]] 2 0=s:=rfl
  have d3:qh [[U.s x],[U.s y],[U.s s]]=3:=rfl
  have w0:qt .i64 0 1=1:=by decide
  have w1:qt .i64 1 1=2:=by decide
  have w2:qt .i64 2 1=3:=by decide
  have key:=qBm (S:=q1m) (st:=fun i=>[.i 3,.i (i:Int),.s x,.s y,.s s,.r [[.s x],[.s y],[.s s]]]) (e0:=qmU x) (e1:=qmU y) (e2:=qmU s) (fin:=[.s x,.s y,.s s])
    (by rw [q3m]; simp only [show (((0 : Nat)) : Int) = 0 from rfl, show (((1 : Nat)) : Int) = 1 from rfl, d0, d3]
        by_cases c:qmU x=0
        · simp only[STD,c0,c,w0,show (0:Int)<3 by omega,Int.le_refl,and_self]
        · simp only[STD,c0,c,show (0:Int)<3 by omega,Int.le_refl,and_self])
    (by rw [q3m]; simp only [show (((1 : Nat)) : Int) = 1 from rfl, show (((2 : Nat)) : Int) = 2 from rfl, d1, d3]
        by_cases c:qmU y=0
        · simp only[STD,c1,c,w1,show (1:Int)<3 by omega,show (0:Int)≤1 by omega,and_self]
        · simp only[STD,c1,c,show (1:Int)<3 by omega,show (0:Int)≤1 by omega,and_self])
    (by rw [q3m]; simp only [show (((2 : Nat)) : Int) = 2 from rfl, show (((3 : Nat)) : Int) = 3 from rfl, d2, d3]
        by_cases c:qmU s=0
        · simp only[STD,c2,c,w2,show (2:Int)<3 by omega,show (0:Int)≤2 by omega,and_self]
        · simp only[STD,c2,c,show (2:Int)<3 by omega,show (0:Int)≤2 by omega,and_self])
    (by rw[q3m];simp only[show (((3:Nat)):Int)=3 from rfl];simp only[STD,show ¬(3:Int)<3 by omega])
  simp only[show (((0:Nat)):Int)=0 from rfl] at key
  unfold qzn
  rw[d3]
  by_cases e0:qmU x=0
  · by_cases e1:qmU y=0
    · by_cases e2:qmU s=0
      · simp only[e0,e1,e2,ne_eq,not_true,if_false] at key ⊢
        obtain⟨q,hq,_⟩:=qz5 e2
        have hl:(0:Int)<zJ s:=by
          have h1:=qm0 q
          have h2:=qme q
          rw[hq];unfold zJ;omega
        by_cases hm:s.getD 0 0=45
        · simp only[STD,key,qN key,Int.le_refl,hl,and_self,qhb,hm]
        · simp only[STD,key,qN key,Int.le_refl,hl,and_self,qhb,hm]
      · simp only[e0,e1,e2,ne_eq,not_true,not_false_eq_true,if_false,if_true] at key ⊢
        simp only[STD,key,qN key,show ¬(1=0) by omega]
    · simp only[e0,e1,ne_eq,not_true,not_false_eq_true,if_false,if_true] at key ⊢
      simp only[STD,key,qN key,show ¬(1=0) by omega]
  · simp only[e0,ne_eq,not_false_eq_true,if_true] at key ⊢
    simp only[STD,key,qN key,show ¬(1=0) by omega]
theorem qze{d:DQ}(h1:okQ d.x)(h2:okQ d.y)(h3:okQ d.s)(h:0≤d.s):qzn (tQ d.x) (tQ d.y) (tQ d.s)=0:=by
 unfold qzn
 rw[qop h1,qop h2,qop h3]
 have:=qyZ h
 rw[if_neg (by simp),if_neg (by simp),if_neg (by simp),if_neg this]
end Go.Eng

namespace Go.Eng
def Bd(C e:Nat)(x:Int):Prop:=x.natAbs≤C*10^e
theorem Bd.mul{C e C' e':Nat}{x y:Int}(h:Bd C e x)(h':Bd C' e' y):Bd (C*C') (e+e') (x*y):=by
 unfold Bd at *
 rw[Int.natAbs_mul,Nat.pow_add]
 have:=Nat.mul_le_mul h h'
 have e1:C*10^e*(C'*10^e')=C*C'*(10^e*10^e'):=by
  rw[Nat.mul_mul_mul_comm]
 omega
theorem Bd.mono{C e C' e':Nat}{x:Int}(h:Bd C e x)(hC:C≤C')(he:e≤e'):Bd C' e' x:=by
 unfold Bd at *
 exact Nat.le_trans h (Nat.mul_le_mul hC (Nat.pow_le_pow_right (by omega) he))
theorem Bd.add{C C' e:Nat}{x y:Int}(h:Bd C e x)(h':Bd C' e y):Bd (C+C') e (x+y):=by
 unfold Bd at *
 rw[Nat.add_mul]
 have:=Int.natAbs_add_le x y
 omega
theorem Bd.neg{C e:Nat}{x:Int}(h:Bd C e x):Bd C e (-x):=by unfold Bd at *;rw[Int.natAbs_neg];exact h
theorem Bd.sub{C C' e:Nat}{x y:Int}(h:Bd C e x)(h':Bd C' e y):Bd (C+C') e (x-y):=by
 rw[Int.sub_eq_add_neg];exact h.add h'.neg
theorem Bd.okL{C e k:Nat}{x:Int}(h:Bd C e x)(hC:C≤10^k)(he:k+e≤1023)(hne:0<e+k):okL x:=by
 unfold Go.Eng.okL nl
 unfold Bd at h
 have h1:C*10^e≤10^k*10^e:=Nat.mul_le_mul_right _ hC
 rw[←Nat.pow_add] at h1
 have h2:(10:Nat)^(k+e)<10^(k+e+1):=Nat.pow_lt_pow_right (by omega) (by omega)
 have:=qav (k+e) x.natAbs (by omega)
 omega
structure Wt (h v:Nat) (q:Rat):Prop where
 n:Bd 1 h q.num
 d:Bd 1 v (q.den:Int)
 dh:Bd 1 h (q.den:Int)
theorem qka{q:Rat}{P M:Int}(hM:M≠0)(h:q*(M:Rat)=(P:Rat)):q.num.natAbs≤P.natAbs∧q.den≤M.natAbs:=by
 have hM':(M:Rat)≠0:=by
  intro e
  exact hM (Rat.intCast_inj.1 (e.trans (by simp)))
 have e:q=Rat.divInt P M:=by
  rw[Rat.divInt_eq_div,←h]
  exact(Rat.mul_div_cancel hM').symm
 rw[e]
 constructor
 ·rw[Rat.num_divInt]
  refine Nat.le_trans (Int.natAbs_ediv_le_natAbs _ _) ?_
  rw[Int.natAbs_mul,Int.natAbs_sign_of_ne_zero hM];omega
 ·rw[Rat.den_divInt,if_neg hM]
  exact Nat.div_le_self _ _
structure SQ where
 fx:Rat
 fy:Rat
 ax:Rat
 ay:Rat
 h:Rat
def qj(a b:DQ)(neg:Bool):SQ:=
 let dx:=b.x-a.x
 let dy:=b.y-a.y
 let far:=dx*dx+dy*dy
 let t:=(far+a.s-b.s)/(2*far)
 ⟨a.x+t*dx,a.y+t*dy,if neg then dy else 0-dy,if neg then 0-dx else dx,a.s/far-t*t⟩
def kA(d:DQ)(p:SQ):Rat:=(p.fx-d.x)*(p.fx-d.x)+(p.fy-d.y)*(p.fy-d.y)+p.h*(p.ax*p.ax+p.ay*p.ay)-d.s
def kB(d:DQ)(p:SQ):Rat:=2*((p.fx-d.x)*p.ax+(p.fy-d.y)*p.ay)
def q0o(d:DQ)(p:SQ):Prop:=qf5 (kA d p) (kB d p) p.h≤0
instance (d:DQ) (p:SQ):Decidable (q0o d p):=by unfold q0o;infer_instance
section
variable (a1 p1 b1 q1 c1 r1 a2 p2 b2 q2 c2 r2 a3 p3 b3 q3 c3 r3:Int)
def iU:Int:=a2*p1-a1*p2
def iN:Int:=iU a1 p1 a2 p2*iU a1 p1 a2 p2*((q1*q2)*(q1*q2))+iU b1 q1 b2 q2*iU b1 q1 b2 q2*((p1*p2)*(p1*p2))
def iD:Int:=(p1*p2*(q1*q2))*(p1*p2*(q1*q2))
def iT:Int:=iN a1 p1 b1 q1 a2 p2 b2 q2*(r1*r2)+(c1*r2-c2*r1)*iD p1 q1 p2 q2
def iE:Int:=a1*p3-a3*p1
def iG:Int:=iE a1 p1 a3 p3*iE a1 p1 a3 p3*((q1*q3)*(q1*q3))+iE b1 q1 b3 q3*iE b1 q1 b3 q3*((p1*p3)*(p1*p3))
def iH:Int:=iE a1 p1 a3 p3*iU a1 p1 a2 p2*((q1*q1)*(q2*q3))+iE b1 q1 b3 q3*iU b1 q1 b2 q2*((p1*p1)*(p2*p3))
def iSq:Int:=((p1*q1)*(p3*q3))*((p1*q1)*(p3*q3))
def iA:Int:=iG a1 p1 b1 q1 a3 p3 b3 q3*iN a1 p1 b1 q1 a2 p2 b2 q2*(r1*r2*r3)*(p2*q2)+iT a1 p1 b1 q1 c1 r1 a2 p2 b2 q2 c2 r2*iH a1 p1 b1 q1 a2 p2 b2 q2 a3 p3 b3 q3*r3*(p3*q3)
 + c1*iN a1 p1 b1 q1 a2 p2 b2 q2*(r2*r3)*iSq p1 q1 p3 q3*(p2*q2)-c3*iN a1 p1 b1 q1 a2 p2 b2 q2*(r1*r2)*iSq p1 q1 p3 q3*(p2*q2)
def iM:Int:=iN a1 p1 b1 q1 a2 p2 b2 q2*(r1*r2*r3)*iSq p1 q1 p3 q3*(p2*q2)
def iK:Int:=2*(iE b1 q1 b3 q3*iU a1 p1 a2 p2*(p3*q2)-iE a1 p1 a3 p3*iU b1 q1 b2 q2*(q3*p2))
def iQ:Int:=(p1*p2*p3)*(q1*q2*q3)
def iCn:Int:=4*(c1*iD p1 q1 p2 q2*iN a1 p1 b1 q1 a2 p2 b2 q2*r1*(r2*r2))-iT a1 p1 b1 q1 c1 r1 a2 p2 b2 q2 c2 r2*iT a1 p1 b1 q1 c1 r1 a2 p2 b2 q2 c2 r2
def iCd:Int:=4*(iN a1 p1 b1 q1 a2 p2 b2 q2*iN a1 p1 b1 q1 a2 p2 b2 q2)*((r1*r2)*(r1*r2))
end
section
variable {a1 p1 b1 q1 c1 r1 a2 p2 b2 q2 c2 r2 a3 p3 b3 q3 c3 r3:Int} {hx1 hy1 hs1 hx2 hy2 hs2 hx3 hy3 hs3 vx1 vy1 vs1 vx2 vy2 vs2 vx3 vy3 vs3:Nat}
theorem bU(h1:Bd 1 hx1 a1)(h2:Bd 1 hx1 p1)(h3:Bd 1 hx2 a2)(h4:Bd 1 hx2 p2):Bd 2 (hx1+hx2) (iU a1 p1 a2 p2):=
 ((h3.mul h2).mono (Nat.le_refl _) (by omega)).sub (h1.mul h4)
theorem bE(h1:Bd 1 hx1 a1)(h2:Bd 1 hx1 p1)(h3:Bd 1 hx3 a3)(h4:Bd 1 hx3 p3):Bd 2 (hx1+hx3) (iE a1 p1 a3 p3):=
 (h1.mul h4).sub ((h3.mul h2).mono (Nat.le_refl _) (by omega))
theorem bN(x1:Bd 1 hx1 a1)(x1':Bd 1 hx1 p1)(y1:Bd 1 hy1 b1)(y1':Bd 1 hy1 q1)(x2:Bd 1 hx2 a2)(x2':Bd 1 hx2 p2)(y2:Bd 1 hy2 b2)(y2':Bd 1 hy2 q2) :
  Bd 8 (2*(hx1+hx2+hy1+hy2)) (iN a1 p1 b1 q1 a2 p2 b2 q2):=by
 have u:=bU x1 x1' x2 x2'
 have v:=bU y1 y1' y2 y2'
 have qq:=y1'.mul y2'
 have pp:=x1'.mul x2'
 exact(((u.mul u).mul (qq.mul qq)).mono (C':=4) (by omega) (by omega)).add (((v.mul v).mul (pp.mul pp)).mono (C':=4) (by omega) (by omega))
theorem bD(x1':Bd 1 hx1 p1)(y1':Bd 1 hy1 q1)(x2':Bd 1 hx2 p2)(y2':Bd 1 hy2 q2):Bd 1 (2*(hx1+hx2+hy1+hy2)) (iD p1 q1 p2 q2):=by
 have z:=(x1'.mul x2').mul (y1'.mul y2')
 exact(z.mul z).mono (by omega) (by omega)
theorem bT(x1:Bd 1 hx1 a1)(x1':Bd 1 hx1 p1)(y1:Bd 1 hy1 b1)(y1':Bd 1 hy1 q1)(x2:Bd 1 hx2 a2)(x2':Bd 1 hx2 p2)(y2:Bd 1 hy2 b2)(y2':Bd 1 hy2 q2)
  (s1:Bd 1 hs1 c1) (s1':Bd 1 hs1 r1) (s2:Bd 1 hs2 c2) (s2':Bd 1 hs2 r2):Bd 10 (2*(hx1+hx2+hy1+hy2)+hs1+hs2) (iT a1 p1 b1 q1 c1 r1 a2 p2 b2 q2 c2 r2):=by
 have n:=bN x1 x1' y1 y1' x2 x2' y2 y2'
 have d:=bD x1' y1' x2' y2'
 have s:=(s1.mul s2').sub ((s2.mul s1').mono (Nat.le_refl _) (by omega))
 exact((n.mul (s1'.mul s2')).mono (C':=8) (by omega) (by omega)).add ((s.mul d).mono (C':=2) (by omega) (by omega))
theorem bG(x1:Bd 1 hx1 a1)(x1':Bd 1 hx1 p1)(y1:Bd 1 hy1 b1)(y1':Bd 1 hy1 q1)(x3:Bd 1 hx3 a3)(x3':Bd 1 hx3 p3)(y3:Bd 1 hy3 b3)(y3':Bd 1 hy3 q3) :
  Bd 8 (2*(hx1+hx3+hy1+hy3)) (iG a1 p1 b1 q1 a3 p3 b3 q3):=by
 have u:=bE x1 x1' x3 x3'
 have v:=bE y1 y1' y3 y3'
 have qq:=y1'.mul y3'
 have pp:=x1'.mul x3'
 exact(((u.mul u).mul (qq.mul qq)).mono (C':=4) (by omega) (by omega)).add (((v.mul v).mul (pp.mul pp)).mono (C':=4) (by omega) (by omega))
theorem bH(x1:Bd 1 hx1 a1)(x1':Bd 1 hx1 p1)(y1:Bd 1 hy1 b1)(y1':Bd 1 hy1 q1)(x2:Bd 1 hx2 a2)(x2':Bd 1 hx2 p2)(y2:Bd 1 hy2 b2)(y2':Bd 1 hy2 q2)
  (x3:Bd 1 hx3 a3) (x3':Bd 1 hx3 p3) (y3:Bd 1 hy3 b3) (y3':Bd 1 hy3 q3):Bd 8 (2*hx1+hx2+hx3+2*hy1+hy2+hy3) (iH a1 p1 b1 q1 a2 p2 b2 q2 a3 p3 b3 q3):=by
 have u:=bU x1 x1' x2 x2'
 have v:=bU y1 y1' y2 y2'
 have e:=bE x1 x1' x3 x3'
 have f:=bE y1 y1' y3 y3'
 exact(((e.mul u).mul ((y1'.mul y1').mul (y2'.mul y3'))).mono (C':=4) (by omega) (by omega)).add (((f.mul v).mul ((x1'.mul x1').mul (x2'.mul x3'))).mono (C':=4) (by omega) (by omega))
theorem bSq(x1':Bd 1 hx1 p1)(y1':Bd 1 hy1 q1)(x3':Bd 1 hx3 p3)(y3':Bd 1 hy3 q3):Bd 1 (2*(hx1+hx3+hy1+hy3)) (iSq p1 q1 p3 q3):=by
 have z:=(x1'.mul y1').mul (x3'.mul y3')
 exact(z.mul z).mono (by omega) (by omega)
theorem bA(x1:Bd 1 hx1 a1)(x1':Bd 1 hx1 p1)(y1:Bd 1 hy1 b1)(y1':Bd 1 hy1 q1)(x2:Bd 1 hx2 a2)(x2':Bd 1 hx2 p2)(y2:Bd 1 hy2 b2)(y2':Bd 1 hy2 q2)
  (x3:Bd 1 hx3 a3) (x3':Bd 1 hx3 p3) (y3:Bd 1 hy3 b3) (y3':Bd 1 hy3 q3) (s1:Bd 1 hs1 c1) (s1':Bd 1 hs1 r1) (s2:Bd 1 hs2 c2) (s2':Bd 1 hs2 r2) (s3:Bd 1 hs3 c3) (s3':Bd 1 hs3 r3) :
  Bd 160 (4*hx1+3*hx2+2*hx3+4*hy1+3*hy2+2*hy3+hs1+hs2+hs3) (iA a1 p1 b1 q1 c1 r1 a2 p2 b2 q2 c2 r2 a3 p3 b3 q3 c3 r3):=by
 have g:=bG x1 x1' y1 y1' x3 x3' y3 y3'
 have n:=bN x1 x1' y1 y1' x2 x2' y2 y2'
 have t:=bT x1 x1' y1 y1' x2 x2' y2 y2' s1 s1' s2 s2'
 have h:=bH x1 x1' y1 y1' x2 x2' y2 y2' x3 x3' y3 y3'
 have sq:=bSq x1' y1' x3' y3'
 have k1:=(((g.mul n).mul ((s1'.mul s2').mul s3')).mul (x2'.mul y2')).mono (C':=64) (e':=4*hx1+3*hx2+2*hx3+4*hy1+3*hy2+2*hy3+hs1+hs2+hs3) (by omega) (by omega)
 have k2:=(((t.mul h).mul s3').mul (x3'.mul y3')).mono (C':=80) (e':=4*hx1+3*hx2+2*hx3+4*hy1+3*hy2+2*hy3+hs1+hs2+hs3) (by omega) (by omega)
 have k3:=((((s1.mul n).mul (s2'.mul s3')).mul sq).mul (x2'.mul y2')).mono (C':=8) (e':=4*hx1+3*hx2+2*hx3+4*hy1+3*hy2+2*hy3+hs1+hs2+hs3) (by omega) (by omega)
 have k4:=((((s3.mul n).mul (s1'.mul s2')).mul sq).mul (x2'.mul y2')).mono (C':=8) (e':=4*hx1+3*hx2+2*hx3+4*hy1+3*hy2+2*hy3+hs1+hs2+hs3) (by omega) (by omega)
 exact((k1.add k2).add k3).sub k4
theorem bM(x1:Bd 1 hx1 a1)(x1':Bd 1 hx1 p1)(y1:Bd 1 hy1 b1)(y1':Bd 1 hy1 q1)(x2:Bd 1 hx2 a2)(x2':Bd 1 hx2 p2)(y2:Bd 1 hy2 b2)(y2':Bd 1 hy2 q2)
  (wx1:Bd 1 vx1 p1) (wy1:Bd 1 vy1 q1) (wx2:Bd 1 vx2 p2) (wy2:Bd 1 vy2 q2) (wx3:Bd 1 vx3 p3) (wy3:Bd 1 vy3 q3) (ws1:Bd 1 vs1 r1) (ws2:Bd 1 vs2 r2) (ws3:Bd 1 vs3 r3) :
  Bd 8 (2*(hx1+hx2+hy1+hy2)+(vs1+vs2+vs3)+2*(vx1+vx3+vy1+vy3)+(vx2+vy2)) (iM a1 p1 b1 q1 r1 a2 p2 b2 q2 r2 p3 q3 r3):=by
 have n:=bN x1 x1' y1 y1' x2 x2' y2 y2'
 have sq:=bSq wx1 wy1 wx3 wy3
 exact(((n.mul ((ws1.mul ws2).mul ws3)).mul sq).mul (wx2.mul wy2)).mono (by omega) (by omega)
theorem bK(x1:Bd 1 hx1 a1)(x1':Bd 1 hx1 p1)(y1:Bd 1 hy1 b1)(y1':Bd 1 hy1 q1)(x2:Bd 1 hx2 a2)(x2':Bd 1 hx2 p2)(y2:Bd 1 hy2 b2)(y2':Bd 1 hy2 q2)
  (x3:Bd 1 hx3 a3) (x3':Bd 1 hx3 p3) (y3:Bd 1 hy3 b3) (y3':Bd 1 hy3 q3):Bd 16 (hx1+hx2+hx3+hy1+hy2+hy3) (iK a1 p1 b1 q1 a2 p2 b2 q2 a3 p3 b3 q3):=by
 have u:=bU x1 x1' x2 x2'
 have v:=bU y1 y1' y2 y2'
 have e:=bE x1 x1' x3 x3'
 have f:=bE y1 y1' y3 y3'
 have two:Bd 2 0 2:=by unfold Bd;decide
 have k1:=((f.mul u).mul (x3'.mul y2')).mono (C':=4) (e':=hx1+hx2+hx3+hy1+hy2+hy3) (by omega) (by omega)
 have k2:=((e.mul v).mul (y3'.mul x2')).mono (C':=4) (e':=hx1+hx2+hx3+hy1+hy2+hy3) (by omega) (by omega)
 exact(two.mul (k1.sub k2)).mono (by omega) (by omega)
theorem bQ(wx1:Bd 1 vx1 p1)(wy1:Bd 1 vy1 q1)(wx2:Bd 1 vx2 p2)(wy2:Bd 1 vy2 q2)(wx3:Bd 1 vx3 p3)(wy3:Bd 1 vy3 q3):Bd 1 (vx1+vx2+vx3+(vy1+vy2+vy3)) (iQ p1 q1 p2 q2 p3 q3):=
 (((wx1.mul wx2).mul wx3).mul ((wy1.mul wy2).mul wy3)).mono (by omega) (by omega)
theorem bCn(x1:Bd 1 hx1 a1)(x1':Bd 1 hx1 p1)(y1:Bd 1 hy1 b1)(y1':Bd 1 hy1 q1)(x2:Bd 1 hx2 a2)(x2':Bd 1 hx2 p2)(y2:Bd 1 hy2 b2)(y2':Bd 1 hy2 q2)
  (s1:Bd 1 hs1 c1) (s1':Bd 1 hs1 r1) (s2:Bd 1 hs2 c2) (s2':Bd 1 hs2 r2):Bd 132 (4*(hx1+hx2+hy1+hy2)+2*hs1+2*hs2) (iCn a1 p1 b1 q1 c1 r1 a2 p2 b2 q2 c2 r2):=by
 have n:=bN x1 x1' y1 y1' x2 x2' y2 y2'
 have d:=bD x1' y1' x2' y2'
 have t:=bT x1 x1' y1 y1' x2 x2' y2 y2' s1 s1' s2 s2'
 have four:Bd 4 0 4:=by unfold Bd;decide
 have k1:=(four.mul ((((s1.mul d).mul n).mul s1').mul (s2'.mul s2'))).mono (C':=32) (e':=4*(hx1+hx2+hy1+hy2)+2*hs1+2*hs2) (by omega) (by omega)
 have k2:=(t.mul t).mono (C':=100) (e':=4*(hx1+hx2+hy1+hy2)+2*hs1+2*hs2) (by omega) (by omega)
 exact k1.sub k2
theorem bCd(x1:Bd 1 hx1 a1)(x1':Bd 1 hx1 p1)(y1:Bd 1 hy1 b1)(y1':Bd 1 hy1 q1)(x2:Bd 1 hx2 a2)(x2':Bd 1 hx2 p2)(y2:Bd 1 hy2 b2)(y2':Bd 1 hy2 q2)
  (ws1:Bd 1 vs1 r1) (ws2:Bd 1 vs2 r2):Bd 256 (4*(hx1+hx2+hy1+hy2)+2*vs1+2*vs2) (iCd a1 p1 b1 q1 r1 a2 p2 b2 q2 r2):=by
 have n:=bN x1 x1' y1 y1' x2 x2' y2 y2'
 have four:Bd 4 0 4:=by unfold Bd;decide
 exact((four.mul (n.mul n)).mul ((ws1.mul ws2).mul (ws1.mul ws2))).mono (by omega) (by omega)
end
section
variable (a b d:DQ)
theorem qsJ(q:Rat):(q.den:Rat)≠0:=by have:=q1V q;grind
theorem qsp(neg:Bool)(hf:(b.x-a.x)*(b.x-a.x)+(b.y-a.y)*(b.y-a.y)≠0) :
  kA d (qj a b neg)*((iM a.x.num a.x.den a.y.num a.y.den a.s.den b.x.num b.x.den b.y.num b.y.den b.s.den d.x.den d.y.den d.s.den:Int):Rat)=((iA a.x.num a.x.den a.y.num a.y.den a.s.num a.s.den b.x.num b.x.den b.y.num b.y.den b.s.num b.s.den d.x.num d.x.den d.y.num d.y.den d.s.num d.s.den:Int):Rat) ∧
  kB d (qj a b neg)*((iQ a.x.den a.y.den b.x.den b.y.den d.x.den d.y.den:Int):Rat)=(((if neg then -1 else 1)*iK a.x.num a.x.den a.y.num a.y.den b.x.num b.x.den b.y.num b.y.den d.x.num d.x.den d.y.num d.y.den:Int):Rat) ∧
  (qj a b neg).h*((iCd a.x.num a.x.den a.y.num a.y.den a.s.den b.x.num b.x.den b.y.num b.y.den b.s.den:Int):Rat)=((iCn a.x.num a.x.den a.y.num a.y.den a.s.num a.s.den b.x.num b.x.den b.y.num b.y.den b.s.num b.s.den:Int):Rat) ∧
  iN a.x.num a.x.den a.y.num a.y.den b.x.num b.x.den b.y.num b.y.den≠0:=by
 obtain⟨far,hfar⟩:∃far,far=(b.x-a.x)*(b.x-a.x)+(b.y-a.y)*(b.y-a.y):=⟨_,rfl⟩
 obtain⟨t,ht⟩:∃t,t=(far+a.s-b.s)/(2*far):=⟨_,rfl⟩
 obtain⟨h,hh⟩:∃h,h=a.s/far-t*t:=⟨_,rfl⟩
 rw[←hfar] at hf
 have h2f:2*far≠0:=by grind
 have ht':2*far*t=far+a.s-b.s:=by
  rw[ht,Rat.mul_comm];exact Rat.div_mul_cancel h2f
 have hh':far*h=a.s-far*(t*t):=by
  have:a.s/far*far=a.s:=Rat.div_mul_cancel hf
  rw[hh];grind
 have hc:qj a b neg=⟨a.x+t*(b.x-a.x),a.y+t*(b.y-a.y),if neg then b.y-a.y else 0-(b.y-a.y),if neg then 0-(b.x-a.x) else b.x-a.x,h⟩:=by
  rw[hh,ht,hfar];rfl
 rw[hc]
 have nx1:=qcT a.x
 have ny1:=qcT a.y
 have ns1:=qcT a.s
 have nx2:=qcT b.x
 have ny2:=qcT b.y
 have ns2:=qcT b.s
 have nx3:=qcT d.x
 have ny3:=qcT d.y
 have ns3:=qcT d.s
 have px1:=qsJ a.x
 have py1:=qsJ a.y
 have px2:=qsJ b.x
 have py2:=qsJ b.y
 obtain⟨x1,y1,s1⟩:=a
 obtain⟨x2,y2,s2⟩:=b
 obtain⟨x3,y3,s3⟩:=d
 simp only at *
 have hU:((iU x1.num x1.den x2.num x2.den:Int):Rat)=(x2-x1)*((x1.den:Rat)*x2.den):=by
  unfold iU;simp only[Rat.intCast_sub,Rat.intCast_mul,Rat.intCast_natCast,nx1,nx2];grind
 have hV:((iU y1.num y1.den y2.num y2.den:Int):Rat)=(y2-y1)*((y1.den:Rat)*y2.den):=by
  unfold iU;simp only[Rat.intCast_sub,Rat.intCast_mul,Rat.intCast_natCast,ny1,ny2];grind
 have hE:((iE x1.num x1.den x3.num x3.den:Int):Rat)=(x1-x3)*((x1.den:Rat)*x3.den):=by
  unfold iE;simp only[Rat.intCast_sub,Rat.intCast_mul,Rat.intCast_natCast,nx1,nx3];grind
 have hF:((iE y1.num y1.den y3.num y3.den:Int):Rat)=(y1-y3)*((y1.den:Rat)*y3.den):=by
  unfold iE;simp only[Rat.intCast_sub,Rat.intCast_mul,Rat.intCast_natCast,ny1,ny3];grind
 have hD:((iD x1.den y1.den x2.den y2.den:Int):Rat)=((x1.den:Rat)*x2.den*(y1.den*y2.den))*((x1.den:Rat)*x2.den*(y1.den*y2.den)):=by
  unfold iD;simp only[Rat.intCast_mul,Rat.intCast_natCast]
 have hN:((iN x1.num x1.den y1.num y1.den x2.num x2.den y2.num y2.den:Int):Rat)=far*(((x1.den:Rat)*x2.den*(y1.den*y2.den))*((x1.den:Rat)*x2.den*(y1.den*y2.den))):=by
  unfold iN;simp only[Rat.intCast_add,Rat.intCast_mul,Rat.intCast_natCast,hU,hV,hfar];grind
 have hN0:iN x1.num x1.den y1.num y1.den x2.num x2.den y2.num y2.den≠0:=by
  intro e
  rw[e] at hN
  have h1:(x1.den:Rat)*x2.den*(y1.den*y2.den)≠0:=by
   have:=Rat.mul_pos (Rat.mul_pos (q1V x1) (q1V x2)) (Rat.mul_pos (q1V y1) (q1V y2))
   grind
  have h2:far*(((x1.den:Rat)*x2.den*(y1.den*y2.den))*((x1.den:Rat)*x2.den*(y1.den*y2.den)))=0:=by rw[←hN];simp
  rcases Rat.mul_eq_zero.1 h2 with h3|h3
  ·exact hf h3
  ·rcases Rat.mul_eq_zero.1 h3 with h4|h4<;>exact h1 h4
 have hT:((iT x1.num x1.den y1.num y1.den s1.num s1.den x2.num x2.den y2.num y2.den s2.num s2.den:Int):Rat)=2*t*far*(((x1.den:Rat)*x2.den*(y1.den*y2.den))*((x1.den:Rat)*x2.den*(y1.den*y2.den)))*((s1.den:Rat)*s2.den):=by
  unfold iT;simp only[Rat.intCast_add,Rat.intCast_sub,Rat.intCast_mul,Rat.intCast_natCast,hN,hD,ns1,ns2]
  generalize ((x1.den:Rat)*x2.den*(y1.den*y2.den))*((x1.den:Rat)*x2.den*(y1.den*y2.den))=D2
  have:2*t*far*D2*((s1.den:Rat)*s2.den)=(2*far*t)*(D2*((s1.den:Rat)*s2.den)):=by grind
  rw[this,ht'];grind
 have hG:((iG x1.num x1.den y1.num y1.den x3.num x3.den y3.num y3.den:Int):Rat)=((x1-x3)*(x1-x3)+(y1-y3)*(y1-y3))*(((x1.den:Rat)*y1.den*(x3.den*y3.den))*((x1.den:Rat)*y1.den*(x3.den*y3.den))):=by
  unfold iG;simp only[Rat.intCast_add,Rat.intCast_mul,Rat.intCast_natCast,hE,hF];grind
 have hH:((iH x1.num x1.den y1.num y1.den x2.num x2.den y2.num y2.den x3.num x3.den y3.num y3.den:Int):Rat)=((x1-x3)*(x2-x1)+(y1-y3)*(y2-y1))*(((x1.den:Rat)*x1.den*(x2.den*x3.den))*((y1.den:Rat)*y1.den*(y2.den*y3.den))):=by
  unfold iH;simp only[Rat.intCast_add,Rat.intCast_mul,Rat.intCast_natCast,hE,hF,hU,hV];grind
 have hSq:((iSq x1.den y1.den x3.den y3.den:Int):Rat)=((x1.den:Rat)*y1.den*(x3.den*y3.den))*((x1.den:Rat)*y1.den*(x3.den*y3.den)):=by
  unfold iSq;simp only[Rat.intCast_mul,Rat.intCast_natCast]
 refine⟨?_,?_,?_,hN0⟩
 ·unfold iM iA
  simp only[Rat.intCast_add,Rat.intCast_sub,Rat.intCast_mul,Rat.intCast_natCast,hN,hT,hG,hH,hSq,ns1,ns3]
  have hA:kA ⟨x3,y3,s3⟩ ⟨x1+t*(x2-x1),y1+t*(y2-y1),if neg then y2-y1 else 0-(y2-y1),if neg then 0-(x2-x1) else x2-x1,h⟩=(x1-x3)*(x1-x3)+(y1-y3)*(y1-y3)+2*t*((x1-x3)*(x2-x1)+(y1-y3)*(y2-y1))+s1-s3:=by
   have e1:kA ⟨x3,y3,s3⟩ ⟨x1+t*(x2-x1),y1+t*(y2-y1),if neg then y2-y1 else 0-(y2-y1),if neg then 0-(x2-x1) else x2-x1,h⟩=(x1-x3)*(x1-x3)+(y1-y3)*(y1-y3)+2*t*((x1-x3)*(x2-x1)+(y1-y3)*(y2-y1))+far*(t*t)+far*h-s3:=by
    unfold kA
    rw[hfar]
    cases neg
    ·simp only[Bool.false_eq_true,if_false];grind
    ·simp only[if_true];grind
   rw[e1,hh'];grind
  rw[hA]
  generalize (x1-x3)*(x1-x3)+(y1-y3)*(y1-y3)=e2
  generalize (x1-x3)*(x2-x1)+(y1-y3)*(y2-y1)=ed
  generalize (x1.den:Rat)=P1
  generalize (x2.den:Rat)=P2
  generalize (x3.den:Rat)=P3
  generalize (y1.den:Rat)=Q1
  generalize (y2.den:Rat)=Q2
  generalize (y3.den:Rat)=Q3
  generalize (s1.den:Rat)=R1
  generalize (s2.den:Rat)=R2
  generalize (s3.den:Rat)=R3
  clear hU hV hE hF hD hN hN0 hT hG hH hSq nx1 nx2 nx3 ny1 ny2 ny3 ns1 ns2 ns3 px1 px2 py1 py2 hf h2f ht' hh' hc hfar
  grind
 ·unfold iQ iK kB
  simp only[Rat.intCast_sub,Rat.intCast_mul,Rat.intCast_natCast,hE,hF,hU,hV]
  cases neg
  ·simp only[Bool.false_eq_true,if_false]
   simp
   grind
  ·simp only[if_true]
   simp
   grind
 ·unfold iCd iCn
  simp only[Rat.intCast_sub,Rat.intCast_mul,Rat.intCast_natCast,hN,hT,hD,ns1]
  generalize ((x1.den:Rat)*x2.den*(y1.den*y2.den))*((x1.den:Rat)*x2.den*(y1.den*y2.den))=D2
  generalize (s1.den:Rat)=R1
  generalize (s2.den:Rat)=R2
  have e:s1=far*h+far*(t*t):=by rw[hh'];grind
  have f4:((4:Int):Rat)=4:=by simp
  rw[f4,e]
  clear hU hV hE hF hD hN hN0 hT hG hH hSq nx1 nx2 nx3 ny1 ny2 ny3 ns1 ns2 ns3 px1 px2 py1 py2 hf h2f ht' hh' hc hfar
  grind
end
end Go.Eng

namespace Go.Eng
theorem qoe{a b c:Rat}(hc:0≤c):qf5 a b c≤0↔(a≤0∧(b≤0∨c=0∨b*b*c≤a*a))∨(0<a∧b<0∧a*a≤b*b*c):=by
 have hs:=qeO (a*a-b*b*c)
 have hs':(0≤sgq (a*a-b*b*c))=(b*b*c≤a*a):=by
  have h1:=qwy (a*a-b*b*c)
  have h2:=qeO (-(a*a-b*b*c))
  refine propext ⟨fun h=>?_,fun h=>?_⟩
  ·have:=h2▸(show sgq (-(a*a-b*b*c))≤0 by omega);grind
  ·have:sgq (-(a*a-b*b*c))≤0:=h2▸(show -(a*a-b*b*c)≤0 by grind)
   omega
 have bd:=qx9 (a*a-b*b*c)
 have pb:0<b→0<c→0<b*b*c:=fun h1 h2=>Rat.mul_pos (Rat.mul_pos h1 h1) h2
 have pa:0<a→0<a*a:=fun h1=>Rat.mul_pos h1 h1
 have za:a=0→a*a=0:=fun h=>by rw[h];grind
 have zc:c=0→b*b*c=0:=fun h=>by rw[h];grind
 unfold qf5
 generalize hz:sgq (a*a-b*b*c)=z at *
 rcases qaG a with⟨ha,ea⟩|⟨ha,ea⟩|⟨ha,ea⟩<;>rcases qaG b with⟨hb,eb⟩|⟨hb,eb⟩|⟨hb,eb⟩<;>rcases qaG c with⟨hc',ec⟩|⟨hc',ec⟩|⟨hc',ec⟩<;>rw[ea,eb,ec]
 all_goals try (exfalso;grind)
 all_goals simp only[
  
  
  show (-1:Int)*0=0 by decide,show (-1:Int)*1=-1 by decide,show (0:Int)*0=0 by decide,show (0:Int)*1=0 by decide,show (1:Int)*0=0 by decide,show (1:Int)*1=1 by decide,Int.one_mul]
 all_goals simp
 all_goals first|(exfalso;grind)|skip
 all_goals grind
theorem qld{a b:Rat}(h0:0≤a)(h:a≤b):a*a≤b*b:=by
 have:=Rat.mul_nonneg (show 0≤b-a by grind) (show 0≤b+a by grind)
 grind
theorem qsN{a b:Rat}(hb:0≤b)(h:a*a≤b*b):a≤b:=by
 apply Rat.not_lt.1
 intro hn
 have:=Rat.mul_pos (show 0<a-b by grind) (show 0<a+b by grind)
 grind
theorem quQ{a b c T0 T1:Rat}(h0:0≤T0)(h1:T0≤T1)(k0:T0*T0≤c)(k1:c≤T1*T1)(e0:a+b*T0≤0)(e1:a+b*T1≤0):qf5 a b c≤0:=by
 have hc:0≤c:=by have:=Rat.mul_nonneg h0 h0;grind
 rw[qoe hc]
 by_cases hb:b≤0
 ·by_cases ha:a≤0
  ·exact .inl ⟨ha,.inl hb⟩
  ·have hb':b<0:=by
    apply Rat.not_le.1;intro hn
    have h:b=0:=by grind
    rw[h] at e0;grind
   refine .inr ⟨by grind,hb',?_⟩
   have h1:=qld (a:=a) (b:=(-b)*T0) (by grind) (by grind)
   have h2:=Rat.mul_le_mul_of_nonneg_left k0 (show 0≤b*b by have:=Rat.mul_nonneg (show 0≤-b by grind) (show 0≤-b by grind);grind)
   grind
 ·have hb':0≤b:=by grind
  have h3:=Rat.mul_nonneg hb' h0
  refine .inl ⟨by grind,.inr (.inr ?_)⟩
  have h3:=Rat.mul_nonneg hb' (show 0≤T1 by grind)
  have h1:=qld (a:=b*T1) (b:=-a) h3 (by grind)
  have h2:=Rat.mul_le_mul_of_nonneg_left k1 (Rat.mul_nonneg hb' hb')
  grind
theorem qwI{a b c:Rat}(hc:0≤c)(h:qf5 a b c≤0):∃T,0≤T∧T*T≤c∧∀S,T≤S→S*S≤c→a+b*S≤0:=by
 rw[qoe hc] at h
 by_cases hb:b<0
 ·by_cases ha:a≤0
  ·refine⟨0,by grind,by grind,fun S h1 h2=>?_⟩
   have:=Rat.mul_nonneg (show 0≤-b by grind) h1
   grind
  ·rcases h with h|⟨h1,h2,h3⟩
   ·exact absurd h.1 ha
   ·have hq:a/(-b)*(-b)=a:=Rat.div_mul_cancel (by grind)
    have hq0:0≤a/(-b):=by
     apply Rat.not_lt.1;intro hn
     have:=Rat.mul_pos (show 0 < -(a/(-b)) by grind) (show 0 < -b by grind)
     grind
    generalize a/(-b)=T at *
    refine⟨T,hq0,?_,fun S hS _=>?_⟩
    ·apply Rat.not_lt.1;intro hn
     have:=Rat.mul_pos (show 0<T*T-c by grind) (Rat.mul_pos (show 0 < -b by grind) (show 0 < -b by grind))
     have e:a*a=T*T*(b*b):=by rw[←hq];grind
     rw[e] at h3;clear e hq;grind
    ·have:=Rat.mul_nonneg (show 0≤-b by grind) (show 0≤S-T by grind)
     grind
 ·refine⟨0,by grind,by grind,fun S h1 h2=>?_⟩
  rcases h with⟨h3,h4⟩|⟨_,h5,_⟩
  ·rcases h4 with h4|h4|h4
   ·have:b=0:=by grind
    rw[this];grind
   ·have:S*S≤0:=by grind
    have h6:=qsN (a:=S) (b:=0) (by grind) (by grind)
    have:S=0:=by grind
    rw[this];grind
   ·have k1:=Rat.mul_le_mul_of_nonneg_left h2 (Rat.mul_nonneg (show 0≤b by grind) (show 0≤b by grind))
    have:=qsN (a:=b*S) (b:=-a) (by grind) (by grind)
    grind
  ·exact absurd h5 hb
def pw(d:DQ)(x y:Rat):Rat:=(x-d.x)*(x-d.x)+(y-d.y)*(y-d.y)-d.s
def qf8(l:List DQ):Prop:=∃x y:Rat,∀d∈l,pw d x y≤0
theorem qf8.mono{l l':List DQ}(h:qf8 l)(hs:∀d∈l',d∈l):qf8 l':=by
 obtain⟨x,y,h⟩:=h
 exact⟨x,y,fun d hd=>h d (hs d hd)⟩
theorem qwv(d:DQ)(p:SQ)(T:Rat):pw d (p.fx+T*p.ax) (p.fy+T*p.ay)=kA d p+kB d p*T+(p.ax*p.ax+p.ay*p.ay)*(T*T-p.h):=by
 unfold pw kA kB;grind
theorem q8k(a:Rat):0≤a*a:=by
 rcases Rat.le_total (a:=0) (b:=a) with h|h
 ·exact Rat.mul_nonneg h h
 ·have:=Rat.mul_nonneg (show 0≤-a by grind) (show 0≤-a by grind);grind
theorem qnj(p:SQ)(hn:0≤p.h):∀l:List DQ,(∀d∈l,q0o d p)→∃T,0≤T∧T*T≤p.h∧∀d∈l,∀S,T≤S→S*S≤p.h→kA d p+kB d p*S≤0
 | [],_=>⟨0,by grind,by grind,fun d hd=>by cases hd⟩
 | a::l,h=>by
  obtain⟨T,h1,h2,h3⟩:=qnj p hn l fun d hd=>h d (List.mem_cons_of_mem _ hd)
  obtain⟨T',k1,k2,k3⟩:=qwI hn (h a List.mem_cons_self)
  rcases Rat.le_total (a:=T) (b:=T') with hT|hT
  ·refine⟨T',k1,k2,fun d hd S hS hS2=>?_⟩
   rcases List.mem_cons.1 hd with rfl|hd
   ·exact k3 S hS hS2
   ·exact h3 d hd S (Rat.le_trans hT hS) hS2
  ·refine⟨T,h1,h2,fun d hd S hS hS2=>?_⟩
   rcases List.mem_cons.1 hd with rfl|hd
   ·exact k3 S (Rat.le_trans hT hS) hS2
   ·exact h3 d hd S hS hS2
theorem qoG{l:List DQ}{p:SQ}(hn:0≤p.h)(h:∀d∈l,q0o d p):qf8 l:=by
 obtain⟨T,h1,h2,h3⟩:=qnj p hn l h
 refine⟨p.fx+T*p.ax,p.fy+T*p.ay,fun d hd=>?_⟩
 rw[qwv]
 have k1:=h3 d hd T (Rat.le_refl) h2
 have k2:=Rat.mul_nonneg (show 0≤p.ax*p.ax+p.ay*p.ay by have:=q8k p.ax;have:=q8k p.ay;grind) (show 0≤p.h-T*T by grind)
 grind
theorem qBE{A B C D p q r s:Rat}(_:A≤0)(_:B≤0)(_:C≤0)(_:D≤0)(_:0≤p)(_:0≤q)(_:0≤r)(_:0≤s):A+B+C+D-(p+q+r+s)≤0:=by grind
theorem qyz{x1 y1 x2 y2 x3 y3 x4 y4 m1 m2 m3 m4 X Y:Rat}(h1:0≤m1)(h2:0≤m2)(h3:0≤m3)(h4:0≤m4)(hM:0<m1+m2+m3+m4)
  (hX:X*(m1+m2+m3+m4)=m1*x1+m2*x2+m3*x3+m4*x4) (hY:Y*(m1+m2+m3+m4)=m1*y1+m2*y2+m3*y3+m4*y4) (d:DQ)
  (k1:m1=0∨pw d x1 y1≤0) (k2:m2=0∨pw d x2 y2≤0) (k3:m3=0∨pw d x3 y3≤0) (k4:m4=0∨pw d x4 y4≤0):pw d X Y≤0:=by
 have aux:∀{m a:Rat},0≤m→(m=0∨a≤0)→m*a≤0:=fun {m a} hm h=>by
  rcases h with rfl|h
  ·grind
  ·have:=Rat.mul_nonneg hm (show 0≤-a by grind);grind
 have e1:=aux h1 k1
 have e2:=aux h2 k2
 have e3:=aux h3 k3
 have e4:=aux h4 k4
 have s1:=Rat.mul_nonneg h1 (show 0≤(x1-X)*(x1-X)+(y1-Y)*(y1-Y) by have:=q8k (x1-X);have:=q8k (y1-Y);grind)
 have s2:=Rat.mul_nonneg h2 (show 0≤(x2-X)*(x2-X)+(y2-Y)*(y2-Y) by have:=q8k (x2-X);have:=q8k (y2-Y);grind)
 have s3:=Rat.mul_nonneg h3 (show 0≤(x3-X)*(x3-X)+(y3-Y)*(y3-Y) by have:=q8k (x3-X);have:=q8k (y3-Y);grind)
 have s4:=Rat.mul_nonneg h4 (show 0≤(x4-X)*(x4-X)+(y4-Y)*(y4-Y) by have:=q8k (x4-X);have:=q8k (y4-Y);grind)
 have key:(m1+m2+m3+m4)*pw d X Y=(m1*pw d x1 y1+m2*pw d x2 y2+m3*pw d x3 y3+m4*pw d x4 y4)
   - (m1*((x1-X)*(x1-X)+(y1-Y)*(y1-Y))+m2*((x2-X)*(x2-X)+(y2-Y)*(y2-Y))+m3*((x3-X)*(x3-X)+(y3-Y)*(y3-Y))+m4*((x4-X)*(x4-X)+(y4-Y)*(y4-Y))):=by
  have eX:m1*(x1-X)+m2*(x2-X)+m3*(x3-X)+m4*(x4-X)=0:=by grind
  have eY:m1*(y1-Y)+m2*(y2-Y)+m3*(y3-Y)+m4*(y4-Y)=0:=by grind
  have key0:(m1+m2+m3+m4)*pw d X Y=(m1*pw d x1 y1+m2*pw d x2 y2+m3*pw d x3 y3+m4*pw d x4 y4)
   - (m1*((x1-X)*(x1-X)+(y1-Y)*(y1-Y))+m2*((x2-X)*(x2-X)+(y2-Y)*(y2-Y))+m3*((x3-X)*(x3-X)+(y3-Y)*(y3-Y))+m4*((x4-X)*(x4-X)+(y4-Y)*(y4-Y)))
   - 2*((X-d.x)*(m1*(x1-X)+m2*(x2-X)+m3*(x3-X)+m4*(x4-X))+(Y-d.y)*(m1*(y1-Y)+m2*(y2-Y)+m3*(y3-Y)+m4*(y4-Y))):=by
   unfold pw
   clear hX hY eX eY e1 e2 e3 e4 s1 s2 s3 s4 k1 k2 k3 k4 h1 h2 h3 h4 hM aux
   grind
  rw[key0,eX,eY];grind
 apply Rat.not_lt.1
 intro hn
 have hpos:=Rat.mul_pos hM hn
 rw[key] at hpos
 exact absurd (qBE e1 e2 e3 e4 s1 s2 s3 s4) (Rat.not_le.2 hpos)
theorem qk7(a:Rat):∃m n:Rat,0≤m∧0≤n∧a=m-n∧(m=0∨n=0):=by
 rcases Rat.le_total (a:=0) (b:=a) with h|h
 ·exact⟨a,0,h,by grind,by grind,.inr rfl⟩
 ·exact⟨0,-a,by grind,by grind,by grind,.inl rfl⟩
theorem qom{x1 y1 x2 y2 x3 y3 x4 y4 t1 t2 t3 t4:Rat}(h0:t1+t2+t3+t4=0)(hx:t1*x1+t2*x2+t3*x3+t4*x4=0)(hy:t1*y1+t2*y2+t3*y3+t4*y4=0)
  (hn:¬(t1=0∧t2=0∧t3=0∧t4=0)):∃X Y,∀d:DQ,((pw d x2 y2≤0∧pw d x3 y3≤0∧pw d x4 y4≤0)∨(pw d x1 y1≤0∧pw d x3 y3≤0∧pw d x4 y4≤0)∨(pw d x1 y1≤0∧pw d x2 y2≤0∧pw d x4 y4≤0)∨(pw d x1 y1≤0∧pw d x2 y2≤0∧pw d x3 y3≤0))→pw d X Y≤0:=by
 obtain⟨m1,n1,a1,b1,rfl,c1⟩:=qk7 t1
 obtain⟨m2,n2,a2,b2,rfl,c2⟩:=qk7 t2
 obtain⟨m3,n3,a3,b3,rfl,c3⟩:=qk7 t3
 obtain⟨m4,n4,a4,b4,rfl,c4⟩:=qk7 t4
 have hM:0<m1+m2+m3+m4:=by
  apply Rat.not_le.1;intro hle
  exact hn ⟨by grind,by grind,by grind,by grind⟩
 have hN:0<n1+n2+n3+n4:=by grind
 have hM0:m1+m2+m3+m4≠0:=by grind
 refine⟨(m1*x1+m2*x2+m3*x3+m4*x4)/(m1+m2+m3+m4),(m1*y1+m2*y2+m3*y3+m4*y4)/(m1+m2+m3+m4),fun d hd=>?_⟩
 have eX:(m1*x1+m2*x2+m3*x3+m4*x4)/(m1+m2+m3+m4)*(m1+m2+m3+m4)=m1*x1+m2*x2+m3*x3+m4*x4:=Rat.div_mul_cancel hM0
 have eY:(m1*y1+m2*y2+m3*y3+m4*y4)/(m1+m2+m3+m4)*(m1+m2+m3+m4)=m1*y1+m2*y2+m3*y3+m4*y4:=Rat.div_mul_cancel hM0
 generalize (m1*x1+m2*x2+m3*x3+m4*x4)/(m1+m2+m3+m4)=X at *
 generalize (m1*y1+m2*y2+m3*y3+m4*y4)/(m1+m2+m3+m4)=Y at *
 have hS:n1+n2+n3+n4=m1+m2+m3+m4:=by grind
 have fX:X*(n1+n2+n3+n4)=n1*x1+n2*x2+n3*x3+n4*x4:=by rw[hS,eX];grind
 have fY:Y*(n1+n2+n3+n4)=n1*y1+n2*y2+n3*y3+n4*y4:=by rw[hS,eY];grind
 have P:=qyz a1 a2 a3 a4 hM eX eY d
 have Q:=qyz b1 b2 b3 b4 hN fX fY d
 rcases hd with⟨p2,p3,p4⟩|⟨p1,p3,p4⟩|⟨p1,p2,p4⟩|⟨p1,p2,p3⟩
 ·rcases c1 with c|c
  ·exact P (.inl c) (.inr p2) (.inr p3) (.inr p4)
  ·exact Q (.inl c) (.inr p2) (.inr p3) (.inr p4)
 ·rcases c2 with c|c
  ·exact P (.inr p1) (.inl c) (.inr p3) (.inr p4)
  ·exact Q (.inr p1) (.inl c) (.inr p3) (.inr p4)
 ·rcases c3 with c|c
  ·exact P (.inr p1) (.inr p2) (.inl c) (.inr p4)
  ·exact Q (.inr p1) (.inr p2) (.inl c) (.inr p4)
 ·rcases c4 with c|c
  ·exact P (.inr p1) (.inr p2) (.inr p3) (.inl c)
  ·exact Q (.inr p1) (.inr p2) (.inr p3) (.inl c)
def qrb(x1 y1 x2 y2 x3 y3:Rat):Rat:=(x2-x1)*(y3-y1)-(x3-x1)*(y2-y1)
theorem qBp(x1 y1 x2 y2 x3 y3 x4 y4:Rat):∃X Y,∀d:DQ,((pw d x2 y2≤0∧pw d x3 y3≤0∧pw d x4 y4≤0)∨(pw d x1 y1≤0∧pw d x3 y3≤0∧pw d x4 y4≤0)∨(pw d x1 y1≤0∧pw d x2 y2≤0∧pw d x4 y4≤0)∨(pw d x1 y1≤0∧pw d x2 y2≤0∧pw d x3 y3≤0))→pw d X Y≤0:=by
 by_cases h:qrb x2 y2 x3 y3 x4 y4=0∧-qrb x1 y1 x3 y3 x4 y4=0∧qrb x1 y1 x2 y2 x4 y4=0∧-qrb x1 y1 x2 y2 x3 y3=0
 ·by_cases e:x1=x2∧y1=y2
  ·exact qom (t1:=1) (t2:=-1) (t3:=0) (t4:=0) (by grind) (by grind) (by grind) (by grind)
  ·have hA:(x2-x1)*(y3-y1)-(x3-x1)*(y2-y1)=0:=by have:=h.2.2.2;unfold qrb at this;grind
   have hD:(x2-x1)*(x2-x1)+(y2-y1)*(y2-y1)≠0:=by
    intro h0
    have s1:=q8k (x2-x1)
    have s2:=q8k (y2-y1)
    have z1:(x2-x1)*(x2-x1)=0:=by grind
    have z2:(y2-y1)*(y2-y1)=0:=by grind
    rcases Rat.mul_eq_zero.1 z1 with h1|h1<;>rcases Rat.mul_eq_zero.1 z2 with h2|h2<;>exact e ⟨by grind,by grind⟩
   have hu:((x3-x1)*(x2-x1)+(y3-y1)*(y2-y1))/((x2-x1)*(x2-x1)+(y2-y1)*(y2-y1))*((x2-x1)*(x2-x1)+(y2-y1)*(y2-y1))=(x3-x1)*(x2-x1)+(y3-y1)*(y2-y1):=Rat.div_mul_cancel hD
   generalize ((x3-x1)*(x2-x1)+(y3-y1)*(y2-y1))/((x2-x1)*(x2-x1)+(y2-y1)*(y2-y1))=u at *
   have cancel:∀z:Rat,z*((x2-x1)*(x2-x1)+(y2-y1)*(y2-y1))=0→z=0:=fun z hz=>by
    rcases Rat.mul_eq_zero.1 hz with h|h
    ·exact h
    ·exact absurd h hD
   have kx:(1-u)*x1+u*x2-x3=0:=cancel _ (by clear h e hD cancel;grind)
   have ky:(1-u)*y1+u*y2-y3=0:=cancel _ (by clear h e hD cancel kx;grind)
   exact qom (t1:=1-u) (t2:=u) (t3:=-1) (t4:=0) (by grind) (by grind) (by grind) (by grind)
 ·exact qom (t1:=qrb x2 y2 x3 y3 x4 y4) (t2:=-qrb x1 y1 x3 y3 x4 y4) (t3:=qrb x1 y1 x2 y2 x4 y4) (t4:=-qrb x1 y1 x2 y2 x3 y3) (by unfold qrb;grind) (by unfold qrb;grind) (by unfold qrb;grind) h
theorem qAj:∀(n:Nat) (l:List DQ),l.length≤n→(∀x∈l,∀y∈l,∀z∈l,qf8 [x,y,z])→qf8 l
 | _,[],_,_=>⟨0,0,fun d hd=>by cases hd⟩
 | _,[x],_,h=>(h x (by simp) x (by simp) x (by simp)).mono (by simp)
 | _,[x,y],_,h=>(h x (by simp) y (by simp) y (by simp)).mono (by simp)
 | _,[x,y,z],_,h=>(h x (by simp) y (by simp) z (by simp)).mono (by simp)
 | 0,a::b::c::d::r,hl,_=>by simp at hl
 | n+1,a::b::c::d::r,hl,h=>by
  simp only[List.length_cons] at hl
  have sub:∀l':List DQ,(∀x∈l',x∈a::b::c::d::r)→l'.length≤n→qf8 l':=fun l' hs hn=>
   qAj n l' hn fun x hx y hy z hz=>h x (hs x hx) y (hs y hy) z (hs z hz)
  obtain⟨x1,y1,p1⟩:=sub (b::c::d::r) (by intro x hx;simp at hx ⊢;grind) (by simp only[List.length_cons];omega)
  obtain⟨x2,y2,p2⟩:=sub (a::c::d::r) (by intro x hx;simp at hx ⊢;grind) (by simp only[List.length_cons];omega)
  obtain⟨x3,y3,p3⟩:=sub (a::b::d::r) (by intro x hx;simp at hx ⊢;grind) (by simp only[List.length_cons];omega)
  obtain⟨x4,y4,p4⟩:=sub (a::b::c::r) (by intro x hx;simp at hx ⊢;grind) (by simp only[List.length_cons];omega)
  obtain⟨X,Y,hX⟩:=qBp x1 y1 x2 y2 x3 y3 x4 y4
  refine⟨X,Y,fun e he=>hX e ?_⟩
  simp only[List.mem_cons] at he
  rcases he with rfl|rfl|rfl|rfl|he
  ·exact .inl ⟨p2 _ (by simp),p3 _ (by simp),p4 _ (by simp)⟩
  ·exact .inr (.inl ⟨p1 _ (by simp),p3 _ (by simp),p4 _ (by simp)⟩)
  ·exact .inr (.inr (.inl ⟨p1 _ (by simp),p2 _ (by simp),p4 _ (by simp)⟩))
  ·exact .inr (.inr (.inr ⟨p1 _ (by simp),p2 _ (by simp),p3 _ (by simp)⟩))
  ·exact .inl ⟨p2 _ (by simp[he]),p3 _ (by simp[he]),p4 _ (by simp[he])⟩
end Go.Eng

namespace Go.Eng
theorem qr2{ι:Type}(f:ι→Rat):∀(L:List ι),L≠[]→∃a∈L,∀k∈L,f k≤f a
 | [],h=>absurd rfl h
 | [a],_=>⟨a,by simp,fun k hk=>by simp at hk;rw[hk];exact Rat.le_refl⟩
 | a::b::r,_=>by
  obtain⟨m,hm,h⟩:=qr2 f (b::r) (by simp)
  rcases Rat.le_total (a:=f a) (b:=f m) with hle|hle
  ·refine⟨m,List.mem_cons_of_mem _ hm,fun k hk=>?_⟩
   rcases List.mem_cons.1 hk with rfl|hk
   ·exact hle
   ·exact h k hk
  ·refine⟨a,List.mem_cons_self,fun k hk=>?_⟩
   rcases List.mem_cons.1 hk with rfl|hk
   ·exact Rat.le_refl
   ·exact Rat.le_trans (h k hk) hle
theorem hit{ι:Type}(al be:ι→Rat):∀(L:List ι),(∀k∈L,al k≤0)→(∃k∈L,0<be k)→∃t,0≤t∧(∀k∈L,al k+be k*t≤0)∧∃b∈L,0<be b∧al b+be b*t=0
 | [],_,h=>by obtain⟨k,hk,_⟩:=h;cases hk
 | a::L,h0,h1=>by
  have hLn:∀k∈L,al k≤0:=fun k hk=>h0 k (List.mem_cons_of_mem _ hk)
  have ha0:=h0 a List.mem_cons_self
  by_cases ha:0<be a
  ·obtain⟨ta,hta⟩:∃ta,ta=-al a/be a:=⟨_,rfl⟩
   have eta:ta*be a=-al a:=by rw[hta];exact Rat.div_mul_cancel (by grind)
   have ta0:0≤ta:=by
    apply Rat.not_lt.1;intro hn
    have:=Rat.mul_pos (show 0 < -ta by grind) ha
    grind
   have own:al a+be a*ta=0:=by grind
   by_cases hL:∃k∈L,0<be k
   ·obtain⟨t,k1,k2,b,hb,k3,k4⟩:=hit al be L hLn hL
    rcases Rat.le_total (a:=t) (b:=ta) with hle|hle
    ·refine⟨t,k1,fun k hk=>?_,b,List.mem_cons_of_mem _ hb,k3,k4⟩
     rcases List.mem_cons.1 hk with rfl|hk
     ·have:=Rat.mul_nonneg (show 0≤be k by grind) (show 0≤ta-t by grind);grind
     ·exact k2 k hk
    ·refine⟨ta,ta0,fun k hk=>?_,a,List.mem_cons_self,ha,own⟩
     rcases List.mem_cons.1 hk with rfl|hk
     ·grind
     ·rcases Rat.le_total (a:=0) (b:=be k) with hb|hb
      ·have:=Rat.mul_nonneg hb (show 0≤t-ta by grind);have:=k2 k hk;grind
      ·have:=Rat.mul_nonneg (show 0≤-be k by grind) ta0;have:=hLn k hk;grind
   ·refine⟨ta,ta0,fun k hk=>?_,a,List.mem_cons_self,ha,own⟩
    rcases List.mem_cons.1 hk with rfl|hk
    ·grind
    ·have hb:be k≤0:=Rat.not_lt.1 fun hn=>hL ⟨k,hk,hn⟩
     have:=Rat.mul_nonneg (show 0≤-be k by grind) ta0;have:=hLn k hk;grind
  ·have hL:∃k∈L,0<be k:=by
    obtain⟨k,hk,h⟩:=h1
    rcases List.mem_cons.1 hk with rfl|hk
    ·exact absurd h ha
    ·exact⟨k,hk,h⟩
   obtain⟨t,k1,k2,b,hb,k3,k4⟩:=hit al be L hLn hL
   refine⟨t,k1,fun k hk=>?_,b,List.mem_cons_of_mem _ hb,k3,k4⟩
   rcases List.mem_cons.1 hk with rfl|hk
   ·have:=Rat.mul_nonneg (show 0≤-be k by grind) k1;grind
   ·exact k2 k hk
theorem qoB{a:Rat}(h:a*a≤0):a=0:=by
 have:=q8k a
 rcases Rat.mul_eq_zero.1 (show a*a=0 by grind) with h|h<;>exact h
theorem qk5{a b c d:Rat}(h:q1J a b c d=0):a=c∧b=d:=by
 unfold q1J at h
 have s1:=q8k (a-c)
 have s2:=q8k (b-d)
 have:=qoB (a:=a-c) (by grind)
 have:=qoB (a:=b-d) (by grind)
 exact⟨by grind,by grind⟩
theorem qx2(a b c d:Rat):0≤q1J a b c d:=by
 unfold q1J
 have s1:=q8k (a-c)
 have s2:=q8k (b-d)
 grind
theorem qzL{l:List DQ}{x y:Rat}(hl:l≠[])(hs:∀d∈l,0≤d.s)(h:∀d∈l,pw d x y≤0) :
  (∃a∈l,∀d∈l,pw d a.x a.y≤0)∨∃a∈l,∃b∈l,∃X Y,q1J b.x b.y a.x a.y≠0∧pw b X Y=pw a X Y∧(∀d∈l,pw d X Y≤pw a X Y)∧pw a X Y≤0:=by
 obtain⟨a,ha,hmax⟩:=qr2 (fun d=>pw d x y) l hl
 by_cases hc:∀d∈l,pw d a.x a.y≤0
 ·exact .inl ⟨a,ha,hc⟩
 ·have hex:∃k∈l,0<pw k a.x a.y:=by
   by_cases hn:∃k∈l,0<pw k a.x a.y
   ·exact hn
   ·exact absurd (fun d hd=>Rat.not_lt.1 fun h0=>hn ⟨d,hd,h0⟩) hc
  obtain⟨k0,hk0,hp⟩:=hex
  have hsa:=hs a ha
  have paa:pw a a.x a.y=-a.s:=by unfold pw;grind
  obtain⟨al,hal⟩:∃al:DQ→Rat,al=fun k=>pw k x y-pw a x y:=⟨_,rfl⟩
  obtain⟨be,hbe⟩:∃be:DQ→Rat,be=fun k=>pw k a.x a.y-pw a a.x a.y-(pw k x y-pw a x y):=⟨_,rfl⟩
  have al0:∀k∈l,al k≤0:=fun k hk=>by rw[hal];have:=hmax k hk;simp only at this ⊢;grind
  have be0:al k0+be k0>0:=by rw[hal,hbe];simp only;grind
  obtain⟨t,t0,ht,b,hb,hb1,hb2⟩:=hit al be l al0 ⟨k0,hk0,by have:=al0 k0 hk0;grind⟩
  have line:∀k,pw k (x+t*(a.x-x)) (y+t*(a.y-y))-pw a (x+t*(a.x-x)) (y+t*(a.y-y))=al k+be k*t:=fun k=>by
   rw[hal,hbe];simp only;unfold pw;grind
  have t1:t≤1:=by
   apply Rat.not_lt.1;intro hn
   have h1:=ht k0 hk0
   have h2:=al0 k0 hk0
   have:=Rat.mul_pos (show 0<be k0 by grind) (show 0<t-1 by grind)
   grind
  refine .inr ⟨a,ha,b,hb,x+t*(a.x-x),y+t*(a.y-y),fun hf=>?_,?_,fun d hd=>?_,?_⟩
  ·obtain⟨e1,e2⟩:=qk5 hf
   have:be b=0:=by rw[hbe];simp only;unfold pw;rw[e1,e2];grind
   grind
  ·have:=line b;grind
  ·have:=line d;have:=ht d hd;grind
  ·have h1:=h a ha
   have e:pw a (x+t*(a.x-x)) (y+t*(a.y-y))=(1-t)*(1-t)*((x-a.x)*(x-a.x)+(y-a.y)*(y-a.y))-a.s:=by unfold pw;grind
   have q:0≤(x-a.x)*(x-a.x)+(y-a.y)*(y-a.y):=by have:=q8k (x-a.x);have:=q8k (y-a.y);grind
   have m:=qld (a:=1-t) (b:=1) (by grind) (by grind)
   have:=Rat.mul_nonneg (show 0≤1-(1-t)*(1-t) by grind) q
   rw[e]
   have:pw a x y=(x-a.x)*(x-a.x)+(y-a.y)*(y-a.y)-a.s:=rfl
   grind
theorem qkr{a b:DQ}(neg:Bool)(hf:q1J b.x b.y a.x a.y≠0) :
  (qj a b neg).ax*(qj a b neg).ax+(qj a b neg).ay*(qj a b neg).ay=q1J b.x b.y a.x a.y ∧
  (qj a b neg).ax*(b.x-a.x)+(qj a b neg).ay*(b.y-a.y)=0 ∧
  (qj a b neg).ax*((qj a b neg).fx-a.x)+(qj a b neg).ay*((qj a b neg).fy-a.y)=0 ∧
  2*(((qj a b neg).fx-a.x)*(b.x-a.x)+((qj a b neg).fy-a.y)*(b.y-a.y))=q1J b.x b.y a.x a.y+a.s-b.s ∧
  kA a (qj a b neg)=0∧kB a (qj a b neg)=0∧kA b (qj a b neg)=0∧kB b (qj a b neg)=0:=by
 obtain⟨far,hfar⟩:∃far,far=q1J b.x b.y a.x a.y:=⟨_,rfl⟩
 obtain⟨t,ht⟩:∃t,t=(far+a.s-b.s)/(2*far):=⟨_,rfl⟩
 obtain⟨h,hh⟩:∃h,h=a.s/far-t*t:=⟨_,rfl⟩
 rw[←hfar] at hf
 have h2f:2*far≠0:=by grind
 have ht':2*far*t=far+a.s-b.s:=by
  rw[ht,Rat.mul_comm];exact Rat.div_mul_cancel h2f
 have hh':far*h=a.s-far*(t*t):=by
  have:a.s/far*far=a.s:=Rat.div_mul_cancel hf
  rw[hh];grind
 have hc:qj a b neg=⟨a.x+t*(b.x-a.x),a.y+t*(b.y-a.y),if neg then b.y-a.y else 0-(b.y-a.y),if neg then 0-(b.x-a.x) else b.x-a.x,h⟩:=by
  rw[hh,ht,hfar];rfl
 have hfar':far=(b.x-a.x)*(b.x-a.x)+(b.y-a.y)*(b.y-a.y):=hfar
 rw[hc,←hfar]
 unfold kA kB
 clear hc hfar ht hh
 cases neg
 ·simp only[Bool.false_eq_true,if_false]
  refine⟨by grind,by grind,by grind,by grind,by grind,by grind,by grind,by grind⟩
 ·simp only[if_true]
  refine⟨by grind,by grind,by grind,by grind,by grind,by grind,by grind,by grind⟩
theorem qtY(a b:DQ):(qj a b true).ax=-(qj a b false).ax∧(qj a b true).ay=-(qj a b false).ay:=by
 unfold qj
 simp only[Bool.false_eq_true,if_false,if_true]
 exact⟨by grind,by grind⟩
theorem qps{l:List DQ}{a b:DQ}{x y:Rat}(neg:Bool)(hf:q1J b.x b.y a.x a.y≠0)(hab:pw b x y=pw a x y)(hm:∀d∈l,pw d x y≤pw a x y)(h0:pw a x y≤0)
  (hv:0≤(qj a b neg).ax*(x-a.x)+(qj a b neg).ay*(y-a.y)) :
  (0≤(qj a b neg).h∧∀d∈l,q0o d (qj a b neg)) ∨
  ∃t k,0≤t∧k∈l∧(qj a b neg).ax*(k.x-a.x)+(qj a b neg).ay*(k.y-a.y)<0∧pw k (x+t*(qj a b neg).ax) (y+t*(qj a b neg).ay)=pw a (x+t*(qj a b neg).ax) (y+t*(qj a b neg).ay) ∧
   pw b (x+t*(qj a b neg).ax) (y+t*(qj a b neg).ay)=pw a (x+t*(qj a b neg).ax) (y+t*(qj a b neg).ay)∧(∀d∈l,pw d (x+t*(qj a b neg).ax) (y+t*(qj a b neg).ay)≤pw a (x+t*(qj a b neg).ax) (y+t*(qj a b neg).ay)) ∧
   pw a (x+t*(qj a b neg).ax) (y+t*(qj a b neg).ay)≤0:=by
 obtain⟨f1,f2,f3,f4,f5,f6,f7,f8⟩:=qkr neg hf
 have hpos:0<q1J b.x b.y a.x a.y:=by have:=qx2 b.x b.y a.x a.y;grind
 have hfd:q1J b.x b.y a.x a.y=(b.x-a.x)*(b.x-a.x)+(b.y-a.y)*(b.y-a.y):=rfl
 have hax:(qj a b neg).ax=if neg then b.y-a.y else 0-(b.y-a.y):=rfl
 have hay:(qj a b neg).ay=if neg then 0-(b.x-a.x) else b.x-a.x:=rfl
 generalize qj a b neg=p at *
 generalize q1J b.x b.y a.x a.y=far at *
 obtain⟨T0,hT0⟩:∃T0,T0=(p.ax*(x-p.fx)+p.ay*(y-p.fy))/far:=⟨_,rfl⟩
 have eT0:T0*far=p.ax*(x-p.fx)+p.ay*(y-p.fy):=by rw[hT0];exact Rat.div_mul_cancel hf
 have hp:(x-p.fx)*(b.x-a.x)+(y-p.fy)*(b.y-a.y)=0:=by
  unfold pw at hab;grind
 have cancel:∀z:Rat,z*far=0→z=0:=fun z hz=>by
  rcases Rat.mul_eq_zero.1 hz with h|h
  ·exact h
  ·exact absurd h hf
 have ex:x=p.fx+T0*p.ax:=by
  have:x-p.fx-T0*p.ax=0:=cancel _ (by
   have e:(x-p.fx-T0*p.ax)*far=(x-p.fx)*far-p.ax*(T0*far):=by grind
   rw[e,eT0,hfd]
   cases neg
   ·simp only[Bool.false_eq_true,if_false] at hax hay;rw[hax,hay];clear hax hay eT0 hT0 f1 f2 f3 f4 f5 f6 f7 f8 hv hab;grind
   ·simp only[if_true] at hax hay;rw[hax,hay];clear hax hay eT0 hT0 f1 f2 f3 f4 f5 f6 f7 f8 hv hab;grind)
  grind
 have ey:y=p.fy+T0*p.ay:=by
  have:y-p.fy-T0*p.ay=0:=cancel _ (by
   have e:(y-p.fy-T0*p.ay)*far=(y-p.fy)*far-p.ay*(T0*far):=by grind
   rw[e,eT0,hfd]
   cases neg
   ·simp only[Bool.false_eq_true,if_false] at hax hay;rw[hax,hay];clear hax hay eT0 hT0 f1 f2 f3 f4 f5 f6 f7 f8 hv hab ex;grind
   ·simp only[if_true] at hax hay;rw[hax,hay];clear hax hay eT0 hT0 f1 f2 f3 f4 f5 f6 f7 f8 hv hab ex;grind)
  grind
 have T0n:0≤T0:=by
  apply Rat.not_lt.1;intro hn
  have:=Rat.mul_pos (show 0 < -T0 by grind) hpos
  grind
 have line:∀d T,pw d (p.fx+T*p.ax) (p.fy+T*p.ay)=kA d p+kB d p*T+far*(T*T-p.h):=fun d T=>by rw[qwv,f1]
 have lineA:∀T,pw a (p.fx+T*p.ax) (p.fy+T*p.ay)=far*(T*T-p.h):=fun T=>by rw[line,f5,f6];grind
 have lineB:∀T,pw b (p.fx+T*p.ax) (p.fy+T*p.ay)=far*(T*T-p.h):=fun T=>by rw[line,f7,f8];grind
 have at0:∀d∈l,kA d p+kB d p*T0≤0:=fun d hd=>by
  have:=hm d hd
  rw[ex,ey,line,lineA] at this
  grind
 have hT:T0*T0≤p.h:=by
  rw[ex,ey,lineA] at h0
  apply Rat.not_lt.1;intro hn
  have:=Rat.mul_pos hpos (show 0<T0*T0-p.h by grind)
  grind
 have hn:0≤p.h:=by have:=q8k T0;grind
 have kb:∀d:DQ,kB d p=-(2*(p.ax*(d.x-a.x)+p.ay*(d.y-a.y))):=fun d=>by unfold kB;grind
 have all:∀T1,T0≤T1→p.h≤T1*T1→(∀d∈l,kA d p+kB d p*T1≤0)→0≤p.h∧∀d∈l,q0o d p:=fun T1 h1 h2 h3=>
  ⟨hn,fun d hd=>quQ T0n h1 hT h2 (at0 d hd) (h3 d hd)⟩
 by_cases hk:∃k∈l,0<kB k p
 ·obtain⟨t,t0,ht,k,hk,hk1,hk2⟩:=hit (fun d=>kA d p+kB d p*T0) (fun d=>kB d p) l at0 hk
  by_cases hle:(T0+t)*(T0+t)≤p.h
  ·have eX:x+t*p.ax=p.fx+(T0+t)*p.ax:=by grind
   have eY:y+t*p.ay=p.fy+(T0+t)*p.ay:=by grind
   refine .inr ⟨t,k,t0,hk,?_,?_,?_,fun d hd=>?_,?_⟩
   ·rw[kb] at hk1;grind
   ·rw[eX,eY,line,lineA];grind
   ·rw[eX,eY,lineA,lineB]
   ·rw[eX,eY,line,lineA];have:=ht d hd;grind
   ·rw[eX,eY,lineA]
    have:=Rat.mul_nonneg (show 0≤far by grind) (show 0≤p.h-(T0+t)*(T0+t) by grind);grind
  ·exact .inl (all (T0+t) (by grind) (by grind) fun d hd=>by have:=ht d hd;grind)
 ·refine .inl (all (T0+p.h+1) (by grind) ?_ fun d hd=>?_)
  ·have:=qld (a:=p.h+1) (b:=T0+p.h+1) (by grind) (by grind)
   have:=Rat.mul_nonneg hn hn
   grind
  ·have h1:kB d p≤0:=Rat.not_lt.1 fun h=>hk ⟨d,hd,h⟩
   have:=Rat.mul_nonneg (show 0≤-kB d p by grind) (show 0≤p.h+1 by grind)
   have:=at0 d hd
   grind
def Vx(l:List DQ)(x y:Rat)(t:DQ×DQ×DQ):Prop:=
 qrb t.1.x t.1.y t.2.1.x t.2.1.y t.2.2.x t.2.2.y≠0∧pw t.2.1 x y=pw t.1 x y∧pw t.2.2 x y=pw t.1 x y∧(∀d∈l,pw d x y≤pw t.1 x y)∧pw t.1 x y≤0
theorem qzt{l:List DQ}{x y x' y':Rat}{t:DQ×DQ×DQ}(h:Vx l x y t)(h':Vx l x' y' t):x=x'∧y=y':=by
 obtain⟨a,b,c⟩:=t
 obtain⟨hA,h1,h2,-,-⟩:=h
 obtain⟨-,h1',h2',-,-⟩:=h'
 unfold pw qrb at *
 simp only at *
 have e1:(x-x')*(b.x-a.x)+(y-y')*(b.y-a.y)=0:=by grind
 have e2:(x-x')*(c.x-a.x)+(y-y')*(c.y-a.y)=0:=by grind
 generalize b.x-a.x=p at *
 generalize b.y-a.y=q at *
 generalize c.x-a.x=r at *
 generalize c.y-a.y=s at *
 have k1:(x-x')*(p*s-r*q)=0:=by clear h1 h2 h1' h2' hA;grind
 have k2:(y-y')*(p*s-r*q)=0:=by clear h1 h2 h1' h2' hA;grind
 constructor
 ·rcases Rat.mul_eq_zero.1 k1 with h|h
  ·grind
  ·exact absurd h hA
 ·rcases Rat.mul_eq_zero.1 k2 with h|h
  ·grind
  ·exact absurd h hA
theorem qvL(l:List DQ):∀L:List (DQ×DQ×DQ),(∃t∈L,∃x y,Vx l x y t)→∃t∈L,∃x y,Vx l x y t∧∀t'∈L,∀x' y',Vx l x' y' t'→pw t'.1 x' y'≤pw t.1 x y
 | [],h=>by obtain⟨t,ht,_⟩:=h;cases ht
 | s::L,h=>by
  by_cases hs:∃x y,Vx l x y s
  ·obtain⟨x,y,hs⟩:=hs
   have own:∀x' y',Vx l x' y' s→pw s.1 x' y'≤pw s.1 x y:=fun x' y' h'=>by
    obtain⟨rfl,rfl⟩:=qzt h' hs;exact Rat.le_refl
   by_cases hL:∃t∈L,∃x y,Vx l x y t
   ·obtain⟨t,ht,u,v,hv,hmax⟩:=qvL l L hL
    rcases Rat.le_total (a:=pw s.1 x y) (b:=pw t.1 u v) with hle|hle
    ·refine⟨t,List.mem_cons_of_mem _ ht,u,v,hv,fun t' ht' x' y' h'=>?_⟩
     rcases List.mem_cons.1 ht' with rfl|ht'
     ·exact Rat.le_trans (own x' y' h') hle
     ·exact hmax t' ht' x' y' h'
    ·refine⟨s,List.mem_cons_self,x,y,hs,fun t' ht' x' y' h'=>?_⟩
     rcases List.mem_cons.1 ht' with rfl|ht'
     ·exact own x' y' h'
     ·exact Rat.le_trans (hmax t' ht' x' y' h') hle
   ·refine⟨s,List.mem_cons_self,x,y,hs,fun t' ht' x' y' h'=>?_⟩
    rcases List.mem_cons.1 ht' with rfl|ht'
    ·exact own x' y' h'
    ·exact absurd ⟨t',ht',x',y',h'⟩ hL
  ·have hL:∃t∈L,∃x y,Vx l x y t:=by
    obtain⟨t,ht,h⟩:=h
    rcases List.mem_cons.1 ht with rfl|ht
    ·exact absurd h hs
    ·exact⟨t,ht,h⟩
   obtain⟨t,ht,u,v,hv,hmax⟩:=qvL l L hL
   refine⟨t,List.mem_cons_of_mem _ ht,u,v,hv,fun t' ht' x' y' h'=>?_⟩
   rcases List.mem_cons.1 ht' with rfl|ht'
   ·exact absurd ⟨x',y',h'⟩ hs
   ·exact hmax t' ht' x' y' h'
theorem qwX{l:List DQ}{x y:Rat}{t:DQ×DQ×DQ}(ht:t.1∈l∧t.2.1∈l∧t.2.2∈l)(hv:Vx l x y t) :
  ∃a∈l,∃b∈l,∃neg,q1J b.x b.y a.x a.y≠0∧pw a x y=pw t.1 x y∧pw b x y=pw a x y∧0≤(qj a b neg).ax*(x-a.x)+(qj a b neg).ay*(y-a.y) ∧
   ∀k∈l,pw k x y=pw a x y→0≤(qj a b neg).ax*(k.x-a.x)+(qj a b neg).ay*(k.y-a.y):=by
 obtain⟨a0,b0,c0⟩:=t
 obtain⟨hA,h1,h2,h3,h4⟩:=hv
 simp only at *
 obtain⟨I,hI⟩:∃I,I=l.filter fun k=>decide (pw k x y=pw a0 x y):=⟨_,rfl⟩
 have memI:∀k,k∈I↔k∈l∧pw k x y=pw a0 x y:=fun k=>by rw[hI];simp
 have ia:a0∈I:=(memI _).2 ⟨ht.1,rfl⟩
 have ib:b0∈I:=(memI _).2 ⟨ht.2.1,h1⟩
 have ic:c0∈I:=(memI _).2 ⟨ht.2.2,h2⟩
 obtain⟨a,haI,hmax⟩:=qr2 (fun k:DQ=>q1J k.x k.y x y) I (by intro h;rw[h] at ia;cases ia)
 obtain⟨hal,hap⟩:=(memI a).1 haI
 obtain⟨D,hD⟩:∃D:DQ→Rat,D=fun k=>(x-a.x)*(k.x-a.x)+(y-a.y)*(k.y-a.y):=⟨_,rfl⟩
 obtain⟨X,hX⟩:∃X:DQ→Rat,X=fun k=>(x-a.x)*(k.y-a.y)-(y-a.y)*(k.x-a.x):=⟨_,rfl⟩
 obtain⟨J,hJ⟩:∃J,J=I.filter fun k=>decide (q1J k.x k.y a.x a.y≠0):=⟨_,rfl⟩
 have memJ:∀k,k∈J↔k∈I∧q1J k.x k.y a.x a.y≠0:=fun k=>by rw[hJ];simp
 have hDp:∀k∈J,0<D k:=fun k hk=>by
  obtain⟨hk1,hk2⟩:=(memJ k).1 hk
  have e1:=hmax k hk1
  have e2:=qx2 k.x k.y a.x a.y
  rw[hD]
  simp only at e1 ⊢
  unfold q1J at e1 e2 hk2
  grind
 have hJn:J≠[]:=by
  intro hJ0
  have all:∀k∈I,k.x=a.x∧k.y=a.y:=fun k hk=>by
   by_cases hz:q1J k.x k.y a.x a.y=0
   ·exact qk5 hz
   ·have:=(memJ k).2 ⟨hk,hz⟩
    rw[hJ0] at this;cases this
  obtain⟨p1,q1⟩:=all a0 ia
  obtain⟨p2,q2⟩:=all b0 ib
  obtain⟨p3,q3⟩:=all c0 ic
  apply hA
  unfold qrb
  rw[p1,p2,p3,q1,q2,q3];grind
 have slope:∀k b:DQ,0<D k→0<D b→X k/D k≤X b/D b→X k*D b≤X b*D k:=fun k b k0 b0 h=>by
  have e1:X k/D k*D k=X k:=Rat.div_mul_cancel (by grind)
  have e2:X b/D b*D b=X b:=Rat.div_mul_cancel (by grind)
  generalize X k/D k=u at *
  generalize X b/D b=v at *
  have:=Rat.mul_nonneg (show 0≤v-u by grind) (Rat.mul_nonneg (show 0≤D k by grind) (show 0≤D b by grind))
  rw[←e1,←e2];grind
 have lag:∀k b:DQ,((x-a.x)*(x-a.x)+(y-a.y)*(y-a.y))*((k.x-a.x)*(b.y-a.y)-(k.y-a.y)*(b.x-a.x))=D k*X b-X k*D b:=fun k b=>by
  rw[hD,hX];simp only;grind
 have upos:∀b,0<D b→0<(x-a.x)*(x-a.x)+(y-a.y)*(y-a.y):=fun b hb=>by
  apply Rat.not_le.1;intro hn
  have s1:=q8k (x-a.x)
  have s2:=q8k (y-a.y)
  have z1:=qoB (a:=x-a.x) (by grind)
  have z2:=qoB (a:=y-a.y) (by grind)
  rw[hD] at hb;simp only at hb;rw[z1,z2] at hb;grind
 obtain⟨b,hb,hbm⟩:=qr2 (fun k=>X k/D k) J hJn
 have hbD:=hDp b hb
 obtain⟨hbI,hbf⟩:=(memJ b).1 hb
 obtain⟨hbl,hbp⟩:=(memI b).1 hbI
 have onI:∀k∈l,pw k x y=pw a x y→k∈I:=fun k hk e=>(memI k).2 ⟨hk,by rw[e,hap]⟩
 by_cases hXb:0≤X b
 ·refine⟨a,hal,b,hbl,true,hbf,hap,by rw[hbp,hap],?_,fun k hk hkp=>?_⟩
  ·have e:(qj a b true).ax*(x-a.x)+(qj a b true).ay*(y-a.y)=X b:=by
    rw[hX];unfold qj;simp only[if_true];grind
   rw[e];exact hXb
  ·have e:(qj a b true).ax*(k.x-a.x)+(qj a b true).ay*(k.y-a.y)=(k.x-a.x)*(b.y-a.y)-(k.y-a.y)*(b.x-a.x):=by
    unfold qj;simp only[if_true];grind
   rw[e]
   by_cases hz:q1J k.x k.y a.x a.y=0
   ·obtain⟨z1,z2⟩:=qk5 hz
    rw[z1,z2];grind
   ·have hkJ:=(memJ k).2 ⟨onI k hk hkp,hz⟩
    have s:=slope k b (hDp k hkJ) hbD (hbm k hkJ)
    have g:=lag k b
    apply Rat.not_lt.1;intro hn
    have:=Rat.mul_pos (upos b hbD) (show 0 < -((k.x-a.x)*(b.y-a.y)-(k.y-a.y)*(b.x-a.x)) by grind)
    grind
 ·obtain⟨c,hc,hcm⟩:=qr2 (fun k=>-(X k/D k)) J hJn
  have hcD:=hDp c hc
  obtain⟨hcI,hcf⟩:=(memJ c).1 hc
  obtain⟨hcl,hcp⟩:=(memI c).1 hcI
  have hXc:X c<0:=by
   have s:=slope c b hcD hbD (hbm c hc)
   apply Rat.not_le.1;intro hn
   have m1:=Rat.mul_nonneg hn (show 0≤D b by grind)
   have m2:=Rat.mul_pos (show 0 < -X b by grind) hcD
   grind
  refine⟨a,hal,c,hcl,false,hcf,hap,by rw[hcp,hap],?_,fun k hk hkp=>?_⟩
  ·have e:(qj a c false).ax*(x-a.x)+(qj a c false).ay*(y-a.y)=-X c:=by
    rw[hX];unfold qj;simp only[Bool.false_eq_true,if_false];grind
   rw[e];grind
  ·have e:(qj a c false).ax*(k.x-a.x)+(qj a c false).ay*(k.y-a.y)=-((k.x-a.x)*(c.y-a.y)-(k.y-a.y)*(c.x-a.x)):=by
    unfold qj;simp only[Bool.false_eq_true,if_false];grind
   rw[e]
   by_cases hz:q1J k.x k.y a.x a.y=0
   ·obtain⟨z1,z2⟩:=qk5 hz
    rw[z1,z2];grind
   ·have hkJ:=(memJ k).2 ⟨onI k hk hkp,hz⟩
    have hle:=hcm k hkJ
    have s:=slope c k hcD (hDp k hkJ) (by grind)
    have g:=lag k c
    apply Rat.not_lt.1;intro hn
    have:=Rat.mul_pos (upos c hcD) (show 0<(k.x-a.x)*(c.y-a.y)-(k.y-a.y)*(c.x-a.x) by grind)
    grind
theorem qxx{l:List DQ}(hl:l≠[])(hs:∀d∈l,0≤d.s)(hm:qf8 l) :
  (∃a∈l,∀d∈l,pw d a.x a.y≤0)∨∃a∈l,∃b∈l,∃neg,q1J b.x b.y a.x a.y≠0∧0≤(qj a b neg).h∧∀d∈l,q0o d (qj a b neg):=by
 obtain⟨x,y,hxy⟩:=hm
 rcases qzL hl hs hxy with h|⟨a,ha,b,hb,X,Y,hf,hab,hmx,h0⟩
 ·exact .inl h
 ·right
  have vtx:∀{a b k:DQ} {neg:Bool} {X Y:Rat},(qj a b neg).ax*(k.x-a.x)+(qj a b neg).ay*(k.y-a.y)<0→pw k X Y=pw a X Y→pw b X Y=pw a X Y→(∀d∈l,pw d X Y≤pw a X Y)→pw a X Y≤0→Vx l X Y (a,b,k):=by
   intro a b k neg X Y h1 h2 h3 h4 h5
   refine⟨fun hA=>?_,h3,h2,h4,h5⟩
   unfold qrb at hA
   simp only at hA
   unfold qj at h1
   cases neg
   ·simp only[Bool.false_eq_true,if_false] at h1;grind
   ·simp only[if_true] at h1;grind
  have hneg:∃neg,0≤(qj a b neg).ax*(X-a.x)+(qj a b neg).ay*(Y-a.y):=by
   obtain⟨e1,e2⟩:=qtY a b
   rcases Rat.le_total (a:=0) (b:=(qj a b false).ax*(X-a.x)+(qj a b false).ay*(Y-a.y)) with h|h
   ·exact⟨false,h⟩
   ·exact⟨true,by rw[e1,e2];grind⟩
  obtain⟨neg,hv⟩:=hneg
  rcases qps neg hf hab hmx h0 hv with⟨h1,h2⟩|⟨t,k,t0,hk,k1,k2,k3,k4,k5⟩
  ·exact⟨a,ha,b,hb,neg,hf,h1,h2⟩
  ·obtain⟨L,hL⟩:∃L,L=l.flatMap fun a=>l.flatMap fun b=>l.map fun c=>(a,b,c):=⟨_,rfl⟩
   have memL:∀t:DQ×DQ×DQ,t∈L↔t.1∈l∧t.2.1∈l∧t.2.2∈l:=fun t=>by
    obtain⟨a,b,c⟩:=t
    rw[hL];simp only[List.mem_flatMap,List.mem_map,Prod.mk.injEq]
    exact⟨fun⟨a',h1,b',h2,c',h3,e1,e2,e3⟩=>⟨e1▸h1,e2▸h2,e3▸h3⟩,fun⟨h1,h2,h3⟩=>⟨a,h1,b,h2,c,h3,rfl,rfl,rfl⟩⟩
   obtain⟨s,hs,u,v,hV,hmax⟩:=qvL l L ⟨(a,b,k),(memL _).2 ⟨ha,hb,hk⟩,_,_,vtx k1 k2 k3 k4 k5⟩
   obtain⟨a',ha',b',hb',neg',hf',hp',hab',hv',hact⟩:=qwX ((memL s).1 hs) hV
   rcases qps neg' hf' hab' (fun d hd=>by rw[hp'];exact hV.2.2.2.1 d hd) (by rw[hp'];exact hV.2.2.2.2) hv' with⟨h1,h2⟩|⟨t,k,t0,hk,k1,k2,k3,k4,k5⟩
   ·exact⟨a',ha',b',hb',neg',hf',h1,h2⟩
   ·exfalso
    have hm':=hmax (a',b',k) ((memL _).2 ⟨ha',hb',hk⟩) _ _ (vtx k1 k2 k3 k4 k5)
    simp only at hm'
    rw[←hp'] at hm'
    obtain⟨f1,-⟩:=qkr neg' hf'
    have hpos:0<q1J b'.x b'.y a'.x a'.y:=by have:=qx2 b'.x b'.y a'.x a'.y;grind
    generalize qj a' b' neg'=p at *
    have t1:0<t:=by
     apply Rat.not_le.1;intro hn
     have:t=0:=by grind
     rw[this] at k2
     have e1:u+0*p.ax=u:=by grind
     have e2:v+0*p.ay=v:=by grind
     rw[e1,e2] at k2
     have:=hact k hk k2
     grind
    have e:pw a' (u+t*p.ax) (v+t*p.ay)=pw a' u v+2*(t*(p.ax*(u-a'.x)+p.ay*(v-a'.y)))+t*t*(p.ax*p.ax+p.ay*p.ay):=by unfold pw;grind
    rw[e,f1] at hm'
    have m1:=Rat.mul_nonneg t0 hv'
    have m2:=Rat.mul_pos (Rat.mul_pos t1 t1) hpos
    grind
end Go.Eng

namespace Go.Eng
def cls(q:Rat):Prop:=(qn q≤12∧q.den=1)∨(qn q≤10∧qd q≤10)
def qAK(q:Rat):Prop:=qn q≤13∧qd q≤10
structure GD (d:DQ):Prop where
 x:cls d.x
 y:cls d.y
 s:qAK d.s
 nn:0≤d.s
theorem Bd.of_nl{m:Int}{k:Nat}(h:nl m≤k):Bd 1 k m:=by
 unfold Bd
 have:=qA0 h
 omega
theorem Bd.of_le{C e:Nat}{x y:Int}(h:Bd C e y)(hxy:x.natAbs≤y.natAbs):Bd C e x:=Nat.le_trans hxy h
theorem qnn{q:Rat}(h:cls q):∃u v,Wt u v q∧((u=12∧v=0)∨(u=10∧v=10)):=by
 rcases h with⟨h1,h2⟩|⟨h1,h2⟩
 ·refine⟨12,0,⟨Bd.of_nl h1,?_,?_⟩,.inl ⟨rfl,rfl⟩⟩
  ·unfold Bd;rw[h2];decide
  ·unfold Bd;rw[h2];decide
 ·exact⟨10,10,⟨Bd.of_nl h1,Bd.of_nl (m:=(q.den:Int)) h2,Bd.of_nl (m:=(q.den:Int)) h2⟩,.inr ⟨rfl,rfl⟩⟩
theorem qs9{q:Rat}(h:qAK q):∃u v,Wt u v q∧u=13∧v=10:=
 ⟨13,10,⟨Bd.of_nl h.1,Bd.of_nl (m:=(q.den:Int)) h.2,(Bd.of_nl (m:=(q.den:Int)) h.2).mono (by omega) (by omega)⟩,rfl,rfl⟩
theorem wj{q:Rat}(h:cls q):bnd 12 10 q:=by
 rcases h with⟨h1,h2⟩|⟨h1,h2⟩
 ·exact⟨h1,by unfold qd;rw[h2];decide⟩
 ·exact⟨by omega,h2⟩
theorem q5I{q:Rat}(h:qAK q):bnd 13 10 q:=h
theorem GD.sh{d:DQ}(h:GD d):d.sh:=⟨wj h.x,wj h.y,q5I h.s⟩
theorem qu0{a b d:DQ}(ga:GD a)(gb:GD b)(gd:GD d)(neg:Bool)(hf:(b.x-a.x)*(b.x-a.x)+(b.y-a.y)*(b.y-a.y)≠0)(oa:okQ (kA d (qj a b neg)))(ob:okQ (kB d (qj a b neg)))(oc:okQ (qj a b neg).h) :
  RootOk (kA d (qj a b neg)) (kB d (qj a b neg)) (qj a b neg).h:=by
 obtain⟨f1,f2,f3,f4⟩:=qsp a b d neg hf
 generalize kA d (qj a b neg)=A at *
 generalize kB d (qj a b neg)=B at *
 generalize (qj a b neg).h=H at *
 obtain⟨hx1,vx1,wx1,ex1⟩:=qnn ga.x
 obtain⟨hy1,vy1,wy1,ey1⟩:=qnn ga.y
 obtain⟨hs1,vs1,ws1,es1⟩:=qs9 ga.s
 obtain⟨hx2,vx2,wx2,ex2⟩:=qnn gb.x
 obtain⟨hy2,vy2,wy2,ey2⟩:=qnn gb.y
 obtain⟨hs2,vs2,ws2,es2⟩:=qs9 gb.s
 obtain⟨hx3,vx3,wx3,ex3⟩:=qnn gd.x
 obtain⟨hy3,vy3,wy3,ey3⟩:=qnn gd.y
 obtain⟨hs3,vs3,ws3,es3⟩:=qs9 gd.s
 have k1:8*hx1+vx1≤96∧14*hx1+4*vx1≤180:=by omega
 have k2:8*hy1+vy1≤96∧14*hy1+4*vy1≤180:=by omega
 have k3:7*hx2+vx2≤84∧14*hx2+2*vx2≤168:=by omega
 have k4:7*hy2+vy2≤84∧14*hy2+2*vy2≤168:=by omega
 have k5:2*hx3+vx3≤30∧2*hx3+4*vx3≤60:=by omega
 have k6:2*hy3+vy3≤30∧2*hy3+4*vy3≤60:=by omega
 have k7:hs1+2*vs1≤33∧2*hs1+4*vs1≤66:=by omega
 have k8:hs2+2*vs2≤33∧2*hs2+4*vs2≤66:=by omega
 have k9:hs3≤13∧vs3≤10:=by omega
 clear ex1 ey1 es1 ex2 ey2 es2 ex3 ey3 es3
 have p0:∀q:Rat,(q.den:Int)≠0:=fun q=>by have:=qyg q;omega
 have hM:iM a.x.num a.x.den a.y.num a.y.den a.s.den b.x.num b.x.den b.y.num b.y.den b.s.den d.x.den d.y.den d.s.den≠0:=by
  unfold iM iSq
  have:=p0 a.x;have:=p0 a.y;have:=p0 a.s;have:=p0 b.x;have:=p0 b.y;have:=p0 b.s;have:=p0 d.x;have:=p0 d.y;have:=p0 d.s
  exact Int.mul_ne_zero (Int.mul_ne_zero (Int.mul_ne_zero f4 (Int.mul_ne_zero (Int.mul_ne_zero ‹_› ‹_›) ‹_›)) (Int.mul_ne_zero (Int.mul_ne_zero (Int.mul_ne_zero ‹_› ‹_›) (Int.mul_ne_zero ‹_› ‹_›)) (Int.mul_ne_zero (Int.mul_ne_zero ‹_› ‹_›) (Int.mul_ne_zero ‹_› ‹_›)))) (Int.mul_ne_zero ‹_› ‹_›)
 have hQ:iQ a.x.den a.y.den b.x.den b.y.den d.x.den d.y.den≠0:=by
  unfold iQ
  exact Int.mul_ne_zero (Int.mul_ne_zero (Int.mul_ne_zero (p0 _) (p0 _)) (p0 _)) (Int.mul_ne_zero (Int.mul_ne_zero (p0 _) (p0 _)) (p0 _))
 have hC:iCd a.x.num a.x.den a.y.num a.y.den a.s.den b.x.num b.x.den b.y.num b.y.den b.s.den≠0:=by
  unfold iCd
  exact Int.mul_ne_zero (Int.mul_ne_zero (by omega) (Int.mul_ne_zero f4 f4)) (Int.mul_ne_zero (Int.mul_ne_zero (p0 _) (p0 _)) (Int.mul_ne_zero (p0 _) (p0 _)))
 obtain⟨g1,g2⟩:=qka hM f1
 obtain⟨g3,g4⟩:=qka hQ f2
 obtain⟨g5,g6⟩:=qka hC f3
 have b1:=(bA wx1.n wx1.dh wy1.n wy1.dh wx2.n wx2.dh wy2.n wy2.dh wx3.n wx3.dh wy3.n wy3.dh ws1.n ws1.dh ws2.n ws2.dh ws3.n ws3.dh).of_le (x:=A.num) g1
 have b2:=(bM wx1.n wx1.dh wy1.n wy1.dh wx2.n wx2.dh wy2.n wy2.dh wx1.d wy1.d wx2.d wy2.d wx3.d wy3.d ws1.d ws2.d ws3.d).of_le (x:=(A.den:Int)) g2
 have b3:Bd 16 (hx1+hx2+hx3+hy1+hy2+hy3) B.num:=by
  refine(bK wx1.n wx1.dh wy1.n wy1.dh wx2.n wx2.dh wy2.n wy2.dh wx3.n wx3.dh wy3.n wy3.dh).of_le (Nat.le_trans g3 ?_)
  rw[Int.natAbs_mul]
  cases neg<;>simp
 have b4:=(bQ wx1.d wy1.d wx2.d wy2.d wx3.d wy3.d).of_le (x:=(B.den:Int)) g4
 have b5:=(bCn wx1.n wx1.dh wy1.n wy1.dh wx2.n wx2.dh wy2.n wy2.dh ws1.n ws1.dh ws2.n ws2.dh).of_le (x:=H.num) g5
 have b6:=(bCd wx1.n wx1.dh wy1.n wy1.dh wx2.n wx2.dh wy2.n wy2.dh ws1.d ws2.d).of_le (x:=(H.den:Int)) g6
 have X1:=b1.mul b4
 have X:Bd 40960 500 (rX A B H):=(X1.mul b6).mono (by omega) (by omega)
 have Y:=b3.mul b2
 have R:=b5.mul b6
 have XX:=(X.mul X).mono (C':=1677721600) (e':=1000) (by omega) (by omega)
 have YY:=Y.mul Y
 have YR:=(YY.mul R).mono (C':=553648128) (e':=972) (by omega) (by omega)
 have c10:(1000000000:Nat)≤10^9:=by decide
 exact { oa:=oa,ob:=ob,oc:=oc,x1:=X1.okL (k:=9) (by omega) (by omega) (by omega),x:=X.okL (k:=9) (by omega) (by omega) (by omega),y:=Y.okL (k:=9) (by omega) (by omega) (by omega),r:=R.okL (k:=9) (by omega) (by omega) (by omega),xx:=XX.okL (k:=10) (by decide) (by omega) (by omega),yy:=YY.okL (k:=9) (by omega) (by omega) (by omega),yr:=YR.okL (k:=9) (by omega) (by omega) (by omega),d:=((XX.mono (C':=1677721600) (e':=1000) (by omega) (by omega)).sub (YR.mono (C':=553648128) (e':=1000) (by omega) (by omega))).okL (k:=10) (by decide) (by omega) (by omega) }
end Go.Eng

namespace Go.Eng
theorem qBx{far c:Rat}(h0:far≠0)(hf:bnd 87 80 far)(hc:bnd 24 20 c):bnd 108 108 ((far+c)/(2*far)):=by
 have hn:far.num≠0:=fun h=>h0 (Rat.num_eq_zero.1 h)
 have hm:2*(far.num*(c.den:Int))≠0:=by
  have:=qyg c
  exact Int.mul_ne_zero (by omega) (Int.mul_ne_zero hn (by omega))
 have h2f:2*far≠0:=by grind
 have key:(far+c)/(2*far)*((2*(far.num*(c.den:Int)):Int):Rat)=((far.num*(c.den:Int)+c.num*(far.den:Int):Int):Rat):=by
  have e1:=qcT far
  have e2:=qcT c
  have e3:(far+c)/(2*far)*(2*far)=far+c:=Rat.div_mul_cancel h2f
  have f2:((2:Int):Rat)=2:=by simp
  simp only[Rat.intCast_add,Rat.intCast_mul,Rat.intCast_natCast,e1,e2,f2]
  generalize (far+c)/(2*far)=q at *
  generalize (far.den:Rat)=fd at *
  generalize (c.den:Rat)=cd at *
  have e4:q*(2*(far*fd*cd))=q*(2*far)*(fd*cd):=by grind
  rw[e4,e3];grind
 obtain⟨k1,k2⟩:=qka hm key
 have g1:=qec k1
 have g2:=qwB k2
 have a1:=qti (far.num*(c.den:Int)) (c.num*(far.den:Int))
 have a2:=q3R far.num (c.den:Int)
 have a3:=q3R c.num (far.den:Int)
 have a4:=q3R 2 (far.num*(c.den:Int))
 have a5:nl 2=1:=by decide
 have a6:dl (2*(far.num*(c.den:Int))).natAbs=nl (2*(far.num*(c.den:Int))):=rfl
 have b1:nl far.num≤87:=hf.1
 have b2:nl (far.den:Int)≤80:=hf.2
 have b3:nl c.num≤24:=hc.1
 have b4:nl (c.den:Int)≤20:=hc.2
 refine⟨?_,?_⟩
 ·show nl _≤108
  omega
 ·show dl _≤108
  omega
structure PB (p:SQ):Prop where
 fx:bnd 142 138 p.fx
 fy:bnd 142 138 p.fy
 ax:bnd 23 20 p.ax
 ay:bnd 23 20 p.ay
 h:bnd 314 313 p.h
theorem qBA(a:Rat):0-a=-a:=by grind
theorem qwn{a b:DQ}(ga:GD a)(gb:GD b)(hf:q1J b.x b.y a.x a.y≠0):bnd 108 108 ((q1J b.x b.y a.x a.y+a.s-b.s)/(2*q1J b.x b.y a.x a.y)):=by
 rw[show q1J b.x b.y a.x a.y+a.s-b.s=q1J b.x b.y a.x a.y+(a.s-b.s) by grind]
 exact qBx hf (qlQ (wj gb.x) (wj gb.y) (wj ga.x) (wj ga.y)) ((q5I ga.s).sub (q5I gb.s) (by omega) (by omega))
theorem qhk(a b:DQ)(neg:Bool):qj a b neg=⟨a.x+(q1J b.x b.y a.x a.y+a.s-b.s)/(2*q1J b.x b.y a.x a.y)*(b.x-a.x),a.y+(q1J b.x b.y a.x a.y+a.s-b.s)/(2*q1J b.x b.y a.x a.y)*(b.y-a.y),if neg then b.y-a.y else 0-(b.y-a.y),if neg then 0-(b.x-a.x) else b.x-a.x,a.s/q1J b.x b.y a.x a.y-(q1J b.x b.y a.x a.y+a.s-b.s)/(2*q1J b.x b.y a.x a.y)*((q1J b.x b.y a.x a.y+a.s-b.s)/(2*q1J b.x b.y a.x a.y))⟩:=rfl
theorem qhm{a b:DQ}(ga:GD a)(gb:GD b)(neg:Bool)(hf:q1J b.x b.y a.x a.y≠0):PB (qj a b neg):=by
 have dx:=q5C (wj gb.x) (wj ga.x)
 have dy:=q5C (wj gb.y) (wj ga.y)
 have far:=qlQ (wj gb.x) (wj gb.y) (wj ga.x) (wj ga.y)
 have ht:=qwn ga gb hf
 rw[qhk]
 have nx:bnd 23 20 (0-(b.x-a.x)):=by rw[qBA];exact dx.neg
 have ny:bnd 23 20 (0-(b.y-a.y)):=by rw[qBA];exact dy.neg
 have hh:=((q5I ga.s).div hf far).sub (ht.mul ht) (K:=314) (by omega) (by omega)
 have hx:=(wj ga.x).add (ht.mul dx) (K:=142) (by omega) (by omega)
 have hy:=(wj ga.y).add (ht.mul dy) (K:=142) (by omega) (by omega)
 exact⟨hx,hy,by cases neg<;>assumption,by cases neg<;>assumption,hh⟩
theorem PB.m{p:SQ}{d:DQ}(hp:PB p)(gd:GD d):bnd 153 148 (p.fx-d.x)∧bnd 153 148 (p.fy-d.y):=
 ⟨hp.fx.sub (wj gd.x) (by omega) (by omega),hp.fy.sub (wj gd.y) (by omega) (by omega)⟩
theorem PB.mm{p:SQ}{d:DQ}(hp:PB p)(gd:GD d):bnd 603 592 ((p.fx-d.x)*(p.fx-d.x)+(p.fy-d.y)*(p.fy-d.y)):=
 qpb (hp.m gd).1 (hp.m gd).2 (hp.m gd).1 (hp.m gd).2
theorem PB.aa{p:SQ}(hp:PB p):bnd 87 80 (p.ax*p.ax+p.ay*p.ay):=qpb hp.ax hp.ay hp.ax hp.ay
theorem PB.ha{p:SQ}(hp:PB p):bnd 401 393 (p.h*(p.ax*p.ax+p.ay*p.ay)):=hp.h.mul hp.aa
theorem PB.x{p:SQ}{d:DQ}(hp:PB p)(gd:GD d):bnd 997 985 ((p.fx-d.x)*(p.fx-d.x)+(p.fy-d.y)*(p.fy-d.y)+p.h*(p.ax*p.ax+p.ay*p.ay)):=
 (hp.mm gd).add hp.ha (by omega) (by omega)
theorem PB.ma{p:SQ}{d:DQ}(hp:PB p)(gd:GD d):bnd 345 336 ((p.fx-d.x)*p.ax+(p.fy-d.y)*p.ay):=
 qpb (hp.m gd).1 (hp.m gd).2 hp.ax hp.ay
theorem PB.kA{p:SQ}{d:DQ}(hp:PB p)(gd:GD d):bnd 1008 995 (kA d p):=(hp.x gd).sub (q5I gd.s) (by omega) (by omega)
theorem PB.kB{p:SQ}{d:DQ}(hp:PB p)(gd:GD d):bnd 346 337 (kB d p):=qoS.mul (hp.ma gd)
structure PG (p:SQ):Prop where
 pb:PB p
 nn:0≤p.h
 root:∀d,GD d→RootOk (kA d p) (kB d p) p.h
theorem qxS{a b:DQ}(ga:GD a)(gb:GD b)(neg:Bool)(hf:q1J b.x b.y a.x a.y≠0)(hn:0≤(qj a b neg).h):PG (qj a b neg):=
 ⟨qhm ga gb neg hf,hn,fun _ gd=>qu0 ga gb gd neg hf (((qhm ga gb neg hf).kA gd).ok (by omega) (by omega)) (((qhm ga gb neg hf).kB gd).ok (by omega) (by omega)) ((qhm ga gb neg hf).h.ok (by omega) (by omega))⟩
theorem qzT{a:DQ}(ga:GD a):PG ⟨a.x,a.y,0,0,0⟩:=by
 refine⟨⟨(wj ga.x).mono (by omega) (by omega),(wj ga.y).mono (by omega) (by omega),q5J.mono (by omega) (by omega),q5J.mono (by omega) (by omega),q5J.mono (by omega) (by omega)⟩,Rat.le_refl,fun d gd=>?_⟩
 have e1:Go.Eng.kA d ⟨a.x,a.y,0,0,0⟩=q1J a.x a.y d.x d.y-d.s:=by unfold Go.Eng.kA q1J;grind
 have e2:Go.Eng.kB d ⟨a.x,a.y,0,0,0⟩=0:=by unfold Go.Eng.kB;grind
 rw[e1,e2]
 have f1:bnd 98 90 (q1J a.x a.y d.x d.y-d.s):=(qlQ (wj ga.x) (wj ga.y) (wj gd.x) (wj gd.y)).sub (q5I gd.s) (by omega) (by omega)
 exact RootOk.of f1 q5J q5J (by omega) (by omega)
theorem qwZ{d:DQ}{p:SQ}(gd:GD d)(hp:PG p) :
  (jd [.s (tQ d.x),.s (tQ d.y),.s (tQ d.s),.s (tQ p.fx),.s (tQ p.fy),.s (tQ p.ax),.s (tQ p.ay),.s (tQ p.h),.i 0]).run=some (0,[.b (decide (q0o d p)),.i 0]):=by
 rw[qgz]
 have hr:=qyv (hp.root d gd) hp.nn
 obtain⟨hp,-,-⟩:=hp
 obtain⟨m1,m2⟩:=hp.m gd
 have h0:=qwN hp.fx hp.fy (wj gd.x) (wj gd.y) (by omega) (by omega) (by omega)
 have h1:=qvC m1 m2 m1 m2 (by omega) (by omega)
 have h2:=qvC hp.ax hp.ay hp.ax hp.ay (by omega) (by omega)
 have h3:=qqW hp.h hp.aa (by omega) (by omega)
 have h4:=qvS (hp.mm gd) hp.ha (by omega) (by omega) (by omega)
 have h5:=qqk (hp.x gd) (q5I gd.s) (by omega) (by omega) (by omega)
 have h6:=qvC m1 m2 hp.ax hp.ay (by omega) (by omega)
 have h7:=qqW qoS (hp.ma gd) (by omega) (by omega)
 rw[qyx] at h7
 have e:q0o d p=(qf5 (Go.Eng.kA d p) (Go.Eng.kB d p) p.h≤0):=rfl
 unfold Go.Eng.kA Go.Eng.kB at hr e
 simp only[STD,h0,h1,h2,h3,h4,h5,h6,h7,hr,e]
 rfl
def qd6(d:DQ):List U:=[.s (tQ d.x),.s (tQ d.y),.s (tQ d.s)]
def rD(l:List DQ):R:=l.map qd6
def ix(l:List DQ)(i:Nat):DQ:=l.getD i ⟨0,0,0⟩
theorem qO(l:List DQ):qh (rD l)=(l.length:Int):=by simp[qh,rD]
theorem qp3{l:List DQ}{i:Nat}(h:i<l.length):cS (rD l) (i:Int) 0=tQ (ix l i).x∧cS (rD l) (i:Int) 1=tQ (ix l i).y∧cS (rD l) (i:Int) 2=tQ (ix l i).s:=by
 unfold cS wS rD ix
 simp[List.getD_eq_getElem?_getD,h,qd6,U.toS]
theorem qaZ{l:List DQ}{i:Nat}(h:i<l.length):ix l i∈l:=by
 unfold ix
 simp[List.getD_eq_getElem?_getD,h]
def q9p(a b:DQ)(same:Bool)(side:Int):Option SQ:=
 if same then (if side=0 then some ⟨a.x,a.y,0,0,0⟩ else none)
 else if q1J b.x b.y a.x a.y=0 then none
 else if 0≤(qj a b (decide (side<0))).h∧((qj a b (decide (side<0))).h=0↔side=0) then some (qj a b (decide (side<0))) else none
theorem qxn{a b:DQ}(ga:GD a)(gb:GD b){same:Bool}{side:Int}{p:SQ}(h:q9p a b same side=some p):PG p:=by
 unfold q9p at h
 split at h
 ·split at h
  ·cases h;exact qzT ga
  ·cases h
 ·split at h
  ·cases h
  ·rename_i hf
   split at h
   ·rename_i hc
    cases h;exact qxS ga gb _ hf hc.1
   ·cases h
def q2s(l:List DQ)(i j:Nat)(side:Int):Bool:=
 match q9p (ix l i) (ix l j) (decide (i=j)) side with
 | none=>false
 | some p=>l.all fun d=>decide (q0o d p)
def qlp(l:List DQ)(i j:Nat)(side:Int):Option (Nat×Nat×Int):=if q2s l i j side then some (i,j,side) else none
def qcl(l:List DQ)(i j:Nat):Option (Nat×Nat×Int):=
 match qlp l i j 0 with
 | some w=>some w
 | none=>match qlp l i j 1 with
  | some w=>some w
  | none=>qlp l i j (-1)
def kw(l:List DQ):Option (Nat×Nat×Int):=
 match q0b (fun i=>qlp l i i 0) 0 l.length with
 | some w=>some w
 | none=>q0b (fun i=>q0b (fun k=>qcl l i (i+1+k)) 0 (l.length-(i+1))) 0 l.length
end Go.Eng

namespace Go.Eng
theorem quU(d a:DQ):q0o d ⟨a.x,a.y,0,0,0⟩↔pw d a.x a.y≤0:=by
 have e1:kA d ⟨a.x,a.y,0,0,0⟩=pw d a.x a.y:=by unfold kA pw;grind
 have e2:kB d ⟨a.x,a.y,0,0,0⟩=0:=by unfold kB;grind
 unfold q0o
 rw[e1,e2]
 simp only[qnC,qeO]
theorem qq0{d:DQ}{p q:SQ}(hA:kA d p=kA d q)(hB:kB d p=kB d q)(hh:p.h=q.h):q0o d p↔q0o d q:=by
 unfold q0o;rw[hA,hB,hh]
theorem ql7{d:DQ}{p:SQ}(hh:p.h=0):q0o d p↔kA d p≤0:=by
 unfold q0o
 rw[hh,qoe (by grind)]
 constructor
 ·rintro (⟨h,-⟩|⟨h1,h2,h3⟩)
  ·exact h
  ·have:=Rat.mul_pos h1 h1;grind
 ·intro h;exact .inl ⟨h,.inr (.inl rfl)⟩
theorem qtX{a b:DQ}(neg:Bool)(hf:q1J b.x b.y a.x a.y≠0) :
  (qj b a (!neg)).fx=(qj a b neg).fx∧(qj b a (!neg)).fy=(qj a b neg).fy∧(qj b a (!neg)).ax=(qj a b neg).ax∧(qj b a (!neg)).ay=(qj a b neg).ay∧(qj b a (!neg)).h=(qj a b neg).h:=by
 have hsw:q1J a.x a.y b.x b.y=q1J b.x b.y a.x a.y:=by unfold q1J;grind
 rw[qhk,qhk,hsw]
 generalize q1J b.x b.y a.x a.y=far at *
 have h2f:2*far≠0:=by grind
 have h1:(far+b.s-a.s)/(2*far)*(2*far)=far+b.s-a.s:=Rat.div_mul_cancel h2f
 have h2:(far+a.s-b.s)/(2*far)*(2*far)=far+a.s-b.s:=Rat.div_mul_cancel h2f
 have h3:a.s/far*far=a.s:=Rat.div_mul_cancel hf
 have h4:b.s/far*far=b.s:=Rat.div_mul_cancel hf
 generalize (far+b.s-a.s)/(2*far)=u at *
 generalize (far+a.s-b.s)/(2*far)=t at *
 generalize a.s/far=p at *
 generalize b.s/far=q at *
 have cancel:∀z:Rat,z*far=0→z=0:=fun z hz=>by
  rcases Rat.mul_eq_zero.1 hz with h|h
  ·exact h
  ·exact absurd h hf
 have hu:u=1-t:=by
  have:=cancel (u-(1-t)) (by grind)
  grind
 have hpq:q=p-t*t+(1-t)*(1-t):=by
  have:=cancel (q-(p-t*t+(1-t)*(1-t))) (by grind)
  grind
 simp only
 refine⟨by rw[hu];grind,by rw[hu];grind,?_,?_,by rw[hu,hpq];grind⟩
 ·cases neg<;>simp only[Bool.not_false,Bool.not_true,Bool.false_eq_true,if_false,if_true]<;>grind
 ·cases neg<;>simp only[Bool.not_false,Bool.not_true,Bool.false_eq_true,if_false,if_true]<;>grind
theorem q8w{l:List DQ}{d:DQ}(h:d∈l):∃i,i<l.length∧ix l i=d:=by
 obtain⟨i,hi,e⟩:=List.getElem_of_mem h
 exact⟨i,hi,by unfold ix;simp[List.getD_eq_getElem?_getD,hi,e]⟩
def Wit(l:List DQ):Prop:=(∃i,i<l.length∧q2s l i i 0=true)∨∃i j side,i<j∧j<l.length∧(side=0∨side=1∨side=-1)∧q2s l i j side=true
theorem qat{l:List DQ}{i j:Nat}{side:Int}:q2s l i j side=true↔∃p,q9p (ix l i) (ix l j) (decide (i=j)) side=some p∧∀d∈l,q0o d p:=by
 unfold q2s
 cases h:q9p (ix l i) (ix l j) (decide (i=j)) side with
 | none=>simp
 | some p=>simp
theorem qxE{a b:DQ}{same:Bool}{side:Int}{p:SQ}(h:q9p a b same side=some p):0≤p.h:=by
 unfold q9p at h
 split at h
 ·split at h
  ·cases h;exact Rat.le_refl
  ·cases h
 ·split at h
  ·cases h
  ·split at h
   ·rename_i hc
    cases h;exact hc.1
   ·cases h
theorem qmL{l:List DQ}{i j:Nat}{side:Int}(h:q2s l i j side=true):qf8 l:=by
 obtain⟨p,h1,h2⟩:=qat.1 h
 exact qoG (qxE h1) h2
theorem qrL{l:List DQ}(hl:l≠[])(hs:∀d∈l,0≤d.s)(hm:qf8 l):Wit l:=by
 rcases qxx hl hs hm with⟨a,ha,h⟩|⟨a,ha,b,hb,neg,hf,h0,hk⟩
 ·obtain⟨i,hi,rfl⟩:=q8w ha
  refine .inl ⟨i,hi,qat.2 ⟨⟨(ix l i).x,(ix l i).y,0,0,0⟩,?_,fun d hd=>(quU d _).2 (h d hd)⟩⟩
  unfold q9p;simp
 ·have main:∀(i j:Nat) (neg:Bool),i<j→j<l.length→q1J (ix l j).x (ix l j).y (ix l i).x (ix l i).y≠0→0≤(qj (ix l i) (ix l j) neg).h→(∀d∈l,q0o d (qj (ix l i) (ix l j) neg))→Wit l:=by
   intro i j neg hij hj hf h0 hk
   by_cases hz:(qj (ix l i) (ix l j) neg).h=0
   ·have hz':(qj (ix l i) (ix l j) false).h=0:=hz
    refine .inr ⟨i,j,0,hij,hj,.inl rfl,qat.2 ⟨qj (ix l i) (ix l j) false,?_,fun d hd=>?_⟩⟩
    ·unfold q9p
     rw[if_neg (by simp;omega),if_neg hf]
     simp[hz']
    ·have:=(ql7 hz).1 (hk d hd)
     rw[ql7 hz']
     have e:kA d (qj (ix l i) (ix l j) false)=kA d (qj (ix l i) (ix l j) neg):=by
      unfold kA;rw[hz,hz']
      have e1:(qj (ix l i) (ix l j) false).fx=(qj (ix l i) (ix l j) neg).fx:=rfl
      have e2:(qj (ix l i) (ix l j) false).fy=(qj (ix l i) (ix l j) neg).fy:=rfl
      rw[e1,e2];grind
     rw[e];exact this
   ·cases neg
    ·refine .inr ⟨i,j,1,hij,hj,.inr (.inl rfl),qat.2 ⟨qj (ix l i) (ix l j) false,?_,hk⟩⟩
     unfold q9p
     rw[if_neg (by simp;omega),if_neg hf]
     simp[hz,h0]
    ·refine .inr ⟨i,j,-1,hij,hj,.inr (.inr rfl),qat.2 ⟨qj (ix l i) (ix l j) true,?_,hk⟩⟩
     unfold q9p
     rw[if_neg (by simp;omega),if_neg hf]
     simp[hz,h0]
  obtain⟨i,hi,rfl⟩:=q8w ha
  obtain⟨j,hj,rfl⟩:=q8w hb
  rcases Nat.lt_trichotomy i j with hij|rfl|hij
  ·exact main i j neg hij hj hf h0 hk
  ·exact absurd (by unfold q1J;grind) hf
  ·obtain⟨e1,e2,e3,e4,e5⟩:=qtX neg hf
   refine main j i (!neg) hij hi ?_ (by rw[e5];exact h0) fun d hd=>?_
   ·intro h;apply hf;unfold q1J at *;grind
   ·refine(qq0 ?_ ?_ e5).2 (hk d hd)
    ·unfold kA;rw[e1,e2,e3,e4,e5]
    ·unfold kB;rw[e1,e2,e3,e4]
theorem qhU{l:List DQ}{i j:Nat}{side:Int}{w:Nat×Nat×Int}(h:qlp l i j side=some w):w=(i,j,side)∧q2s l i j side=true:=by
 unfold qlp at h
 split at h
 ·cases h;exact⟨rfl,by assumption⟩
 ·cases h
theorem qgQ{l:List DQ}{i j:Nat}{side:Int}(h:qlp l i j side=none):q2s l i j side=false:=by
 unfold qlp at h
 split at h
 ·cases h
 ·simp_all
theorem q37{α:Type}{f:Nat→Option α}{a:α}:∀{k i:Nat},q0b f i k=some a→∃j,i≤j∧j<i+k∧f j=some a∧∀m,i≤m→m<j→f m=none
 | 0,i,h=>by cases h
 | k+1,i,h=>by
  simp only[q0b] at h
  cases hf:f i with
  | some b=>rw[hf] at h;exact⟨i,Nat.le_refl _,by omega,by rw[hf];exact h,fun m h1 h2=>by omega⟩
  | none=>
   rw[hf] at h
   obtain⟨j,h1,h2,h3,h4⟩:=q37 h
   refine⟨j,by omega,by omega,h3,fun m m1 m2=>?_⟩
   rcases Nat.eq_or_lt_of_le m1 with rfl|m1
   ·exact hf
   ·exact h4 m m1 m2
theorem qst{l:List DQ}{i j:Nat}{w:Nat×Nat×Int}(h:qcl l i j=some w):∃side,w=(i,j,side)∧(side=0∨side=1∨side=-1)∧q2s l i j side=true:=by
 unfold qcl at h
 cases h0:qlp l i j 0 with
 | some v=>rw[h0] at h;simp only at h;cases h;obtain⟨e1,e2⟩:=qhU h0;exact⟨0,e1,.inl rfl,e2⟩
 | none=>
  rw[h0] at h;simp only at h
  cases h1:qlp l i j 1 with
  | some v=>rw[h1] at h;simp only at h;cases h;obtain⟨e1,e2⟩:=qhU h1;exact⟨1,e1,.inr (.inl rfl),e2⟩
  | none=>
   rw[h1] at h;simp only at h
   obtain⟨e1,e2⟩:=qhU h;exact⟨-1,e1,.inr (.inr rfl),e2⟩
theorem qrF{l:List DQ}{i j:Nat}(h:qcl l i j=none):∀side:Int,side=0∨side=1∨side=-1→q2s l i j side=false:=by
 unfold qcl at h
 cases h0:qlp l i j 0 with
 | some v=>rw[h0] at h;cases h
 | none=>
  rw[h0] at h;simp only at h
  cases h1:qlp l i j 1 with
  | some v=>rw[h1] at h;cases h
  | none=>
   rw[h1] at h;simp only at h
   rintro side (rfl|rfl|rfl)
   ·exact qgQ h0
   ·exact qgQ h1
   ·exact qgQ h
theorem qkP{l:List DQ}{w:Nat×Nat×Int}(h:kw l=some w):q2s l w.1 w.2.1 w.2.2=true∧w.1≤w.2.1∧w.2.1<l.length∧(w.2.2=0∨w.2.2=1∨w.2.2=-1)∧(w.1=w.2.1→w.2.2=0):=by
 unfold kw at h
 cases h0:q0b (fun i=>qlp l i i 0) 0 l.length with
 | some v=>
  rw[h0] at h;simp only at h;cases h
  obtain⟨i,-,hi,hf,-⟩:=q37 h0
  obtain⟨rfl,e⟩:=qhU hf
  exact⟨e,Nat.le_refl _,by simpa using hi,.inl rfl,fun _=>rfl⟩
 | none=>
  rw[h0] at h;simp only at h
  obtain⟨i,-,hi,hf,-⟩:=q37 h
  obtain⟨k,-,hk,hf,-⟩:=q37 hf
  obtain⟨side,rfl,h1,h2⟩:=qst hf
  exact⟨h2,by simp only;omega,by simp only;omega,h1,fun h=>by simp only at h;omega⟩
theorem qsF{l:List DQ}(h:kw l=none):¬Wit l:=by
 unfold kw at h
 cases h0:q0b (fun i=>qlp l i i 0) 0 l.length with
 | some v=>rw[h0] at h;cases h
 | none=>
  rw[h0] at h;simp only at h
  rintro (⟨i,hi,hp⟩|⟨i,j,side,hij,hj,hs,hp⟩)
  ·have:=qgQ (q1z h0 i (by omega) (by omega));simp_all
  ·have h1:=q1z h i (by omega) (by omega)
   have h2:=q1z h1 (j-(i+1)) (by omega) (by omega)
   simp only[show i+1+(j-(i+1))=j by omega] at h2
   have:=qrF h2 side hs;simp_all
theorem qaL{l:List DQ}(hl:l≠[])(hs:∀d∈l,0≤d.s):(kw l).isSome=true↔qf8 l:=by
 constructor
 ·intro h
  cases hf:kw l with
  | none=>rw[hf] at h;cases h
  | some w=>exact qmL (qkP hf).1
 ·intro h
  cases hf:kw l with
  | none=>exact absurd (qrL hl hs h) (qsF hf)
  | some w=>rfl
theorem qxZ{d:DQ}(h:0≤d.s):qf8 [d]:=⟨d.x,d.y,fun e he=>by simp at he;rw[he];unfold pw;grind⟩
theorem qxz{l:List DQ}(hs:∀d∈l,0≤d.s)(h2:∀i j,i<j→j<l.length→qf8 [ix l i,ix l j])(h3:∀i j k,i<j→j<k→k<l.length→qf8 [ix l i,ix l j,ix l k]):qf8 l:=by
 refine qAj l.length l (Nat.le_refl _) fun x hx y hy z hz=>?_
 obtain⟨i,hi,rfl⟩:=q8w hx
 obtain⟨j,hj,rfl⟩:=q8w hy
 obtain⟨k,hk,rfl⟩:=q8w hz
 have p2:∀i j,i<l.length→j<l.length→qf8 [ix l i,ix l j]:=fun i j hi hj=>by
  rcases Nat.lt_trichotomy i j with h|rfl|h
  ·exact h2 i j h hj
  ·exact(qxZ (hs _ (qaZ hi))).mono (by simp)
  ·exact(h2 j i h hi).mono (by simp<;>grind)
 rcases Nat.lt_trichotomy i j with h|rfl|h
 ·rcases Nat.lt_trichotomy j k with g|rfl|g
  ·exact h3 i j k h g hk
  ·exact(p2 i j hi hj).mono (by simp)
  ·rcases Nat.lt_trichotomy i k with f|rfl|f
   ·exact(h3 i k j f g hj).mono (by simp<;>grind)
   ·exact(p2 i j hi hj).mono (by simp<;>grind)
   ·exact(h3 k i j f h hj).mono (by simp<;>grind)
 ·exact(p2 i k hi hk).mono (by simp<;>grind)
 ·rcases Nat.lt_trichotomy i k with g|rfl|g
  ·exact(h3 j i k h g hk).mono (by simp<;>grind)
  ·exact(p2 i j hi hj).mono (by simp<;>grind)
  ·rcases Nat.lt_trichotomy j k with f|rfl|f
   ·exact(h3 j k i f g hi).mono (by simp<;>grind)
   ·exact(p2 i j hi hj).mono (by simp<;>grind)
   ·exact(h3 k j i f h hi).mono (by simp<;>grind)
end Go.Eng

namespace Go.Eng
def GDs(l:List DQ):Prop:=∀d∈l,GD d
theorem GDs.ix{l:List DQ}(h:GDs l){i:Nat}(hi:i<l.length):GD (ix l i):=h _ (qaZ hi)
theorem qyI(q:Rat):(seq (tQ q) [48]=true)=(q=0):=by rw[jD,qlS]
theorem qim(q:Rat):(0:Int)<zJ (tQ q):=by
 have h1:=qm0 q
 have h2:=qme q
 unfold zJ;omega
theorem qBC(i:Nat):((i:Int)=(i:Int))=True:=by simp
def plc(p:SQ):List PV:=[.s (tQ p.fx),.s (tQ p.fy),.s (tQ p.ax),.s (tQ p.ay),.s (tQ p.h)]
theorem qix(q:Rat):(¬(tQ q).getD 0 0=45)=(0≤q):=by
 by_cases h:0≤q
 ·exact propext ⟨fun _=>h,fun _=>qyZ h⟩
 ·have:=qAg (c:=q) (by grind)
  exact propext ⟨fun h'=>absurd this h',fun h'=>absurd h' h⟩
theorem qzN(b:Bool)(p q:Prop)[Decidable p][Decidable q](hb:(b=true)=p):(Go.Eng.beq b (decide q))=decide (p↔q):=by
 subst hb
 by_cases hq:q<;>cases b<;>simp[Go.Eng.beq,hq]<;>rfl
set_option maxHeartbeats 2000000 in
theorem qzE{l:List DQ}(hl:GDs l){i j:Nat}(hi:i<l.length)(hj:j<l.length)(side:Int) :
  (q9p (ix l i) (ix l j) (decide (i=j)) side=none∧∃a b c d e,(wV [.r (rD l),.i (i:Int),.i (j:Int),.i side,.i 0]).run=some (0,[.s a,.s b,.s c,.s d,.s e,.b false,.i 0])) ∨
  ∃p,q9p (ix l i) (ix l j) (decide (i=j)) side=some p∧(wV [.r (rD l),.i (i:Int),.i (j:Int),.i side,.i 0]).run=some (0,plc p++[.b true,.i 0]):=by
 rw[qgA]
 obtain⟨x1,x2,x3⟩:=qp3 hi
 obtain⟨y1,y2,y3⟩:=qp3 hj
 have ga:=hl.ix hi
 have gb:=hl.ix hj
 have bi:0≤(i:Int)∧(i:Int)<qh (rD l):=by rw[qO];omega
 have bj:0≤(j:Int)∧(j:Int)<qh (rD l):=by rw[qO];omega
 obtain⟨a,ha⟩:∃a,a=ix l i:=⟨_,rfl⟩
 obtain⟨b,hb⟩:∃b,b=ix l j:=⟨_,rfl⟩
 rw[←ha] at x1 x2 x3 ga ⊢
 rw[←hb] at y1 y2 y3 gb ⊢
 simp only[x1,x2,x3,y1,y2,y3]
 clear x1 x2 x3 y1 y2 y3 hb
 unfold q9p plc
 by_cases hij:i=j
 ·subst hij
  have z:tQ 0=[48]:=rfl
  by_cases hs:side=0
  ·subst hs
   right
   refine⟨⟨a.x,a.y,0,0,0⟩,by simp,?_⟩
   have e:ieq 0 0=true:=rfl
   simp only[STD,bi,and_self,z,e]
   rfl
  ·left
   refine⟨by simp[hs],tQ a.x,tQ a.y,[48],[48],[48],?_⟩
   have e:ieq side 0=false:=by simp[ieq,hs]
   simp only[STD,bi,and_self,e]
 ·have hij':¬(i:Int)=(j:Int):=by omega
  obtain⟨a1,a2,a3⟩:=ga.sh
  obtain⟨b1,b2,b3⟩:=gb.sh
  have dx:=q5C b1 a1
  have dy:=q5C b2 a2
  have far:=qlQ b1 b2 a1 a2
  have h0:=qwN b1 b2 a1 a2 (by omega) (by omega) (by omega)
  have h1:=qvC dx dy dx dy (by omega) (by omega)
  have hfd:(b.x-a.x)*(b.x-a.x)+(b.y-a.y)*(b.y-a.y)=q1J b.x b.y a.x a.y:=rfl
  rw[hfd] at h1
  by_cases hf:q1J b.x b.y a.x a.y=0
  ·left
   refine⟨by simp[hij,hf],[],[],[],[],[],?_⟩
   simp only[STD,bi,bj,and_self,hij',h0,h1,qyI,hf]
  ·have hpb:=fun neg=>qhm ga gb neg hf
   have ht:=qwn ga gb hf
   have n1:bnd 98 90 (q1J b.x b.y a.x a.y+a.s):=far.add a3 (by omega) (by omega)
   have h2:=qvS far a3 (by omega) (by omega) (by omega)
   have n2:bnd 112 100 (q1J b.x b.y a.x a.y+a.s-b.s):=n1.sub b3 (by omega) (by omega)
   have h3:=qqk n1 b3 (by omega) (by omega) (by omega)
   have h4:=qqW qoS far (by omega) (by omega)
   rw[qyx] at h4
   have n4:=qoS.mul far
   have hf2:2*q1J b.x b.y a.x a.y≠0:=by grind
   have h5:=qAs hf2 n2 n4 (by omega) (by omega)
   have h6:=qqW ht dx (by omega) (by omega)
   have h7:=qvS a1 (ht.mul dx) (by omega) (by omega) (by omega)
   have h8:=qqW ht dy (by omega) (by omega)
   have h9:=qvS a2 (ht.mul dy) (by omega) (by omega) (by omega)
   have h10:=qqk q5J dy (by omega) (by omega) (by omega)
   have h14:=qqk q5J dx (by omega) (by omega) (by omega)
   rw[show tQ 0=[48] from rfl] at h10 h14
   have h11:=qAs hf a3 far (by omega) (by omega)
   have h12:=qqW ht ht (by omega) (by omega)
   have h13:=qqk (a3.div hf far) (ht.mul ht) (by omega) (by omega) (by omega)
   have hbd:=fun (q:Rat)=>qzN (seq (tQ q) [48]) (q=0) (side=0) (qyI q)
   have hie:ieq side 0=decide (side=0):=rfl
   rw[if_neg (by simp[hij]),if_neg hf]
   obtain⟨p,hcr'⟩:∃p,p=qj a b (decide (side<0)):=⟨_,rfl⟩
   rw[←hcr']
   have hcr:=hcr'.symm
   clear hcr'
   rw[qhk] at hcr
   obtain⟨t,htt⟩:∃t,t=(q1J b.x b.y a.x a.y+a.s-b.s)/(2*q1J b.x b.y a.x a.y):=⟨_,rfl⟩
   rw[←htt] at hcr h5 h6 h7 h8 h9 h12 h13
   obtain⟨h,hh⟩:∃h,h=a.s/q1J b.x b.y a.x a.y-t*t:=⟨_,rfl⟩
   rw[←hh] at hcr h13
   have hp5:p.h=h:=by rw[←hcr]
   by_cases hs:side<0
   ·simp only[hs,decide_true,if_true] at hcr
    by_cases hn:0≤h
    ·by_cases hz:(h=0↔side=0)
     ·right
      refine⟨p,by rw[if_pos ⟨by rw[hp5];exact hn,by rw[hp5];exact hz⟩],?_⟩
      rw[←hcr]
      simp only[STD,bi,bj,and_self,hij',h0,h1,h2,h3,h4,h5,h6,h7,h8,h9,h10,h11,h12,h13,h14,qyI,hf,hs,Int.le_refl,qim,qhb,qix,hn,hie,hbd,hz,decide_true]
      rfl
     ·left
      refine⟨by rw[if_neg (by rw[hp5];exact fun c=>hz c.2)],tQ p.fx,tQ p.fy,tQ p.ax,tQ p.ay,tQ p.h,?_⟩
      rw[←hcr]
      simp only[STD,bi,bj,and_self,hij',h0,h1,h2,h3,h4,h5,h6,h7,h8,h9,h10,h11,h12,h13,h14,qyI,hf,hs,Int.le_refl,qim,qhb,qix,hn,hie,hbd,hz,decide_false]
    ·left
     refine⟨by rw[if_neg (by rw[hp5];exact fun c=>hn c.1)],tQ p.fx,tQ p.fy,tQ p.ax,tQ p.ay,tQ p.h,?_⟩
     rw[←hcr]
     simp only[STD,bi,bj,and_self,hij',h0,h1,h2,h3,h4,h5,h6,h7,h8,h9,h10,h11,h12,h13,h14,qyI,hf,hs,Int.le_refl,qim,qhb,qix,hn]
   ·simp only[hs,decide_false,Bool.false_eq_true,if_false] at hcr
    by_cases hn:0≤h
    ·by_cases hz:(h=0↔side=0)
     ·right
      refine⟨p,by rw[if_pos ⟨by rw[hp5];exact hn,by rw[hp5];exact hz⟩],?_⟩
      rw[←hcr]
      simp only[STD,bi,bj,and_self,hij',h0,h1,h2,h3,h4,h5,h6,h7,h8,h9,h10,h11,h12,h13,h14,qyI,hf,hs,Int.le_refl,qim,qhb,qix,hn,hie,hbd,hz,decide_true]
      rfl
     ·left
      refine⟨by rw[if_neg (by rw[hp5];exact fun c=>hz c.2)],tQ p.fx,tQ p.fy,tQ p.ax,tQ p.ay,tQ p.h,?_⟩
      rw[←hcr]
      simp only[STD,bi,bj,and_self,hij',h0,h1,h2,h3,h4,h5,h6,h7,h8,h9,h10,h11,h12,h13,h14,qyI,hf,hs,Int.le_refl,qim,qhb,qix,hn,hie,hbd,hz,decide_false]
    ·left
     refine⟨by rw[if_neg (by rw[hp5];exact fun c=>hn c.1)],tQ p.fx,tQ p.fy,tQ p.ax,tQ p.ay,tQ p.h,?_⟩
     rw[←hcr]
     simp only[STD,bi,bj,and_self,hij',h0,h1,h2,h3,h4,h5,h6,h7,h8,h9,h10,h11,h12,h13,h14,qyI,hf,hs,Int.le_refl,qim,qhb,qix,hn]
end Go.Eng

namespace Go.Eng
theorem qvb{α:Type}(p:Nat→Bool)(g:Nat→α)(n:Nat):(q0b (fun i=>if p i=true then none else some (g i)) 0 n=none∧∀i,i<n→p i=true)∨∃i,i<n∧p i=false∧q0b (fun i=>if p i=true then none else some (g i)) 0 n=some (g i):=by
 cases h:q0b (fun i=>if p i=true then none else some (g i)) 0 n with
 | none=>
  refine .inl ⟨rfl,fun i hi=>?_⟩
  have:=q1z h i (by omega) (by omega)
  cases hp:p i
  ·rw[hp] at this;simp at this
  ·rfl
 | some a=>
  obtain⟨j,-,hj,hf,-⟩:=q37 h
  cases hp:p j
  ·rw[hp] at hf;simp at hf
   exact .inr ⟨j,by omega,hp,by rw[hf]⟩
  ·rw[hp] at hf;simp at hf
theorem qwa(l:List DQ)(p:DQ→Bool):l.all p=true↔∀i,i<l.length→p (ix l i)=true:=by
 rw[List.all_eq_true]
 constructor
 ·intro h i hi;exact h _ (qaZ hi)
 ·intro h d hd
  obtain⟨i,hi,rfl⟩:=q8w hd
  exact h i hi
theorem qwR{l:List DQ}{p:DQ→Bool}{i:Nat}(hi:i<l.length)(h:p (ix l i)=false):l.all p=false:=by
 cases ha:l.all p
 ·rfl
 ·have:=(qwa l p).1 ha i hi;simp_all
theorem qoq{l:List DQ}(hl:GDs l)(hn:l.length<1000000){i j:Nat}(hi:i<l.length)(hj:j<l.length)(side:Int) :
  (qE [.r (rD l),.i (i:Int),.i (j:Int),.i side,.i 0]).run=some (0,[.b (q2s l i j side),.i 0]):=by
 rw[qf7]
 unfold q2s
 rcases qzE hl hi hj side with⟨h1,a,b,c,d,e,h2⟩|⟨p,h1,h2⟩
 ·rw[h1]
  simp only[STD,h2]
 ·rw[h1]
  have hp:=qxn (hl.ix hi) (hl.ix hj) h1
  unfold plc at h2
  simp only[List.cons_append,List.nil_append] at h2
  have key:=q6f (S:=wu)
   (fun k=>[.r (rD l),.i (qh (rD l)),.i (k:Int),.r (rD l),.r (rD l),.r (rD l),.i (i:Int),.i (j:Int),.i side,.b true,.s (tQ p.fx),.s (tQ p.fy),.s (tQ p.ax),.s (tQ p.ay),.s (tQ p.h),.b true,.r (rD l),.i (i:Int),.i (j:Int),.i side,.s (tQ p.fx),.s (tQ p.fy),.s (tQ p.ax),.s (tQ p.ay),.s (tQ p.h),.b true,.s (tQ p.fx),.s (tQ p.fy),.s (tQ p.ax),.s (tQ p.ay),.s (tQ p.h),.b true,.b true,.r (rD l),.i 0,.i (i:Int),.i (j:Int),.i side,.s (tQ p.fx),.s (tQ p.fy),.s (tQ p.ax),.s (tQ p.ay),.s (tQ p.h)])
   (fun k=>if decide (q0o (ix l k) p)=true then none else some (1,[.i (k:Int),.r (rD l),.r (rD l),.r (rD l),.i (i:Int),.i (j:Int),.i side,.b true,.s (tQ p.fx),.s (tQ p.fy),.s (tQ p.ax),.s (tQ p.ay),.s (tQ p.h),.b true,.r (rD l),.i (i:Int),.i (j:Int),.i side,.s (tQ p.fx),.s (tQ p.fy),.s (tQ p.ax),.s (tQ p.ay),.s (tQ p.h),.b true,.s (tQ p.fx),.s (tQ p.fy),.s (tQ p.ax),.s (tQ p.ay),.s (tQ p.h),.b true,.b true,.r (rD l),.i 0,.i (i:Int),.i (j:Int),.i side,.s (tQ p.fx),.s (tQ p.fy),.s (tQ p.ax),.s (tQ p.ay),.s (tQ p.h)]))
   (0,[.r (rD l),.r (rD l),.r (rD l),.i (i:Int),.i (j:Int),.i side,.b true,.s (tQ p.fx),.s (tQ p.fy),.s (tQ p.ax),.s (tQ p.ay),.s (tQ p.h),.b true,.r (rD l),.i (i:Int),.i (j:Int),.i side,.s (tQ p.fx),.s (tQ p.fy),.s (tQ p.ax),.s (tQ p.ay),.s (tQ p.h),.b true,.s (tQ p.fx),.s (tQ p.fy),.s (tQ p.ax),.s (tQ p.ay),.s (tQ p.h),.b true,.b true,.r (rD l),.i 0,.i (i:Int),.i (j:Int),.i side,.s (tQ p.fx),.s (tQ p.fy),.s (tQ p.ax),.s (tQ p.ay),.s (tQ p.h)])
   l.length (by omega)
   (fun k hk hf=>by
    rw[yH]
    obtain⟨x1,x2,x3⟩:=qp3 hk
    have hK:=qwZ (hl.ix hk) hp
    by_cases hd:q0o (ix l k) p
    ·simp only[x1,x2,x3,STD,hK,hd,qO,q57 hk (show l.length<9223372036854775808 by omega),show (k:Int)<(l.length:Int) by omega,show (0:Int)≤(k:Int) by omega,and_self,decide_true]
    ·simp[hd] at hf)
   (fun k r hk hf=>by
    rw[yH]
    obtain⟨x1,x2,x3⟩:=qp3 hk
    have hK:=qwZ (hl.ix hk) hp
    by_cases hd:q0o (ix l k) p
    ·simp[hd] at hf
    ·simp only[hd,decide_false,Bool.false_eq_true,if_false,Option.some.injEq] at hf
     subst hf
     simp only[x1,x2,x3,STD,hK,hd,qO,show (k:Int)<(l.length:Int) by omega,show (0:Int)≤(k:Int) by omega,and_self,decide_false])
   (by rw[yH];simp only[STD,qO,show ¬(l.length:Int)<(l.length:Int) by omega])
  rcases qvb (fun k=>decide (q0o (ix l k) p)) (fun k=>((1,[.i (k:Int),.r (rD l),.r (rD l),.r (rD l),.i (i:Int),.i (j:Int),.i side,.b true,.s (tQ p.fx),.s (tQ p.fy),.s (tQ p.ax),.s (tQ p.ay),.s (tQ p.h),.b true,.r (rD l),.i (i:Int),.i (j:Int),.i side,.s (tQ p.fx),.s (tQ p.fy),.s (tQ p.ax),.s (tQ p.ay),.s (tQ p.h),.b true,.s (tQ p.fx),.s (tQ p.fy),.s (tQ p.ax),.s (tQ p.ay),.s (tQ p.h),.b true,.b true,.r (rD l),.i 0,.i (i:Int),.i (j:Int),.i side,.s (tQ p.fx),.s (tQ p.fy),.s (tQ p.ax),.s (tQ p.ay),.s (tQ p.h)]):Nat×List PV)) l.length with⟨s1,s2⟩|⟨k,hk,s2,s1⟩
  ·rw[s1] at key
   have hall:(l.all fun d=>decide (q0o d p))=true:=(qwa l _).2 s2
   simp only[Option.getD_none] at key
   simp only[STD,h2,hall]
   have key':=key
   simp only[show ((0:Nat):Int)=0 from rfl] at key'
   simp only[STD,key',qN key',show ieq 0 0=true from rfl]
  ·rw[s1] at key
   have hall:=qwR (p:=fun d=>decide (q0o d p)) hk s2
   simp only[Option.getD_some] at key
   simp only[STD,h2,hall]
   have key':=key
   simp only[show ((0:Nat):Int)=0 from rfl] at key'
   simp only[STD,key',qN key',show ¬(1=0) by omega,show (0:Int)≤(k:Int) by omega]
end Go.Eng

namespace Go.Eng
theorem q4z{S:List PV→TR}{α:Type}(st:Nat→List PV)(f:Nat→Option α)(g:α→List PV)(fin:List PV)(n:Nat)(hn:n<9223372036854775808)
  (h:∀i,i<n→(S (st i)).run=(f i).elim (some (0,st (i+1))) (fun a=>some (2,g a))) (h3:(S (st n)).run=some (1,fin)) :
  (ql S (st 0)).run=some ((q0b f 0 n).elim (0,fin) (fun a=>(1,g a))):=by
 have key:=q6f st (fun i=>(f i).map fun a=>(1,g a)) (0,fin) n hn (fun i hi hf=>by
  rw[h i hi]
  cases hfi:f i with
  | none=>rfl
  | some a=>rw[hfi] at hf;cases hf) (fun i r hi hf=>by
  rw[h i hi]
  cases hfi:f i with
  | none=>rw[hfi] at hf;cases hf
  | some a=>rw[hfi] at hf;simp at hf;rw[←hf];rfl) h3
 rw[key,qbZ]
 cases q0b f 0 n<;>rfl
def sd(s:Nat):Int:=cI [[.i 0],[.i 1],[.i (-1)]] (s:Int) 0
theorem quX(l:List DQ)(i j:Nat):q0b (fun s=>qlp l i j (sd s)) 0 3=qcl l i j:=by
 have e0:sd 0=0:=rfl
 have e1:sd 1=1:=rfl
 have e2:sd 2=-1:=rfl
 simp only[q0b,e0,e1,e2]
 unfold qcl
 cases qlp l i j 0
 ·cases qlp l i j 1
  ·cases qlp l i j (-1)<;>rfl
  ·rfl
 ·rfl
def dex(l:List DQ)(w:Nat×Nat×Int):List PV:=[.i 0,.r (rD l),.i (w.1:Int),.i (w.2.1:Int),.i w.2.2,.b true,.i (l.length:Int)]
def fW(o:Option (Nat×Nat×Int)):List PV:=o.elim [.i 0,.i 0,.i 0,.b false] (fun w=>[.i (w.1:Int),.i (w.2.1:Int),.i w.2.2,.b true])
theorem n3:qh [[U.i 0],[U.i 1],[U.i (-1)]]=3:=rfl
set_option maxHeartbeats 600000 in
theorem qs2{l:List DQ}(hl:GDs l)(hn:l.length<1000000):(qv [.r (rD l),.i 0]).run=some (0,fW (kw l)++[.i 0]):=by
 rw[qfI]
 have big:l.length<9223372036854775808:=by omega
 have A:=q4z (S:=wC) (fun k=>[.i (l.length:Int),.i (k:Int),.i 0,.r (rD l),.i 0,.i 0,.i 0,.b false,.i (l.length:Int)]) (fun k=>qlp l k k 0) (dex l)
  [.i 0,.r (rD l),.i 0,.i 0,.i 0,.b false,.i (l.length:Int)] l.length big
  (fun k hk=>by
   rw[q2T]
   have hp:=qoq hl hn hk hk 0
   unfold qlp
   by_cases c:q2s l k k 0=true
   ·rw[if_pos c]
    simp only[STD,hp,c,show (k:Int)<(l.length:Int) by omega,dex]
   ·rw[if_neg c]
    simp only[STD,hp,c,show (k:Int)<(l.length:Int) by omega,q57 hk big]
    rfl)
  (by rw[q2T];simp only[STD,show ¬(l.length:Int)<(l.length:Int) by omega])
 have B:=fun i j (hi:i<l.length) (hj:j<l.length)=>q4z (S:=wg) (fun s=>[.i (i:Int),.i (j:Int),.i (l.length:Int),.i (i:Int),.i 3,.i (s:Int),.i 0,.r (rD l),.i 0,.i 0,.i 0,.b false,.i (l.length:Int),.r [[.i 0],[.i 1],[.i (-1)]]]) (fun s=>qlp l i j (sd s)) (dex l)
  [.i (i:Int),.i (j:Int),.i (l.length:Int),.i (i:Int),.i 0,.r (rD l),.i 0,.i 0,.i 0,.b false,.i (l.length:Int)] 3 (by omega)
  (fun s hs=>by
   rw[q2g]
   have hp:=qoq hl hn hi hj (sd s)
   have esd:cI [[.i 0],[.i 1],[.i (-1)]] (s:Int) 0=sd s:=rfl
   unfold qlp
   by_cases c:q2s l i j (sd s)=true
   ·rw[if_pos c]
    simp only[STD,hp,c,esd,n3,show (s:Int)<3 by omega,show (0:Int)≤(s:Int) by omega,and_self,dex]
   ·rw[if_neg c]
    simp only[STD,hp,c,esd,n3,show (s:Int)<3 by omega,show (0:Int)≤(s:Int) by omega,and_self,q57 hs (show 3<9223372036854775808 by omega)]
    rfl)
  (by rw[q2g];simp only[STD,show ((3:Nat):Int)=3 from rfl,show ¬(3:Int)<3 by omega])
 have C:=fun i (hi:i<l.length)=>q4z (S:=w9) (fun k=>[.i (i:Int),.i ((i+1+k:Nat):Int),.i (l.length:Int),.i (i:Int),.i 0,.r (rD l),.i 0,.i 0,.i 0,.b false,.i (l.length:Int)]) (fun k=>qcl l i (i+1+k)) (dex l)
  [.i (l.length:Int),.i (i:Int),.i 0,.r (rD l),.i 0,.i 0,.i 0,.b false,.i (l.length:Int)] (l.length-(i+1)) (by omega)
  (fun k hk=>by
   rw[q2h]
   have hj:i+1+k<l.length:=by omega
   have b:=B i (i+1+k) hi hj
   rw[quX] at b
   simp only[show ((0:Nat):Int)=0 from rfl] at b
   have w:=q57 hj big
   cases hs:qcl l i (i+1+k) with
   | none=>
    rw[hs] at b
    simp only[Option.elim] at b ⊢
    simp only[STD,b,qN b,n3,show ((i+1+k:Nat):Int)<(l.length:Int) by omega,w]
    rfl
   | some v=>
    rw[hs] at b
    simp only[Option.elim,dex] at b ⊢
    simp only[STD,b,qN b,n3,show ((i+1+k:Nat):Int)<(l.length:Int) by omega,show ¬(1=0) by omega])
  (by rw[q2h];simp only[STD,show ¬((i+1+(l.length-(i+1)):Nat):Int)<(l.length:Int) by omega])
 have D:=q4z (S:=wF) (fun i=>[.i (l.length:Int),.i (i:Int),.i 0,.r (rD l),.i 0,.i 0,.i 0,.b false,.i (l.length:Int)]) (fun i=>q0b (fun k=>qcl l i (i+1+k)) 0 (l.length-(i+1))) (dex l)
  [.i 0,.r (rD l),.i 0,.i 0,.i 0,.b false,.i (l.length:Int)] l.length big
  (fun i hi=>by
   rw[q31]
   have c:=C i hi
   simp only[Nat.add_zero] at c
   have w:=q57 hi big
   cases hs:q0b (fun k=>qcl l i (i+1+k)) 0 (l.length-(i+1)) with
   | none=>
    rw[hs] at c
    simp only[Option.elim] at c ⊢
    simp only[STD,w,c,qN c,show (i:Int)<(l.length:Int) by omega]
   | some v=>
    rw[hs] at c
    simp only[Option.elim,dex] at c ⊢
    simp only[STD,w,c,qN c,show (i:Int)<(l.length:Int) by omega,show ¬(1=0) by omega])
  (by rw[q31];simp only[STD,show ¬(l.length:Int)<(l.length:Int) by omega])
 simp only[show ((0:Nat):Int)=0 from rfl] at A D
 unfold kw
 cases hs:q0b (fun i=>qlp l i i 0) 0 l.length with
 | some v=>
  rw[hs] at A
  simp only[Option.elim,dex] at A
  simp only[STD,qO,A,qN A,show ¬(1=0) by omega,fW,Option.elim]
  rfl
 | none=>
  rw[hs] at A
  simp only[Option.elim] at A
  simp only[]
  cases hs':q0b (fun i=>q0b (fun k=>qcl l i (i+1+k)) 0 (l.length-(i+1))) 0 l.length with
  | none=>
   rw[hs'] at D
   simp only[Option.elim] at D
   simp only[STD,qO,A,qN A,D,qN D,fW,Option.elim]
   rfl
  | some v=>
   rw[hs'] at D
   simp only[Option.elim,dex] at D
   simp only[STD,qO,A,qN A,D,qN D,fW,Option.elim,show ¬(1=0) by omega]
   rfl
end Go.Eng

namespace Go.Eng
theorem qyO{d:DQ}(h:GD d):qzn (tQ d.x) (tQ d.y) (tQ d.s)=0:=
 qze ((wj h.x).ok (by omega) (by omega)) ((wj h.y).ok (by omega) (by omega)) ((q5I h.s).ok (by omega) (by omega)) h.nn
theorem qnI{d:DQ}{px py:Rat}(gd:GD d)(hx:bnd 12 10 px)(hy:bnd 12 10 py) :
  (wy [.s (tQ d.x),.s (tQ d.y),.s (tQ d.s),.s (tQ px),.s (tQ py)]).run=some (0,[.b (decide (q1J d.x d.y px py≤d.s)),.i 0]):=by
 rw[qit]
 have ca:=qgO _ _ _ (show (tQ d.x).length≤1000000 from by have:=qek ((wj gd.x).ok (by omega) (by omega));omega) (show (tQ d.y).length≤1000000 from by have:=qek ((wj gd.y).ok (by omega) (by omega));omega) (show (tQ d.s).length≤1000000 from by have:=qek ((q5I gd.s).ok (by omega) (by omega));omega)
 rw[qyO gd] at ca
 have c0:=q5H (hx.ok (by omega) (by omega))
 have c1:=q5H (hy.ok (by omega) (by omega))
 have L:=q4z (S:=yS) (fun k=>[.i 2,.i (k:Int),.s (tQ d.x),.s (tQ d.y),.s (tQ d.s),.s (tQ px),.s (tQ py),.r [[.s (tQ px)],[.s (tQ py)]]]) (fun _=>(none:Option Nat)) (fun _=>[])
  [.s (tQ d.x),.s (tQ d.y),.s (tQ d.s),.s (tQ px),.s (tQ py)] 2 (by omega)
  (fun k hk=>by
   rw[q8s]
   have w:=q57 hk (show 2<9223372036854775808 by omega)
   rcases (show k=0∨k=1 by omega) with rfl|rfl
   ·have c:(qC [.s (cS [[.s (tQ px)],[.s (tQ py)]] ((0:Nat):Int) 0)]).run=_:=c0
    simp only[STD,c,w,show ((0:Nat):Int)<2 by omega,show (0:Int)≤((0:Nat):Int) by omega,show qh [[U.s (tQ px)],[U.s (tQ py)]]=2 from rfl,and_self]
    rfl
   ·have c:(qC [.s (cS [[.s (tQ px)],[.s (tQ py)]] ((1:Nat):Int) 0)]).run=_:=c1
    simp only[STD,c,w,show ((1:Nat):Int)<2 by omega,show (0:Int)≤((1:Nat):Int) by omega,show qh [[U.s (tQ px)],[U.s (tQ py)]]=2 from rfl,and_self]
    rfl)
  (by rw[q8s];simp only[STD,show ((2:Nat):Int)=2 from rfl,show ¬(2:Int)<2 by omega])
 simp only[show ((0:Nat):Int)=0 from rfl,q0b,Option.elim] at L
 obtain⟨d1,d2,d3⟩:=gd.sh
 have f:=qBg d1 d2 hx hy
 have fb:=qlQ d1 d2 hx hy
 have o:=qz3 fb d3 (by omega) (by omega) (by omega)
 by_cases c:q1J d.x d.y px py≤d.s
 ·simp only[STD,ca,show qh [[U.s (tQ px)],[U.s (tQ py)]]=2 from rfl,L,qN L,f,o,qna,c,show ieq 0 0=true from rfl,decide_true]
 ·simp only[STD,ca,show qh [[U.s (tQ px)],[U.s (tQ py)]]=2 from rfl,L,qN L,f,o,qna,c,decide_false]
end Go.Eng

namespace Go.Eng
noncomputable def cD(x:R)(i:Nat):Int:=qzn (cS x (i:Int) 0) (cS x (i:Int) 1) (cS x (i:Int) 2)
noncomputable def lE(x:R):Int:=if 64<x.length then 5 else if q9q (cD x) x.length=0 then (if x.length=0 then 13 else 0) else q9q (cD x) x.length
theorem qqU(x:R)(h:64<x.length∨∀i,i<x.length→∀j,(cS x (i:Int) j).length≤1000000):(zh [.r x]).run=some (0,[.i (lE x)]):=by
 rw[qoX]
 unfold lE
 by_cases hn:64<x.length
 ·have:(64:Int)<qh x:=by unfold qh;omega
  simp only[STD,this,hn]
 ·have h':∀i,i<x.length→∀j,(cS x (i:Int) j).length≤1000000:=by
   rcases h with h|h
   ·omega
   ·exact h
  have hn':¬(64:Int)<qh x:=by unfold qh;omega
  have L:=qoJ (S:=q34) (fun k=>[.r x,.r x,.i (qh x),.i (k:Int)]) (cD x) [] [.r x] x.length (by omega)
   (fun i hi=>by
    rw[qdY]
    have c:=qgO _ _ _ (h' i hi 0) (h' i hi 1) (h' i hi 2)
    have w:=q57 hi (show x.length<9223372036854775808 by omega)
    by_cases e:qzn (cS x (i:Int) 0) (cS x (i:Int) 1) (cS x (i:Int) 2)=0
    ·simp only[STD,c,e,w,qqy hi,q94,and_self,cD]
    ·simp only[STD,c,e,qqy hi,q94,and_self,cD])
   (by rw[qdY];simp only[STD,qxf])
  simp only[show ((0:Nat):Int)=0 from rfl] at L
  by_cases e:q9q (cD x) x.length=0
  ·rw[if_pos e] at L
   by_cases z:x.length=0
   ·have:qh x=0:=by unfold qh;omega
    rw[if_neg hn,if_pos e,if_pos z]
    have L':=L
    rw[this] at L'
    simp only[STD,this,show ¬(64:Int)<0 by omega,L',qN L']
   ·have:¬qh x=0:=by unfold qh;omega
    simp only[STD,hn',L,qN L,hn,e,z,this]
  ·rw[if_neg e] at L
   simp only[STD,hn',L,qN L,hn,e,show ¬(1=0) by omega]
instance (s:List UInt8):Decidable (shT s):=by unfold shT;infer_instance
theorem qyS(x:R)(i:Nat)(j:Nat):cS x (i:Int) j=((x.getD i []).getD j (.i 0)).toS:=rfl
theorem qB1{l:List DQ}(hl:GDs l)(h0:l≠[])(hn:l.length≤64):lE (rD l)=0:=by
 have hlen:(rD l).length=l.length:=by simp[rD]
 have hz:l.length≠0:=fun h=>h0 (List.length_eq_zero_iff.1 h)
 unfold lE
 rw[hlen,if_neg (by omega),if_neg hz,if_pos]
 refine qqQ fun i hi=>?_
 obtain⟨x1,x2,x3⟩:=qp3 hi
 unfold cD
 rw[x1,x2,x3]
 exact qyO (hl.ix hi)
theorem qzu{l:List DQ}(hl:GDs l):∀i,i<(rD l).length→∀j,(cS (rD l) (i:Int) j).length≤1000000:=by
 intro i hi j
 have hi':i<l.length:=by simpa[rD] using hi
 obtain⟨x1,x2,x3⟩:=qp3 hi'
 have g:=hl.ix hi'
 match j with
 | 0=>rw[x1];have:=qek ((wj g.x).ok (by omega) (by omega));omega
 | 1=>rw[x2];have:=qek ((wj g.y).ok (by omega) (by omega));omega
 | 2=>rw[x3];have:=qek ((q5I g.s).ok (by omega) (by omega));omega
 | j+3=>
  rw[qyS]
  have e:(rD l).getD i []=qd6 (ix l i):=by
   unfold rD ix
   simp[List.getD_eq_getElem?_getD,hi']
  rw[e];simp[qd6,List.getD_eq_getElem?_getD,U.toS]
theorem qlT{l:List DQ}(hl:GDs l)(h0:l≠[])(hn:l.length≤64):(zh [.r (rD l)]).run=some (0,[.i 0]):=by
 rw[qqU _ (.inr (qzu hl)),qB1 hl h0 hn]
def cW(o:Option (Nat×Nat×Int)):List PV:=o.elim [.b false,.i 0,.i 0,.i 0,.i 0] (fun w=>[.b true,.i (w.1:Int),.i (w.2.1:Int),.i w.2.2,.i 0])
theorem qkT{l:List DQ}(hl:GDs l)(h0:l≠[])(hn:l.length≤64):(ye [.r (rD l)]).run=some (0,cW (kw l)):=by
 rw[qkQ]
 have a:=qlT hl h0 hn
 have b:=qs2 hl (by omega)
 cases hf:kw l with
 | none=>
  rw[hf] at b
  simp only[fW,Option.elim,List.cons_append,List.nil_append] at b
  simp only[STD,a,b,cW,Option.elim]
 | some w=>
  rw[hf] at b
  simp only[fW,Option.elim,List.cons_append,List.nil_append] at b
  simp only[STD,a,b,cW,Option.elim]
def vE(n x1 x2 x3:Int):Int:=if x1<0∨n≤x1∨x2<0∨n≤x2 then 2 else if x2<x1 then 9 else if x3 < -1∨1<x3 then 1 else 0
def vB(l:List DQ)(x1 x2 x3:Int):Bool:=if vE l.length x1 x2 x3=0 then q2s l x1.toNat x2.toNat x3 else false
theorem qrs{l:List DQ}(hl:GDs l)(h0:l≠[])(hn:l.length≤64)(x1 x2 x3:Int):(q38 [.r (rD l),.i x1,.i x2,.i x3]).run=some (0,[.b (vB l x1 x2 x3),.i (vE l.length x1 x2 x3)]):=by
 rw[qkl]
 have a:=qlT hl h0 hn
 unfold vB vE
 by_cases c1:x1<0
 ·simp only[STD,a,c1,true_or,show ¬((2:Int)=0) by omega]
 by_cases c2:(l.length:Int)≤x1
 ·simp only[STD,a,c1,c2,qO,true_or,or_true,show ¬((2:Int)=0) by omega]
 by_cases c3:x2<0
 ·simp only[STD,a,c1,c2,c3,qO,true_or,or_true,show ¬((2:Int)=0) by omega]
 by_cases c4:(l.length:Int)≤x2
 ·simp only[STD,a,c1,c2,c3,c4,qO,or_true,show ¬((2:Int)=0) by omega]
 by_cases c5:x2<x1
 ·simp only[STD,a,c1,c2,c3,c4,c5,qO,or_self,show ¬((9:Int)=0) by omega]
 by_cases c6:x3 < -1
 ·simp only[STD,a,c1,c2,c3,c4,c5,c6,qO,or_self,true_or,show ¬((1:Int)=0) by omega]
 by_cases c7:1<x3
 ·simp only[STD,a,c1,c2,c3,c4,c5,c6,c7,qO,or_self,or_true,show ¬((1:Int)=0) by omega]
 have p:=qoq hl (by omega) (i:=x1.toNat) (j:=x2.toNat) (by omega) (by omega) x3
 rw[show ((x1.toNat:Nat):Int)=x1 by omega,show ((x2.toNat:Nat):Int)=x2 by omega] at p
 simp only[STD,a,c1,c2,c3,c4,c5,c6,c7,qO,or_self,p]
end Go.Eng

namespace Go.Eng
theorem qgG(l:R)(h:l.length<9223372036854775808):(vq [.r l,.r l]).run=some (0,[.b true]):=by
 have e:(ql wJ [.r l,.r l,.i (qh l),.i 0]).run=some (0,[]):=by
  refine q0B (fun i=>[.r l,.r l,.i (qh l),.i (i:Int)]) (0,[]) l.length h (fun i hi=>?_) ?_
  ·have h1:(i:Int)<qh l:=by unfold qh;omega
   rw[q35]
   simp only[STD,h1,q57 hi h,show (0:Int)≤(i:Int) by omega,and_self]
  ·rw[q35]
   simp only[STD,show ¬((l.length:Int)<qh l) by unfold qh;omega]
 rw[qbi]
 simp only[STD,e,qN e]
end Go.Eng

namespace Go.Eng
def two(i j:Nat):R:=[[.i (i:Int)],[.i (j:Int)]]
def qjX(i j k:Nat):R:=[[.i (i:Int)],[.i (j:Int)],[.i (k:Int)]]
def qcx(l:List DQ)(i j:Nat):Option R:=if (kw [ix l i,ix l j]).isSome=true then none else some (two i j)
def qcm(l:List DQ)(i j k:Nat):Option R:=if (kw [ix l i,ix l j,ix l k]).isSome=true then none else some (qjX i j k)
def qtW(l:List DQ):Option R:=q0b (fun i=>q0b (fun k=>qcx l i (i+1+k)) 0 (l.length-(i+1))) 0 l.length
def qvg(l:List DQ):Option R:=q0b (fun i=>q0b (fun k=>q0b (fun m=>qcm l i (i+1+k) (i+1+k+1+m)) 0 (l.length-(i+1+k+1))) 0 (l.length-(i+1))) 0 l.length
def q3v(l:List DQ):R:=(qtW l).elim ((qvg l).getD []) id
theorem qBJ{a b:DQ}(ga:GD a)(gb:GD b):GDs [a,b]:=fun d hd=>by
 simp only[List.mem_cons,List.not_mem_nil,or_false] at hd
 rcases hd with rfl|rfl<;>assumption
theorem qBH{a b c:DQ}(ga:GD a)(gb:GD b)(gc:GD c):GDs [a,b,c]:=fun d hd=>by
 simp only[List.mem_cons,List.not_mem_nil,or_false] at hd
 rcases hd with rfl|rfl|rfl<;>assumption
theorem qve(o:Option (Nat×Nat×Int)):∃a b c,fW o=[.i a,.i b,.i c,.b o.isSome]:=by
 cases o with
 | none=>exact⟨_,_,_,rfl⟩
 | some w=>exact⟨_,_,_,rfl⟩
theorem qBa(l:List DQ)(i j k:Nat)(hk:k<2):∃m,(m=i∨m=j)∧cI (two i j) (k:Int) 0=(m:Int)∧[qd6 (ix l i),qd6 (ix l j)].take (k+1)=[qd6 (ix l i),qd6 (ix l j)].take k++[qd6 (ix l m)]:=by
 rcases (show k=0∨k=1 by omega) with rfl|rfl
 ·exact⟨i,.inl rfl,rfl,rfl⟩
 ·exact⟨j,.inr rfl,rfl,rfl⟩
theorem qBy(l:List DQ)(i j o k:Nat)(hk:k<3):∃m,(m=i∨m=j∨m=o)∧cI (qjX i j o) (k:Int) 0=(m:Int)∧[qd6 (ix l i),qd6 (ix l j),qd6 (ix l o)].take (k+1)=[qd6 (ix l i),qd6 (ix l j),qd6 (ix l o)].take k++[qd6 (ix l m)]:=by
 rcases (show k=0∨k=1∨k=2 by omega) with rfl|rfl|rfl
 ·exact⟨i,.inl rfl,rfl,rfl⟩
 ·exact⟨j,.inr (.inl rfl),rfl,rfl⟩
 ·exact⟨o,.inr (.inr rfl),rfl,rfl⟩
theorem qpO{x:R}{k:Nat}:qh (x.take k)≤qh x:=by unfold qh;rw[List.length_take];omega
theorem qtn(i j:Nat):qh (two i j)=2:=rfl
theorem qnV(i j k:Nat):qh (qjX i j k)=3:=rfl
theorem qwQ{l:List DQ}(_:l.length<1000000){i j:Nat}(hi:i<l.length)(hj:j<l.length)(a b c d e f g h:Int) :
  (ql qR [.i (qh (two i j)),.i 0,.i a,.i b,.i c,.i d,.i e,.r (rD l),.i f,.i g,.i h,.r (rD l),.i 0,.r (two i j),.r []]).run=some (0,[.i a,.i b,.i c,.i d,.i e,.r (rD l),.i f,.i g,.i h,.r (rD l),.i 0,.r (two i j),.r (rD [ix l i,ix l j])]):=by
 have key:=q0B (S:=qR) (fun k=>[.i (qh (two i j)),.i (k:Int),.i a,.i b,.i c,.i d,.i e,.r (rD l),.i f,.i g,.i h,.r (rD l),.i 0,.r (two i j),.r ([qd6 (ix l i),qd6 (ix l j)].take k)])
  (0,[.i a,.i b,.i c,.i d,.i e,.r (rD l),.i f,.i g,.i h,.r (rD l),.i 0,.r (two i j),.r (rD [ix l i,ix l j])]) 2 (by omega)
  (fun k hk=>by
   rw[kL]
   obtain⟨m,hm,e1,e2⟩:=qBa l i j k hk
   have hml:m<l.length:=by rcases hm with rfl|rfl<;>assumption
   obtain⟨x1,x2,x3⟩:=qp3 hml
   have w:=q57 hk (show 2<9223372036854775808 by omega)
   have t:=qpO (x:=[qd6 (ix l i),qd6 (ix l j)]) (k:=k)
   have t2:qh [qd6 (ix l i),qd6 (ix l j)]=2:=rfl
   have t1:qh [[U.s (tQ (ix l m).x),U.s (tQ (ix l m).y),U.s (tQ (ix l m).s)]]=1:=rfl
   rw[e1,x1,x2,x3,e2]
   simp only[STD,qtn,show (k:Int)<2 by omega,q94,qO,show (m:Int)<(l.length:Int) by omega,and_self,w,show qh ([qd6 (ix l i),qd6 (ix l j)].take k)+qh [[U.s (tQ (ix l m).x),U.s (tQ (ix l m).y),U.s (tQ (ix l m).s)]]≤2932031007402 by omega]
   rfl)
  (by rw[kL];simp only[STD,qtn,show ¬((2:Nat):Int)<2 by omega];rfl)
 exact key
theorem qvR{l:List DQ}(_:l.length<1000000){i j o:Nat}(hi:i<l.length)(hj:j<l.length)(ho:o<l.length)(a b c d e f g h p q:Int) :
  (ql qQ [.i (qh (qjX i j o)),.i 0,.i a,.i b,.i c,.i d,.i e,.i f,.r (rD l),.i g,.i h,.i p,.i q,.r (rD l),.i 0,.r (qjX i j o),.r []]).run=some (0,[.i a,.i b,.i c,.i d,.i e,.i f,.r (rD l),.i g,.i h,.i p,.i q,.r (rD l),.i 0,.r (qjX i j o),.r (rD [ix l i,ix l j,ix l o])]):=by
 have key:=q0B (S:=qQ) (fun k=>[.i (qh (qjX i j o)),.i (k:Int),.i a,.i b,.i c,.i d,.i e,.i f,.r (rD l),.i g,.i h,.i p,.i q,.r (rD l),.i 0,.r (qjX i j o),.r ([qd6 (ix l i),qd6 (ix l j),qd6 (ix l o)].take k)])
  (0,[.i a,.i b,.i c,.i d,.i e,.i f,.r (rD l),.i g,.i h,.i p,.i q,.r (rD l),.i 0,.r (qjX i j o),.r (rD [ix l i,ix l j,ix l o])]) 3 (by omega)
  (fun k hk=>by
   rw[kM]
   obtain⟨m,hm,e1,e2⟩:=qBy l i j o k hk
   have hml:m<l.length:=by rcases hm with rfl|rfl|rfl<;>assumption
   obtain⟨x1,x2,x3⟩:=qp3 hml
   have w:=q57 hk (show 3<9223372036854775808 by omega)
   have t:=qpO (x:=[qd6 (ix l i),qd6 (ix l j),qd6 (ix l o)]) (k:=k)
   have t2:qh [qd6 (ix l i),qd6 (ix l j),qd6 (ix l o)]=3:=rfl
   have t1:qh [[U.s (tQ (ix l m).x),U.s (tQ (ix l m).y),U.s (tQ (ix l m).s)]]=1:=rfl
   rw[e1,x1,x2,x3,e2]
   simp only[STD,qnV,show (k:Int)<3 by omega,q94,qO,show (m:Int)<(l.length:Int) by omega,and_self,w,show qh ([qd6 (ix l i),qd6 (ix l j),qd6 (ix l o)].take k)+qh [[U.s (tQ (ix l m).x),U.s (tQ (ix l m).y),U.s (tQ (ix l m).s)]]≤2932031007402 by omega]
   rfl)
  (by rw[kM];simp only[STD,qnV,show ¬((3:Nat):Int)<3 by omega];rfl)
 exact key
theorem qsq{l:List DQ}(hl:GDs l)(h0:l≠[])(hn:l.length≤64):(vX [.r (rD l)]).run=some (0,[.r (q3v l),.i 0]):=by
 rw[qcZ]
 have a:=qlT hl h0 hn
 have big:l.length<9223372036854775808:=by omega
 have A:=fun i (hi:i<l.length)=>q4z (S:=wG) (fun k=>[.i (i:Int),.i ((i+1+k:Nat):Int),.i (l.length:Int),.i (i:Int),.r (rD l),.i 0]) (fun k=>qcx l i (i+1+k)) (fun r=>[.i 0,.r r])
  [.i (l.length:Int),.i (i:Int),.r (rD l),.i 0] (l.length-(i+1)) (by omega)
  (fun k hk=>by
   rw[q2U]
   have hj:i+1+k<l.length:=by omega
   have g:=qwQ (l:=l) (by omega) hi hj (i:Int) ((i+1+k:Nat):Int) (l.length:Int) (i:Int) ((i+1+k:Nat):Int) (l.length:Int) (i:Int) ((i+1+k:Nat):Int)
   have f:=qs2 (qBJ (hl.ix hi) (hl.ix hj)) (by simp)
   obtain⟨u,v,w,hfw⟩:=qve (kw [ix l i,ix l (i+1+k)])
   rw[hfw] at f
   simp only[List.cons_append,List.nil_append] at f
   have ws:=q57 hj big
   have tw:[[U.i (i:Int)],[U.i ((i+1+k:Nat):Int)]]=two i (i+1+k):=rfl
   rw[tw]
   unfold qcx
   cases hs:(kw [ix l i,ix l (i+1+k)]).isSome
   ·rw[hs] at f
    simp only[STD,qO,g,f,show ((i+1+k:Nat):Int)<(l.length:Int) by omega,show ieq 0 0=true from rfl,Option.elim,tw]
   ·rw[hs] at f
    simp only[STD,qO,g,f,show ((i+1+k:Nat):Int)<(l.length:Int) by omega,Option.elim,ws]
    rfl)
  (by rw[q2U];simp only[STD,qO,show ¬((i+1+(l.length-(i+1)):Nat):Int)<(l.length:Int) by omega])
 have B:=q4z (S:=wU) (fun i=>[.i (l.length:Int),.i (i:Int),.r (rD l),.i 0]) (fun i=>q0b (fun k=>qcx l i (i+1+k)) 0 (l.length-(i+1))) (fun r=>[.i 0,.r r])
  [.r (rD l),.i 0] l.length big
  (fun i hi=>by
   rw[q3P]
   have c:=A i hi
   simp only[Nat.add_zero] at c
   have w:=q57 hi big
   cases hs:q0b (fun k=>qcx l i (i+1+k)) 0 (l.length-(i+1)) with
   | none=>
    rw[hs] at c
    simp only[Option.elim] at c ⊢
    simp only[STD,w,c,qN c,show (i:Int)<(l.length:Int) by omega]
   | some v=>
    rw[hs] at c
    simp only[Option.elim] at c ⊢
    simp only[STD,w,c,qN c,show (i:Int)<(l.length:Int) by omega,show ¬(1=0) by omega])
  (by rw[q3P];simp only[STD,show ¬(l.length:Int)<(l.length:Int) by omega])
 have C:=fun i j (hi:i<l.length) (hj:j<l.length)=>q4z (S:=wN) (fun k=>[.i (i:Int),.i (j:Int),.i ((j+1+k:Nat):Int),.i (l.length:Int),.i (i:Int),.r (rD l),.i 0]) (fun k=>qcm l i j (j+1+k)) (fun r=>[.i 0,.r r])
  [.i (i:Int),.i (j:Int),.i (l.length:Int),.i (i:Int),.r (rD l),.i 0] (l.length-(j+1)) (by omega)
  (fun k hk=>by
   rw[q2K]
   have ho:j+1+k<l.length:=by omega
   have g:=qvR (l:=l) (by omega) hi hj ho (i:Int) (j:Int) ((j+1+k:Nat):Int) (l.length:Int) (i:Int) ((j+1+k:Nat):Int) (l.length:Int) (i:Int) (j:Int) ((j+1+k:Nat):Int)
   have f:=qs2 (qBH (hl.ix hi) (hl.ix hj) (hl.ix ho)) (by simp)
   obtain⟨u,v,w,hfw⟩:=qve (kw [ix l i,ix l j,ix l (j+1+k)])
   rw[hfw] at f
   simp only[List.cons_append,List.nil_append] at f
   have ws:=q57 ho big
   have tw:[[U.i (i:Int)],[U.i (j:Int)],[U.i ((j+1+k:Nat):Int)]]=qjX i j (j+1+k):=rfl
   rw[tw]
   unfold qcm
   cases hs:(kw [ix l i,ix l j,ix l (j+1+k)]).isSome
   ·rw[hs] at f
    simp only[STD,qO,g,f,show ((j+1+k:Nat):Int)<(l.length:Int) by omega,show ieq 0 0=true from rfl,Option.elim,tw]
   ·rw[hs] at f
    simp only[STD,qO,g,f,show ((j+1+k:Nat):Int)<(l.length:Int) by omega,Option.elim,ws]
    rfl)
  (by rw[q2K];simp only[STD,qO,show ¬((j+1+(l.length-(j+1)):Nat):Int)<(l.length:Int) by omega])
 have D:=fun i (hi:i<l.length)=>q4z (S:=wD) (fun k=>[.i (i:Int),.i ((i+1+k:Nat):Int),.i (l.length:Int),.i (i:Int),.r (rD l),.i 0]) (fun k=>q0b (fun m=>qcm l i (i+1+k) (i+1+k+1+m)) 0 (l.length-(i+1+k+1))) (fun r=>[.i 0,.r r])
  [.i (l.length:Int),.i (i:Int),.r (rD l),.i 0] (l.length-(i+1)) (by omega)
  (fun k hk=>by
   rw[q2L]
   have hj:i+1+k<l.length:=by omega
   have c:=C i (i+1+k) hi hj
   simp only[Nat.add_zero] at c
   have w:=q57 hj big
   cases hs:q0b (fun m=>qcm l i (i+1+k) (i+1+k+1+m)) 0 (l.length-(i+1+k+1)) with
   | none=>
    rw[hs] at c
    simp only[Option.elim] at c ⊢
    simp only[STD,w,c,qN c,qO,show ((i+1+k:Nat):Int)<(l.length:Int) by omega]
    rfl
   | some v=>
    rw[hs] at c
    simp only[Option.elim] at c ⊢
    simp only[STD,w,c,qN c,qO,show ((i+1+k:Nat):Int)<(l.length:Int) by omega,show ¬(1=0) by omega])
  (by rw[q2L];simp only[STD,qO,show ¬((i+1+(l.length-(i+1)):Nat):Int)<(l.length:Int) by omega])
 have E:=q4z (S:=wP) (fun i=>[.i (l.length:Int),.i (i:Int),.r (rD l),.i 0]) (fun i=>q0b (fun k=>q0b (fun m=>qcm l i (i+1+k) (i+1+k+1+m)) 0 (l.length-(i+1+k+1))) 0 (l.length-(i+1))) (fun r=>[.i 0,.r r])
  [.i 0] l.length big
  (fun i hi=>by
   rw[q2Z]
   have c:=D i hi
   simp only[Nat.add_zero] at c
   have w:=q57 hi big
   cases hs:q0b (fun k=>q0b (fun m=>qcm l i (i+1+k) (i+1+k+1+m)) 0 (l.length-(i+1+k+1))) 0 (l.length-(i+1)) with
   | none=>
    rw[hs] at c
    simp only[Option.elim] at c ⊢
    simp only[STD,w,c,qN c,show (i:Int)<(l.length:Int) by omega]
   | some v=>
    rw[hs] at c
    simp only[Option.elim] at c ⊢
    simp only[STD,w,c,qN c,show (i:Int)<(l.length:Int) by omega,show ¬(1=0) by omega])
  (by rw[q2Z];simp only[STD,show ¬(l.length:Int)<(l.length:Int) by omega])
 simp only[show ((0:Nat):Int)=0 from rfl] at B E
 unfold q3v
 cases hp:qtW l with
 | some r=>
  rw[show q0b (fun i=>q0b (fun k=>qcx l i (i+1+k)) 0 (l.length-(i+1))) 0 l.length=some r from hp] at B
  simp only[Option.elim] at B
  simp only[STD,a,qO,B,qN B,Option.elim,id,show ¬(1=0) by omega]
 | none=>
  rw[show q0b (fun i=>q0b (fun k=>qcx l i (i+1+k)) 0 (l.length-(i+1))) 0 l.length=none from hp] at B
  simp only[Option.elim] at B
  cases ht:qvg l with
  | some r=>
   rw[show q0b (fun i=>q0b (fun k=>q0b (fun m=>qcm l i (i+1+k) (i+1+k+1+m)) 0 (l.length-(i+1+k+1))) 0 (l.length-(i+1))) 0 l.length=some r from ht] at E
   simp only[Option.elim] at E
   simp only[STD,a,qO,B,qN B,E,qN E,Option.elim,Option.getD_some,show ¬(1=0) by omega]
  | none=>
   rw[show q0b (fun i=>q0b (fun k=>q0b (fun m=>qcm l i (i+1+k) (i+1+k+1+m)) 0 (l.length-(i+1+k+1))) 0 (l.length-(i+1))) 0 l.length=none from ht] at E
   simp only[Option.elim] at E
   simp only[STD,a,qO,B,qN B,E,qN E,Option.elim,Option.getD_none]
end Go.Eng

namespace Go.Eng
theorem qx3{l l':List DQ}(h:qf8 l)(hg:∀d'∈l',∃d∈l,d.x=d'.x∧d.y=d'.y∧d.s≤d'.s):qf8 l':=by
 obtain⟨x,y,hm⟩:=h
 refine⟨x,y,fun d' hd'=>?_⟩
 obtain⟨d,hd,e1,e2,e3⟩:=hg d' hd'
 have:=hm d hd
 unfold pw at *
 rw[←e1,←e2]
 grind
theorem qky{l:List DQ}(hs:∀d∈l,0≤d.s){i j:Nat}(hi:i<l.length)(hj:j<l.length):qcx l i j=none↔qf8 [ix l i,ix l j]:=by
 have:=qaL (l:=[ix l i,ix l j]) (by simp) (fun d hd=>by
  simp only[List.mem_cons,List.not_mem_nil,or_false] at hd
  rcases hd with rfl|rfl
  ·exact hs _ (qaZ hi)
  ·exact hs _ (qaZ hj))
 rw[←this];unfold qcx
 split<;>simp_all
theorem qkC{l:List DQ}(hs:∀d∈l,0≤d.s){i j k:Nat}(hi:i<l.length)(hj:j<l.length)(hk:k<l.length):qcm l i j k=none↔qf8 [ix l i,ix l j,ix l k]:=by
 have:=qaL (l:=[ix l i,ix l j,ix l k]) (by simp) (fun d hd=>by
  simp only[List.mem_cons,List.not_mem_nil,or_false] at hd
  rcases hd with rfl|rfl|rfl
  ·exact hs _ (qaZ hi)
  ·exact hs _ (qaZ hj)
  ·exact hs _ (qaZ hk))
 rw[←this];unfold qcm
 split<;>simp_all
theorem quP{l:List DQ}(hs:∀d∈l,0≤d.s):(qtW l=none∧∀i j,i<j→j<l.length→qf8 [ix l i,ix l j]) ∨
  ∃i j,i<j∧j<l.length∧qtW l=some (two i j)∧¬qf8 [ix l i,ix l j]:=by
 cases h:qtW l with
 | none=>
  refine .inl ⟨rfl,fun i j hij hj=>?_⟩
  have h1:=q1z h i (by omega) (by omega)
  have h2:=q1z h1 (j-(i+1)) (by omega) (by omega)
  simp only[show i+1+(j-(i+1))=j by omega] at h2
  exact(qky hs (by omega) hj).1 h2
 | some a=>
  obtain⟨i,_,hi,h1,_⟩:=q37 h
  obtain⟨k,_,hk,h2,_⟩:=q37 h1
  refine .inr ⟨i,i+1+k,by omega,by omega,?_,?_⟩
  ·unfold qcx at h2
   split at h2
   ·cases h2
   ·exact h2.symm
  ·rw[←qky hs (by omega) (by omega),h2];simp
theorem quI{l:List DQ}(hs:∀d∈l,0≤d.s):(qvg l=none∧∀i j k,i<j→j<k→k<l.length→qf8 [ix l i,ix l j,ix l k]) ∨
  ∃i j k,i<j∧j<k∧k<l.length∧qvg l=some (qjX i j k)∧¬qf8 [ix l i,ix l j,ix l k]:=by
 cases h:qvg l with
 | none=>
  refine .inl ⟨rfl,fun i j k hij hjk hk=>?_⟩
  have h1:=q1z h i (by omega) (by omega)
  have h2:=q1z h1 (j-(i+1)) (by omega) (by omega)
  simp only[show i+1+(j-(i+1))=j by omega] at h2
  have h3:=q1z h2 (k-(j+1)) (by omega) (by omega)
  simp only[show j+1+(k-(j+1))=k by omega] at h3
  exact(qkC hs (by omega) (by omega) hk).1 h3
 | some a=>
  obtain⟨i,_,hi,h1,_⟩:=q37 h
  obtain⟨k,_,hk,h2,_⟩:=q37 h1
  obtain⟨m,_,hm,h3,_⟩:=q37 h2
  refine .inr ⟨i,i+1+k,i+1+k+1+m,by omega,by omega,by omega,?_,?_⟩
  ·unfold qcm at h3
   split at h3
   ·cases h3
   ·exact h3.symm
  ·rw[←qkC hs (by omega) (by omega) (by omega),h3];simp
theorem qB2{l:List DQ}{i j:Nat}(hi:i<l.length)(hj:j<l.length):∀d∈[ix l i,ix l j],d∈l:=fun d hd=>by
 simp only[List.mem_cons,List.not_mem_nil,or_false] at hd
 rcases hd with rfl|rfl
 ·exact qaZ hi
 ·exact qaZ hj
theorem qB5{l:List DQ}{i j k:Nat}(hi:i<l.length)(hj:j<l.length)(hk:k<l.length):∀d∈[ix l i,ix l j,ix l k],d∈l:=fun d hd=>by
 simp only[List.mem_cons,List.not_mem_nil,or_false] at hd
 rcases hd with rfl|rfl|rfl
 ·exact qaZ hi
 ·exact qaZ hj
 ·exact qaZ hk
theorem qjs{l:List DQ}(hs:∀d∈l,0≤d.s):(qf8 l∧q3v l=[]) ∨
  (¬qf8 l∧∃i j,i<j∧j<l.length∧q3v l=two i j∧¬qf8 [ix l i,ix l j]) ∨
  (¬qf8 l∧(∀i j,i<j→j<l.length→qf8 [ix l i,ix l j])∧∃i j k,i<j∧j<k∧k<l.length∧q3v l=qjX i j k∧¬qf8 [ix l i,ix l j,ix l k]):=by
 rcases quP hs with⟨h1,h2⟩|⟨i,j,hij,hj,h1,h2⟩
 ·rcases quI hs with⟨h3,h4⟩|⟨i,j,k,hij,hjk,hk,h3,h4⟩
  ·refine .inl ⟨qxz hs h2 h4,?_⟩
   unfold q3v;rw[h1,h3];rfl
  ·refine .inr (.inr ⟨fun h=>h4 (h.mono (qB5 (by omega) (by omega) hk)),h2,i,j,k,hij,hjk,hk,?_,h4⟩)
   unfold q3v;rw[h1,h3];rfl
 ·refine .inr (.inl ⟨fun h=>h2 (h.mono (qB2 (by omega) hj)),i,j,hij,hj,?_,h2⟩)
  unfold q3v;rw[h1];rfl
end Go.Eng

namespace Go.Eng
def chk(x0 x1 x2 x3 x4 x5:Int)(x6:Bool):Int:=
 if ¬(-100000≤x0∧x0≤100000∧-100000≤x1∧x1≤100000∧1≤x2∧x2≤100000∧1≤x3∧x3≤100000) then 2
 else if x3<x2 then 9
 else if x4<0∨100000<x4∨(x6=false∧x2≤x4) then 2
 else if x5<0∨2<x5 then 1 else 0
theorem qiA(x:Int):(yk [.i x]).run=some (0,[.b (decide (-100000≤x∧x≤100000))]):=by
 rw[qs6];simp only[qhh,q6Z,qdr];by_cases h:-100000≤x<;>simp[h,ile]
theorem qnd(x:Int):(q3X [.i x]).run=some (0,[.b (decide (-100000≤x∧x≤100000))]):=by
 rw[qse];simp only[qhh,q6Z,qdr];by_cases h:-100000≤x<;>simp[h,ile]
theorem qea(x:Int):(vW [.i x]).run=some (0,[.b (decide (1≤x∧x≤100000))]):=by
 rw[qpe];simp only[qhh,q6Z,qdr];by_cases h:1≤x<;>simp[h,ile]
theorem qe1(x:Int):(j0 [.i x]).run=some (0,[.b (decide (1≤x∧x≤100000))]):=by
 rw[qp4];simp only[qhh,q6Z,qdr];by_cases h:1≤x<;>simp[h,ile]
theorem qbC(x y:Int):(jF [.i x,.i y]).run=some (0,[.b (decide (-100000≤x∧x≤100000∧-100000≤y∧y≤100000))]):=by
 rw[qmQ];simp only[qhh,q6Z,qq2 (qnd _),gB,qxc (qnd _),List.getD_cons_zero,PV.toB,if_true,decide_eq_true_eq]
 by_cases h:-100000≤x<;>by_cases h2:x≤100000<;>simp[h,h2]
theorem qbY(x0 x1 x2 x3 x4 x5:Int)(x6:Bool):(zM [.i x0,.i x1,.i x2,.i x3,.i x4,.i x5,.b x6]).run=some (0,[.i (chk x0 x1 x2 x3 x4 x5 x6)]):=by
 rw[qmG]
 simp only[qhh,q6Z,qq2 (qiA _),gB,qxc (qiA _),qq2 (qea _),qxc (qea _),List.getD_cons_zero,PV.toB,if_true,Bool.not_eq_true',decide_eq_false_iff_not,qnZ,qdr]
 unfold chk
 cases x6<;>simp only[reduceCtorEq,if_true,if_false,false_and,true_and,or_false]<;>repeat' split
 all_goals first|rfl|omega
theorem qgW(x0 x1 x2 x3 x4 x5:Int)(x6:Bool):(yY [.i x0,.i x1,.i x2,.i x3,.i x4,.i x5,.b x6]).run=some (0,[.i (chk x0 x1 x2 x3 x4 x5 x6)]):=by
 rw[qmF]
 simp only[qhh,q6Z,qq2 (qbC _ _),gB,qxc (qbC _ _),qq2 (qe1 _),qxc (qe1 _),List.getD_cons_zero,PV.toB,if_true,Bool.not_eq_true',decide_eq_false_iff_not,qnZ,qdr]
 unfold chk
 cases x6<;>simp only[reduceCtorEq,if_true,if_false,false_and,true_and,or_false]<;>repeat' split
 all_goals first|rfl|omega
theorem qhi{x0 x1 x2 x3 x4 x5:Int}{x6:Bool}(h:chk x0 x1 x2 x3 x4 x5 x6=0):-100000≤x0∧x0≤100000∧-100000≤x1∧x1≤100000∧1≤x2∧x2≤100000∧1≤x3∧x3≤100000∧x2≤x3∧0≤x4∧x4≤100000∧(x6=false→x4<x2)∧0≤x5∧x5≤2:=by
 unfold chk at h
 repeat' split at h
 all_goals first|omega|skip
 rename_i h1 h2 h3 h4
 cases x6<;>simp at h3 ⊢<;>omega
def side(x5:Int)(x6:Bool):Int:=if (x5=2)=(x6=true) then -1 else 1
theorem que(x0 x1 x2 x3 x4 x5:Int)(x6:Bool)(h:0≤x5∧x5≤2):(q7F [.i x0,.i x1,.i x2,.i x3,.i x4,.i x5,.b x6]).run=some (0,[.i x0,.i x1,.i x2,.i x3,.i x4,.i x5,.b x6,.i (side x5 x6)]):=by
 rw[qrd]
 have h012:x5=0∨x5=1∨x5=2:=by omega
 cases x6<;>rcases h012 with rfl|rfl|rfl<;>rfl
theorem qem(x0 x1 x2 x3 x4 x5:Int)(x6:Bool)(x7 x8:Int):(wO [.i x0,.i x1,.i x2,.i x3,.i x4,.i x5,.b x6,.i x7,.i x8]).run=some (0,[.i (if x8<0 then x2 else x3)]):=by
 rw[qcX]
 simp only[qhh,q6Z,qnZ]
 split<;>rfl
end Go.Eng

namespace Go.Eng
def ext(x2 x3 x5:Int)(x6:Bool)(n:Int):Int:=if x5=0 then 0 else if (x5=1)=(x6=true) then x3-n else n-x2
theorem qn7(x0 x1 x2 x3 x4 x5:Int)(x6:Bool)(n:Int):(q2Y [.i x0,.i x1,.i x2,.i x3,.i x4,.i x5,.b x6,.i n]).run=some (0,[.b (decide (x2≤n∧n≤x3))]):=by
 rw[qkI];simp only[STD];by_cases h:x2≤n<;>simp[h,ile]
theorem qn1(x0 x1 x2 x3 x4 x5:Int)(x6:Bool)(n:Int):(ya [.i x0,.i x1,.i x2,.i x3,.i x4,.i x5,.b x6,.i n]).run=some (0,[.b (decide (x2≤n∧n≤x3))]):=by
 rw[qkq];simp only[STD];by_cases h:x2≤n<;>simp[h,ile]
theorem qp9(x0 x1 x2 x3 x4 x5:Int)(x6:Bool)(n:Int)(h:1≤x2∧x2≤100000∧1≤x3∧x3≤100000∧0≤x5∧x5≤2)(hn:1≤n∧n≤100000) :
  (wW [.i x0,.i x1,.i x2,.i x3,.i x4,.i x5,.b x6,.i (side x5 x6),.i n]).run=some (0,[.i (ext x2 x3 x5 x6 n)]):=by
 rw[qaJ]
 simp only[STD,qem]
 have e1:qP .i64 x2 n=x2-n:=q2r (by omega)
 have e2:qP .i64 x3 n=x3-n:=q2r (by omega)
 have e3:kN .i64 (-1) (x2-n)=-1*(x2-n):=q8y (by omega)
 have e4:kN .i64 1 (x3-n)=1*(x3-n):=q8y (by omega)
 unfold ext side
 by_cases h0:x5=0
 ·simp[h0]
 ·have h12:x5=1∨x5=2:=by omega
  rcases h12 with rfl|rfl<;>cases x6<;>simp[e1,e2,e3,e4]<;>omega
def qwm(x0 x1 x2 x3 x4 x5:Int)(x6:Bool)(n:Int):List PV:=
 if chk x0 x1 x2 x3 x4 x5 x6=0 then (if x2≤n∧n≤x3 then [.i (ext x2 x3 x5 x6 n),.i 0] else [.i 0,.i 2]) else [.i 0,.i (chk x0 x1 x2 x3 x4 x5 x6)]
def qor(x0 x1 x2 x3 x4 x5:Int)(x6:Bool)(n:Int):List PV:=
 if chk x0 x1 x2 x3 x4 x5 x6=0 then (if x2≤n∧n≤x3 then [.i (x4+ext x2 x3 x5 x6 n),.i 0] else [.i 0,.i 2]) else [.i 0,.i (chk x0 x1 x2 x3 x4 x5 x6)]
theorem qqS{x2 x3 x5:Int}{x6:Bool}{n:Int}(h:1≤x2∧x2≤100000∧1≤x3∧x3≤100000)(hn:1≤n∧n≤100000):-100000≤ext x2 x3 x5 x6 n∧ext x2 x3 x5 x6 n≤100000:=by
 unfold ext;split
 ·omega
 ·split<;>omega
theorem qpj(x0 x1 x2 x3 x4 x5:Int)(x6:Bool)(n:Int):(q4x [.i x0,.i x1,.i x2,.i x3,.i x4,.i x5,.b x6,.i n]).run=some (0,qwm x0 x1 x2 x3 x4 x5 x6 n):=by
 rw[qmn]
 simp only[STD,qbY,qn7]
 unfold qwm
 by_cases hc:chk x0 x1 x2 x3 x4 x5 x6=0
 ·obtain⟨h1,h2,h3,h4,h5,h6,h7,h8,h9,h10,h11,h12,h13,h14⟩:=qhi hc
  by_cases hw:x2≤n∧n≤x3
  ·simp only[hc,hw,STD,and_self,que _ _ _ _ _ _ _ ⟨h13,h14⟩,qp9 x0 x1 x2 x3 x4 x5 x6 n ⟨h5,h6,h7,h8,h13,h14⟩ ⟨by omega,by omega⟩]
  ·simp[hc,hw]
 ·simp[hc]
theorem qks(x0 x1 x2 x3 x4 x5:Int)(x6:Bool)(n:Int):(yl [.i x0,.i x1,.i x2,.i x3,.i x4,.i x5,.b x6,.i n]).run=some (0,qor x0 x1 x2 x3 x4 x5 x6 n):=by
 rw[qjW]
 simp only[STD,qpj]
 unfold qwm qor
 by_cases hc:chk x0 x1 x2 x3 x4 x5 x6=0
 ·obtain⟨h1,h2,h3,h4,h5,h6,h7,h8,h9,h10,h11,h12,h13,h14⟩:=qhi hc
  by_cases hw:x2≤n∧n≤x3
  ·have hb:=qqS (x5:=x5) (x6:=x6) (n:=n) ⟨h5,h6,h7,h8⟩ ⟨by omega,by omega⟩
   have e:qt .i64 x4 (ext x2 x3 x5 x6 n)=x4+ext x2 x3 x5 x6 n:=yx (by omega)
   simp[hc,hw,e,PV.toI]
  ·simp[hc,hw,PV.toI]
 ·simp[hc,PV.toI]
end Go.Eng

namespace Go.Eng
def qs3(a b c:Int):Int:=if -100000≤a∧a≤100000∧-100000≤b∧b≤100000∧1≤c∧c≤100000 then 0 else 2
theorem qiS{a b c:Int}(h:qs3 a b c=0):-100000≤a∧a≤100000∧-100000≤b∧b≤100000∧1≤c∧c≤100000:=by
 unfold qs3 at h;split at h
 ·assumption
 ·omega
theorem qjh(a b c:Int):(kK [.i a,.i b,.i c]).run=some (0,[.i (qs3 a b c)]):=by
 rw[qon];simp only[STD,qiA,qea];unfold qs3
 repeat' split
 all_goals first|rfl|omega
theorem qjn(a b c:Int):(yT [.i a,.i b,.i c]).run=some (0,[.i (qs3 a b c)]):=by
 rw[qo4];simp only[STD,qbC,qe1];unfold qs3
 repeat' split
 all_goals first|rfl|omega
end Go.Eng

namespace Go.Eng
def qml(l:R)(i:Nat):Int:=chk (cI l i 0) (cI l i 1) (cI l i 2) (cI l i 3) (cI l i 4) (cI l i 5) (cB l i 6)
def qoT(l:R)(i:Nat):Int:=qs3 (cI l i 0) (cI l i 1) (cI l i 2)
def qcr(x0 x1:R):Int:=
 if 16<qh x0 then 5 else match q0b (q5x (qml x0)) 0 x0.length with
 | some e=>e
 | none=>if qh x1≠qh x0 then 8 else match q0b (q5x (qoT x1)) 0 x1.length with
  | some e=>e
  | none=>0
theorem qeG{f:Nat→Int}{i:Nat}(h:(q5x f i).map (fun e=>(1,[PV.i e]))=none):f i=0:=by
 unfold q5x at h;split at h
 ·assumption
 ·simp at h
theorem qeT{f:Nat→Int}{i:Nat}{r:Nat×List PV}(h:(q5x f i).map (fun e=>(1,[PV.i e]))=some r):f i≠0∧r=(1,[.i (f i)]):=by
 unfold q5x at h;split at h
 ·simp at h
 ·simp at h;exact⟨by assumption,h.symm⟩
theorem qei(x0 x1:R)(h:x0.length<9223372036854775808):(ql jv [.r x0,.r x1,.r x0,.i (qh x0),.i 0]).run =
  some (((q0b (q5x (qml x0)) 0 x0.length).map fun e=>(1,[PV.i e])).getD (0,[.r x0,.r x1])):=by
 rw[←qbZ]
 refine q6f (fun i=>[.r x0,.r x1,.r x0,.i (qh x0),.i (i:Int)]) _ (0,[.r x0,.r x1]) x0.length h (fun i hi hf=>?_) (fun i r hi hf=>?_) ?_
 ·have h1:(i:Int)<qh x0:=by unfold qh;omega
  have h2:=qeG hf
  unfold qml at h2
  rw[q1r]
  simp only[STD,h1,qbY,h2,q57 hi h,show (0:Int)≤(i:Int) by omega,and_self]
 ·have h1:(i:Int)<qh x0:=by unfold qh;omega
  obtain⟨h2,rfl⟩:=qeT hf
  unfold qml at h2 ⊢
  rw[q1r]
  simp only[STD,h1,qbY,h2,show (0:Int)≤(i:Int) by omega,and_self]
 ·rw[q1r]
  simp only[STD,show ¬((x0.length:Int)<qh x0) by unfold qh;omega]
theorem qcW(x1:R)(h:x1.length<9223372036854775808):(ql j2 [.r x1,.i (qh x1),.i 0]).run =
  some (((q0b (q5x (qoT x1)) 0 x1.length).map fun e=>(1,[PV.i e])).getD (0,[])):=by
 rw[←qbZ]
 refine q6f (fun i=>[.r x1,.i (qh x1),.i (i:Int)]) _ (0,[]) x1.length h (fun i hi hf=>?_) (fun i r hi hf=>?_) ?_
 ·have h1:(i:Int)<qh x1:=by unfold qh;omega
  have h2:=qeG hf
  unfold qoT at h2
  rw[q0H]
  simp only[STD,h1,qjh,h2,q57 hi h,show (0:Int)≤(i:Int) by omega,and_self]
 ·have h1:(i:Int)<qh x1:=by unfold qh;omega
  obtain⟨h2,rfl⟩:=qeT hf
  unfold qoT at h2 ⊢
  rw[q0H]
  simp only[STD,h1,qjh,h2,show (0:Int)≤(i:Int) by omega,and_self]
 ·rw[q0H]
  simp only[STD,show ¬((x1.length:Int)<qh x1) by unfold qh;omega]
theorem q11(x0 x1:R)(h:x0.length<9223372036854775808)(k:x1.length<9223372036854775808):(j9 [.r x0,.r x1]).run=some (0,[.i (qcr x0 x1)]):=by
 rw[qgc]
 unfold qcr
 have e1:=qei x0 x1 h
 have e2:=qcW x1 k
 by_cases h16:16<qh x0
 ·simp[h16,STD]
 ·cases hs:q0b (q5x (qml x0)) 0 x0.length with
  | some e=>
   rw[hs] at e1
   simp only[Option.map_some,Option.getD_some] at e1
   simp[h16,STD,e1,qN e1]
  | none=>
   rw[hs] at e1
   simp only[Option.map_none,Option.getD_none] at e1
   by_cases hl:qh x1=qh x0
   ·cases ht:q0b (q5x (qoT x1)) 0 x1.length with
    | some e=>
     rw[ht] at e2
     simp only[Option.map_some,Option.getD_some] at e2
     rw[hl] at e2
     simp[h16,STD,e1,qN e1,hl,e2,qN e2]
    | none=>
     rw[ht] at e2
     simp only[Option.map_none,Option.getD_none] at e2
     rw[hl] at e2
     simp[h16,STD,e1,qN e1,hl,e2,qN e2]
   ·simp[h16,STD,e1,qN e1,hl]
theorem qeh(x0 x1:R)(h:x0.length<9223372036854775808):(ql js [.r x0,.r x1,.i 0]).run =
  some (((q0b (q5x (qml x0)) 0 x0.length).map fun e=>(1,[PV.i e])).getD (0,[.r x0,.r x1])):=by
 rw[←qbZ]
 refine q6f (fun i=>[.r x0,.r x1,.i (i:Int)]) _ (0,[.r x0,.r x1]) x0.length h (fun i hi hf=>?_) (fun i r hi hf=>?_) ?_
 ·have h1:(i:Int)<qh x0:=by unfold qh;omega
  have h2:=qeG hf
  unfold qml at h2
  rw[q1K]
  simp only[STD,h1,qgW,h2,q57 hi h,show (0:Int)≤(i:Int) by omega,and_self]
 ·have h1:(i:Int)<qh x0:=by unfold qh;omega
  obtain⟨h2,rfl⟩:=qeT hf
  unfold qml at h2 ⊢
  rw[q1K]
  simp only[STD,h1,qgW,h2,show (0:Int)≤(i:Int) by omega,and_self]
 ·rw[q1K]
  simp only[STD,show ¬((x0.length:Int)<qh x0) by unfold qh;omega]
theorem qcY(x1:R)(h:x1.length<9223372036854775808):(ql vZ [.r x1,.i 0]).run =
  some (((q0b (q5x (qoT x1)) 0 x1.length).map fun e=>(1,[PV.i e])).getD (0,[])):=by
 rw[←qbZ]
 refine q6f (fun i=>[.r x1,.i (i:Int)]) _ (0,[]) x1.length h (fun i hi hf=>?_) (fun i r hi hf=>?_) ?_
 ·have h1:(i:Int)<qh x1:=by unfold qh;omega
  have h2:=qeG hf
  unfold qoT at h2
  rw[q0L]
  simp only[STD,h1,qjn,h2,q57 hi h,show (0:Int)≤(i:Int) by omega,and_self]
 ·have h1:(i:Int)<qh x1:=by unfold qh;omega
  obtain⟨h2,rfl⟩:=qeT hf
  unfold qoT at h2 ⊢
  rw[q0L]
  simp only[STD,h1,qjn,h2,show (0:Int)≤(i:Int) by omega,and_self]
 ·rw[q0L]
  simp only[STD,show ¬((x1.length:Int)<qh x1) by unfold qh;omega]
theorem q14(x0 x1:R)(h:x0.length<9223372036854775808)(k:x1.length<9223372036854775808):(j7 [.r x0,.r x1]).run=some (0,[.i (qcr x0 x1)]):=by
 rw[qgk]
 unfold qcr
 have e1:=qeh x0 x1 h
 have e2:=qcY x1 k
 by_cases h16:16<qh x0
 ·simp[h16,STD]
 ·cases hs:q0b (q5x (qml x0)) 0 x0.length with
  | some e=>
   rw[hs] at e1
   simp only[Option.map_some,Option.getD_some] at e1
   simp[h16,STD,e1,qN e1]
  | none=>
   rw[hs] at e1
   simp only[Option.map_none,Option.getD_none] at e1
   by_cases hl:qh x1=qh x0
   ·cases ht:q0b (q5x (qoT x1)) 0 x1.length with
    | some e=>
     rw[ht] at e2
     simp only[Option.map_some,Option.getD_some] at e2
     simp[h16,STD,e1,qN e1,hl,e2,qN e2]
    | none=>
     rw[ht] at e2
     simp only[Option.map_none,Option.getD_none] at e2
     simp[h16,STD,e1,qN e1,hl,e2,qN e2]
   ·simp[h16,STD,e1,qN e1,hl]
theorem qfJ{x0 x1:R}(h:qcr x0 x1=0):x0.length≤16∧x1.length=x0.length∧(∀i,i<x0.length→qml x0 i=0)∧(∀i,i<x1.length→qoT x1 i=0):=by
 unfold qcr at h
 split at h
 ·omega
 ·rename_i h16
  split at h
  ·rename_i e he;exact absurd h (qgR he)
  ·rename_i he
   split at h
   ·omega
   ·rename_i hl
    split at h
    ·rename_i e hf;exact absurd h (qgR hf)
    ·rename_i hf
     unfold qh at hl h16
     exact⟨by omega,by omega,qlH he,qlH hf⟩
end Go.Eng

namespace Go.Eng
def zD(x y n:Int):DQ:=⟨(x:Rat),(y:Rat),Rat.divInt n 2*Rat.divInt n 2⟩
theorem qAS(n:Int):Rat.divInt (n*n) 4=Rat.divInt n 2*Rat.divInt n 2:=by
 rw[Rat.divInt_mul_divInt];rfl
theorem qyn{x:Int}(h:-999999≤x∧x≤999999):nl x≤6:=by
 have:=qec (m:=x) (n:=999999) (by omega)
 have e:nl 999999=6:=by decide
 omega
theorem qA1{x:Int}(h:-999999999999≤x∧x≤999999999999):nl x≤12:=by
 have:=qec (m:=x) (n:=999999999999) (by omega)
 have e:nl 999999999999=12:=by decide
 omega
theorem qoV{n:Int}(h:-999999≤n∧n≤999999):0≤n*n∧n*n≤999998000001:=by
 have b:=qAk (a:=n) (b:=n) (A:=999999) (B:=999999) (by omega) (by omega) (by omega) (by omega)
 refine⟨?_,by omega⟩
 rcases Int.le_total 0 n with h0|h0
 ·exact Int.mul_nonneg h0 h0
 ·exact Int.mul_nonneg_of_nonpos_of_nonpos h0 h0
theorem qxa{x:Int}(h:-999999≤x∧x≤999999):cls (x:Rat):=by
 refine .inl ⟨?_,by simp⟩
 have:=qyn h
 unfold qn;simp;omega
theorem qq9{n:Int}(h:-999999≤n∧n≤999999):qAK (Rat.divInt n 2*Rat.divInt n 2):=by
 rw[←qAS]
 have r:=qoV h
 have e:Rat.divInt (n*n) 4=mkRat (n*n) 4:=rfl
 rw[e]
 have m:=qbw (n*n) 4
 have l:=qA1 (x:=n*n) (by omega)
 have d:dl 4=1:=by decide
 unfold qAK qn qd
 omega
theorem qz6{x y n:Int}(hx:-999999≤x∧x≤999999)(hy:-999999≤y∧y≤999999)(hn:-999999≤n∧n≤999999):GD (zD x y n):=
 ⟨qxa hx,qxa hy,qq9 hn,q8k _⟩
theorem qzg{m n:Int}(h0:0≤m)(h:m≤n):Rat.divInt m 2*Rat.divInt m 2≤Rat.divInt n 2*Rat.divInt n 2:=by
 have e:∀k:Int,Rat.divInt k 2=(k:Rat)/2:=fun k=>by rw[Rat.divInt_eq_div];rfl
 have a:(0:Rat)≤(m:Rat):=by exact_mod_cast h0
 have b:(m:Rat)≤(n:Rat):=by exact_mod_cast h
 rw[e,e]
 refine qld ?_ ?_<;>grind
end Go.Eng

namespace Go.Eng
theorem qpz{m n:Int}(hn0:n≠0)(hm:okL m)(hn:okL n):(q68 [.s (tI m),.s (tI n)]).run=some (0,[.s (tQ (Rat.divInt m n)),.i 0]):=by
 rw[qnY]
 have key:=q0B (S:=q0y) (fun i=>[.s (tI m),.s (tI n),.i 2,.i (i:Int),.r [[.s (tI m)],[.s (tI n)]]]) (0,[.s (tI m),.s (tI n)]) 2 (by omega) (fun i hi=>by
  rw[qda]
  rcases (show i=0∨i=1 by omega) with rfl|rfl
  ·have e:cS [[.s (tI m)],[.s (tI n)]] ((0:Nat):Int) 0=tI m:=rfl
   simp only[e,STD,qbj hm,show qh [[U.s (tI m)],[.s (tI n)]]=2 from rfl]
   rfl
  ·have e:cS [[.s (tI m)],[.s (tI n)]] ((1:Nat):Int) 0=tI n:=rfl
   simp only[e,STD,qbj hn,show qh [[U.s (tI m)],[.s (tI n)]]=2 from rfl]
   rfl) (by rw[qda];simp only[STD,show ((2:Nat):Int)=2 from rfl,show ¬(2:Int)<2 by omega])
 have key':(ql q0y [.s (tI m),.s (tI n),.i (qh [[U.s (tI m)],[.s (tI n)]]),.i 0,.r [[.s (tI m)],[.s (tI n)]]]).run=some (0,[.s (tI m),.s (tI n)]):=key
 have z:(seq (tI n) [48]=true)=False:=by rw[jD,q5p];exact eq_false hn0
 simp only[STD,key',qN key',z,(qhr hn0 hm hn).1]
theorem quz{m n:Int}(hn0:n≠0)(hm:-999999999999999≤m∧m≤999999999999999)(hn:-999999999999999≤n∧n≤999999999999999):(q55 [.i m,.i n]).run=some (0,[.s (tQ (Rat.divInt m n)),.i 0]):=by
 have ok:∀k:Int,-999999999999999≤k∧k≤999999999999999→okL k:=fun k hk=>by
  have:=qec (m:=k) (n:=999999999999999) (by omega)
  have e:nl 999999999999999=15:=by decide
  unfold okL;omega
 rw[qsy]
 simp only[STD,q53 m (by omega),q53 n (by omega),qpz hn0 (ok m hm) (ok n hn)]
theorem qib{m:Int}(hm:-999999999999999≤m∧m≤999999999999999):(yR [.i m]).run=some (0,[.s (tQ (m:Rat))]):=by
 rw[qmE,qvx]
 simp only[STD,q53 m (by omega)]
def inR(x:Int):Prop:=-999999≤x∧x≤999999
theorem qBz{n:Int}(h:inR n):-999999999999999≤n*n∧n*n≤999999999999999:=by have:=qoV h;omega
theorem wsq{n:Int}(h:inR n):kN .i64 n n=n*n:=q8y (by have:=qoV h;omega)
theorem qfd{x y n:Int}(hx:inR x)(hy:inR y)(hn:inR n):(jT [.i x,.i y,.i n]).run=some (0,[.s (tQ (zD x y n).x),.s (tQ (zD x y n).y),.s (tQ (zD x y n).s),.i 0]):=by
 unfold inR at hx hy
 rw[qkZ]
 simp only[STD,wsq hn,quz (m:=n*n) (n:=4) (by omega) (qBz hn) (by omega),qib (m:=x) (by omega),qib (m:=y) (by omega),qAS]
 rfl
def qxj(x0 x1:R)(i:Nat):Int:=if cI x0 i 2≤cI x1 i 2∧cI x1 i 2≤cI x0 i 3 then 0 else 14
def je(x0 x1:R)(p:Int):Int:=
 if qcr x0 x1=0 then (if x0.length=0 then 13 else if q9q (qxj x0 x1) x0.length=0 then (if p < -1∨100000<p then 2 else 0) else q9q (qxj x0 x1) x0.length) else qcr x0 x1
theorem qaV(l:R):(qh l=0)=(l.length=0):=by unfold qh;exact propext ⟨fun h=>by omega,fun h=>by omega⟩
theorem q4T(x0 x1:R)(p:Int)(h:x0.length<9223372036854775808)(k:x1.length<9223372036854775808):(q04 [.r x0,.r x1,.i p]).run=some (0,[.i (je x0 x1 p)]):=by
 rw[qmR]
 unfold je
 by_cases hc:qcr x0 x1=0
 ·obtain⟨h1,h2,h3,h4⟩:=qfJ hc
  by_cases hz:x0.length=0
  ·simp only[STD,q11 x0 x1 h k,hc,qaV,hz]
  ·have key:=qoJ (S:=q0j) (fun i=>[.r x0,.i (qh x0),.i (i:Int),.r x0,.r x1,.i p]) (qxj x0 x1) [] [.r x0,.r x1,.i p] x0.length h (fun i hi=>by
    rw[qay]
    have a1:(i:Int)<qh x0:=by unfold qh;omega
    have a2:(i:Int)<qh x1:=by unfold qh;omega
    simp only[STD,a1,a2,q94,and_self,q57 hi h]
    unfold qxj
    by_cases c1:cI x1 i 2<cI x0 i 2
    ·rw[if_pos c1,if_neg (show ¬(cI x0 i 2≤cI x1 i 2∧cI x1 i 2≤cI x0 i 3) by omega)];rfl
    ·rw[if_neg c1]
     by_cases c2:cI x0 i 3<cI x1 i 2
     ·rw[if_pos c2,if_neg (show ¬(cI x0 i 2≤cI x1 i 2∧cI x1 i 2≤cI x0 i 3) by omega)];rfl
     ·rw[if_neg c2,if_pos (show (cI x0 i 2≤cI x1 i 2∧cI x1 i 2≤cI x0 i 3) by omega)];rfl) (by
    rw[qay]
    have a1:¬((x0.length:Int)<qh x0):=by unfold qh;omega
    simp only[STD,a1])
   simp only[show (((0:Nat)):Int)=0 from rfl] at key
   by_cases hi:q9q (qxj x0 x1) x0.length=0
   ·rw[if_pos hi] at key
    simp only[STD,q11 x0 x1 h k,hc,qaV,hz,key,qN key,hi]
    by_cases c1:p < -1
    ·simp[c1]
    ·by_cases c2:100000<p<;>simp[c1,c2]
   ·rw[if_neg hi] at key
    simp only[STD,q11 x0 x1 h k,hc,qaV,hz,key,qN key,hi]
    rfl
 ·simp only[STD,q11 x0 x1 h k,hc]
theorem qi2(x0 x1:R)(p:Int)(h:x0.length<9223372036854775808)(k:x1.length<9223372036854775808):(u5 [.r x0,.r x1,.i p]).run=some (0,[.i (je x0 x1 p)]):=by
 rw[qmr]
 unfold je
 by_cases hc:qcr x0 x1=0
 ·obtain⟨h1,h2,h3,h4⟩:=qfJ hc
  by_cases hz:x0.length=0
  ·simp only[STD,q14 x0 x1 h k,hc,qaV,hz]
  ·have key:=qoJ (S:=q0f) (fun i=>[.i (i:Int),.r x0,.r x1,.i p]) (qxj x0 x1) [] [.r x0,.r x1,.i p] x0.length h (fun i hi=>by
    rw[qb5]
    have a1:(i:Int)<qh x0:=by unfold qh;omega
    have a2:(i:Int)<qh x1:=by unfold qh;omega
    simp only[STD,a1,a2,q94,and_self,q57 hi h,qn1]
    unfold qxj
    by_cases c:cI x0 i 2≤cI x1 i 2∧cI x1 i 2≤cI x0 i 3
    ·simp only[c,and_self,not_true_eq_false,if_false,if_true]
    ·simp only[c,not_false_eq_true,if_false,if_true];rfl) (by
    rw[qb5]
    have a1:¬((x0.length:Int)<qh x0):=by unfold qh;omega
    simp only[STD,a1])
   simp only[show (((0:Nat)):Int)=0 from rfl] at key
   by_cases hi:q9q (qxj x0 x1) x0.length=0
   ·rw[if_pos hi] at key
    simp only[STD,q14 x0 x1 h k,hc,qaV,hz,key,qN key,hi]
    by_cases c1:p < -1
    ·simp[c1]
    ·by_cases c2:100000<p<;>simp[c1,c2]
   ·rw[if_neg hi] at key
    simp only[STD,q14 x0 x1 h k,hc,qaV,hz,key,qN key,hi]
    rfl
 ·simp only[STD,q14 x0 x1 h k,hc]
structure Rt (x0 x1:R):Prop where
 n:x0.length≤16
 e:x1.length=x0.length
 ne:x0.length≠0
 t:∀i,i<x0.length→qml x0 i=0
 r:∀i,i<x0.length→qoT x1 i=0
 i:∀i:Nat,i<x0.length→cI x0 i 2≤cI x1 i 2∧cI x1 i 2≤cI x0 i 3
theorem q3C{x0 x1:R}{p:Int}(h:je x0 x1 p=0):Rt x0 x1∧-1≤p∧p≤100000:=by
 unfold je at h
 split at h
 ·rename_i hc
  obtain⟨h1,h2,h3,h4⟩:=qfJ hc
  split at h
  ·omega
  ·rename_i hz
   split at h
   ·rename_i hf
    refine⟨⟨h1,h2,hz,h3,fun i hi=>h4 i (by omega),fun i hi=>?_⟩,by split at h<;>omega,by split at h<;>omega⟩
    have:=qsd hf i hi
    unfold qxj at this
    split at this
    ·assumption
    ·omega
   ·rename_i hf;exact absurd h hf
 ·rename_i hc;exact absurd h hc
end Go.Eng

namespace Go.Eng
def qz4(x0 x1:R)(i:Nat):Int:=ext (cI x0 i 2) (cI x0 i 3) (cI x0 i 5) (cB x0 i 6) (cI x1 i 2)
def zAt(x0 x1:R)(i:Nat):DQ:=zD (cI x0 i 0-cI x1 i 0) (cI x0 i 1-cI x1 i 1) (cI x0 i 4+qz4 x0 x1 i)
def q18(x0 x1:R):List DQ:=(List.range x0.length).map (zAt x0 x1)
def qj5(p:Int):List DQ:=if 0≤p then [zD 0 0 p] else []
def zn(x0 x1:R)(p:Int):List DQ:=q18 x0 x1++qj5 p
theorem qAR{x2 x3 x5:Int}{x6:Bool}{n:Int}(h:x2≤n∧n≤x3):0≤ext x2 x3 x5 x6 n:=by
 unfold ext;split
 ·omega
 ·split<;>omega
theorem Rt.nums{x0 x1:R}(h:Rt x0 x1){i:Nat}(hi:i<x0.length):-100000≤cI x0 i 0∧cI x0 i 0≤100000∧-100000≤cI x0 i 1∧cI x0 i 1≤100000∧-100000≤cI x1 i 0∧cI x1 i 0≤100000∧-100000≤cI x1 i 1∧cI x1 i 1≤100000 ∧
  0≤cI x0 i 4∧cI x0 i 4≤100000∧0≤qz4 x0 x1 i∧qz4 x0 x1 i≤100000:=by
 obtain⟨h1,h2,h3,h4,h5,h6,h7,h8,h9,h10,h11,h12,h13,h14⟩:=qhi (h.t i hi)
 obtain⟨k1,k2,k3,k4,k5,k6⟩:=qiS (h.r i hi)
 have b:=qqS (x5:=cI x0 i 5) (x6:=cB x0 i 6) (n:=cI x1 i 2) ⟨h5,h6,h7,h8⟩ ⟨k5,k6⟩
 have n:=qAR (x5:=cI x0 i 5) (x6:=cB x0 i 6) (h.i i hi)
 unfold qz4
 omega
theorem Rt.gd{x0 x1:R}(h:Rt x0 x1){i:Nat}(hi:i<x0.length):GD (zAt x0 x1 i):=by
 have n:=h.nums hi
 exact qz6 (by omega) (by omega) (by omega)
theorem quy{x0 x1:R}(h:Rt x0 x1):GDs (q18 x0 x1):=fun d hd=>by
 obtain⟨i,hi,rfl⟩:=List.mem_map.1 hd
 exact h.gd (List.mem_range.1 hi)
theorem qwO{p:Int}(h:-1≤p∧p≤100000):GDs (qj5 p):=fun d hd=>by
 unfold qj5 at hd
 split at hd
 ·simp only[List.mem_cons,List.not_mem_nil,or_false] at hd
  rw[hd];exact qz6 (by omega) (by omega) (by omega)
 ·cases hd
theorem q1T{x0 x1:R}{p:Int}(h:Rt x0 x1)(hp:-1≤p∧p≤100000):GDs (zn x0 x1 p):=fun d hd=>by
 rcases List.mem_append.1 hd with hd|hd
 ·exact quy h d hd
 ·exact qwO hp d hd
theorem q3W(x0 x1:R):(q18 x0 x1).length=x0.length:=by simp[q18]
theorem qvr(p:Int):(qj5 p).length≤1:=by unfold qj5;split<;>simp
theorem qas{x0 x1:R}{p:Int}(h:Rt x0 x1):(zn x0 x1 p).length≤17:=by
 have:=qvr p
 have:=h.n
 unfold zn;rw[List.length_append,q3W];omega
theorem q8H{x0 x1:R}{p:Int}(h:Rt x0 x1):zn x0 x1 p≠[]:=by
 intro e
 have:=congrArg List.length e
 unfold zn at this
 rw[List.length_append,q3W] at this
 simp only[List.length_nil] at this
 have:=h.ne
 omega
theorem qAe{l m:List DQ}{i:Nat}(h:i<l.length):ix (l++m) i=ix l i:=by
 unfold ix;rw[List.getD_eq_getElem?_getD,List.getD_eq_getElem?_getD,List.getElem?_append_left h]
theorem qwG{x0 x1:R}{i:Nat}(h:i<x0.length):ix (q18 x0 x1) i=zAt x0 x1 i:=by
 unfold ix q18
 rw[List.getD_eq_getElem?_getD,List.getElem?_map,List.getElem?_range h];rfl
theorem qwr(l m:List DQ):rD (l++m)=rD l++rD m:=List.map_append
theorem qsH(l:List DQ)(d:DQ):q7J (rD l) [[.s (tQ d.x),.s (tQ d.y),.s (tQ d.s)]]=rD (l++[d]):=by
 rw[qwr];rfl
def zT(x0 x1:R)(k:Nat):List DQ:=(List.range k).map (zAt x0 x1)
theorem qzr(x0 x1:R)(k:Nat):zT x0 x1 (k+1)=zT x0 x1 k++[zAt x0 x1 k]:=by unfold zT;rw[List.range_succ,List.map_append];rfl
theorem qA3(x0 x1:R)(k:Nat):(zT x0 x1 k).length=k:=by simp[zT]
theorem q7Q{x0 x1:R}(p:Int)(h:Rt x0 x1):(zQ [.r x0,.r x1,.i p]).run=some (0,[.r (rD (q18 x0 x1)),.i 0]):=by
 rw[qdI]
 have hn:=h.n
 have key:=q0B (S:=zY) (fun i=>[.r x0,.i (qh x0),.i (i:Int),.r x0,.r x1,.i p,.r (rD (zT x0 x1 i))]) (0,[.r (rD (q18 x0 x1))]) x0.length (by omega) (fun i hi=>by
  rw[q4Q]
  have a1:(i:Int)<qh x0:=by unfold qh;omega
  have a2:(i:Int)<qh x1:=by unfold qh;have:=h.e;omega
  have n:=h.nums hi
  have al:(yl [.i (cI x0 i 0),.i (cI x0 i 1),.i (cI x0 i 2),.i (cI x0 i 3),.i (cI x0 i 4),.i (cI x0 i 5),.b (cB x0 i 6),.i (cI x1 i 2)]).run=some (0,[.i (cI x0 i 4+qz4 x0 x1 i),.i 0]):=by
   rw[qks];unfold qor
   have t:chk (cI x0 i 0) (cI x0 i 1) (cI x0 i 2) (cI x0 i 3) (cI x0 i 4) (cI x0 i 5) (cB x0 i 6)=0:=h.t i hi
   rw[if_pos t,if_pos (h.i i hi)];rfl
  have w1:qP .i64 (cI x0 i 0) (cI x1 i 0)=cI x0 i 0-cI x1 i 0:=q2r (by omega)
  have w2:qP .i64 (cI x0 i 1) (cI x1 i 1)=cI x0 i 1-cI x1 i 1:=q2r (by omega)
  have ar:=qfd (x:=cI x0 i 0-cI x1 i 0) (y:=cI x0 i 1-cI x1 i 1) (n:=cI x0 i 4+qz4 x0 x1 i) (by unfold inR;omega) (by unfold inR;omega) (by unfold inR;omega)
  have room:qh (rD (zT x0 x1 i))+qh [[U.s (tQ (zAt x0 x1 i).x),.s (tQ (zAt x0 x1 i).y),.s (tQ (zAt x0 x1 i).s)]]≤2932031007402:=by
   rw[qO,qA3];unfold qh;simp;omega
  have room':=room
  unfold zAt at room'
  have row:=qsH (zT x0 x1 i) (zAt x0 x1 i)
  unfold zAt at row
  simp only[STD,a1,a2,q94,and_self,al,w1,w2,ar,room',row,q57 hi (show x0.length<9223372036854775808 by omega)]
  rw[qzr]
  rfl) (by
  rw[q4Q]
  have a1:¬((x0.length:Int)<qh x0):=by unfold qh;omega
  simp only[STD,a1]
  rfl)
 have key':(ql zY [.r x0,.i (qh x0),.i 0,.r x0,.r x1,.i p,.r []]).run=some (0,[.r (rD (q18 x0 x1))]):=key
 simp only[STD,key',qN key']
theorem qyk(l:R):qqG l 0 (qh l)=l:=by unfold qqG qh;simp
theorem qdZ{l:List DQ}{p:Int}(hl:l.length≤100)(hp:-1≤p∧p≤100000):(yo [.r (rD l),.i p]).run=some (0,[.r (rD (l++qj5 p)),.i 0]):=by
 rw[qk0]
 unfold qj5
 by_cases c:p<0
 ·simp only[STD,c,show ¬(0≤p) by omega,List.append_nil]
 ·have ar:=qfd (x:=0) (y:=0) (n:=p) (by unfold inR;omega) (by unfold inR;omega) (by unfold inR;omega)
  have room:qh (rD l)+qh [[U.s (tQ (zD 0 0 p).x),.s (tQ (zD 0 0 p).y),.s (tQ (zD 0 0 p).s)]]≤2932031007402:=by
   rw[qO];unfold qh;simp;omega
  have b1:q8Y (qh (rD l)) (qh (rD l))=true:=by rw[qO];unfold q8Y;simp
  have b2:q8Y 0 (qh (rD l))=true:=by rw[qO];unfold q8Y;simp
  have b3:(0:Int)<qh [[U.s (tQ (zD 0 0 p).x),.s (tQ (zD 0 0 p).y),.s (tQ (zD 0 0 p).s)]]:=by unfold qh;simp
  simp only[STD,c,ar,room,qyk,qsH,show 0≤p by omega,b1,b2,b3]
theorem vF(x0 x1:R)(p:Int)(h:x0.length<9223372036854775808)(k:x1.length<9223372036854775808):(zm [.r x0,.r x1,.i p]).run=some (0,if je x0 x1 p=0 then [.r (rD (zn x0 x1 p)),.i 0] else [.r [],.i (je x0 x1 p)]):=by
 rw[qms]
 by_cases hc:je x0 x1 p=0
 ·obtain⟨hr,hp⟩:=q3C hc
  simp only[STD,q4T x0 x1 p h k,hc,q7Q p hr,qdZ (l:=q18 x0 x1) (p:=p) (by rw[q3W];have:=hr.n;omega) hp]
  rfl
 ·simp only[STD,q4T x0 x1 p h k,hc]
end Go.Eng

namespace Go.Eng
def qtK(x0 x1:R)(p:Int):List PV:=if je x0 x1 p=0 then cW (kw (zn x0 x1 p)) else [.b false,.i 0,.i 0,.i 0,.i (je x0 x1 p)]
theorem q3a(x0 x1:R)(p:Int)(h:x0.length<9223372036854775808)(k:x1.length<9223372036854775808):(qS [.r x0,.r x1,.i p]).run=some (0,qtK x0 x1 p):=by
 rw[qiM]
 unfold qtK
 by_cases hc:je x0 x1 p=0
 ·obtain⟨hr,hp⟩:=q3C hc
  have c:=qkT (q1T hr hp) (q8H hr) (by have:=qas (p:=p) hr;omega)
  simp only[STD,vF x0 x1 p h k,hc,c]
  cases kw (zn x0 x1 p)<;>rfl
 ·simp only[STD,vF x0 x1 p h k,hc]
def qxT(x0 x1:R)(p:Int):List PV:=if je x0 x1 p=0 then [.r (q3v (zn x0 x1 p)),.i 0] else [.r [],.i (je x0 x1 p)]
theorem q5S(x0 x1:R)(p:Int)(h:x0.length<9223372036854775808)(k:x1.length<9223372036854775808):(zi [.r x0,.r x1,.i p]).run=some (0,qxT x0 x1 p):=by
 rw[qcU]
 unfold qxT
 by_cases hc:je x0 x1 p=0
 ·obtain⟨hr,hp⟩:=q3C hc
  have c:=qsq (q1T hr hp) (q8H hr) (by have:=qas (p:=p) hr;omega)
  simp only[STD,vF x0 x1 p h k,hc,c]
 ·simp only[STD,vF x0 x1 p h k,hc]
def qB6(x0 x1:R)(p a b c:Int):List PV:=if je x0 x1 p=0 then [.b (vB (zn x0 x1 p) a b c),.i (vE (zn x0 x1 p).length a b c)] else [.b false,.i (je x0 x1 p)]
theorem qmC(x0 x1:R)(p a b c:Int)(h:x0.length<9223372036854775808)(k:x1.length<9223372036854775808):(q0E [.r x0,.r x1,.i p,.i a,.i b,.i c]).run=some (0,qB6 x0 x1 p a b c):=by
 rw[qlX]
 unfold qB6
 by_cases hc:je x0 x1 p=0
 ·obtain⟨hr,hp⟩:=q3C hc
  have c:=qrs (q1T hr hp) (q8H hr) (by have:=qas (p:=p) hr;omega) a b c
  simp only[STD,vF x0 x1 p h k,hc,c]
 ·simp only[STD,vF x0 x1 p h k,hc]
def qr8(l:List DQ)(px py:Rat):Bool:=l.all fun d=>decide (q1J d.x d.y px py≤d.s)
theorem qv4{l:List DQ}(hl:GDs l)(hn:l.length<1000000){px py:Rat}(hx:∀d,GD d→(wy [.s (tQ d.x),.s (tQ d.y),.s (tQ d.s),.s (tQ px),.s (tQ py)]).run=some (0,[.b (decide (q1J d.x d.y px py≤d.s)),.i 0])) :
  (ql uR [.r (rD l),.i (qh (rD l)),.i 0,.s (tQ px),.s (tQ py)]).run=some (if qr8 l px py=true then (0,[]) else (1,[.b false,.i 0])):=by
 have L:=q4z (S:=uR) (fun k=>[.r (rD l),.i (qh (rD l)),.i (k:Int),.s (tQ px),.s (tQ py)])
  (fun k=>if decide (q1J (ix l k).x (ix l k).y px py≤(ix l k).s)=true then none else some ()) (fun _=>[.b false,.i 0]) [] l.length (by omega) (fun k hk=>by
   rw[qcH]
   obtain⟨x1,x2,x3⟩:=qp3 hk
   rw[x1,x2,x3]
   have a1:(k:Int)<qh (rD l):=by rw[qO];omega
   have c:=hx _ (hl.ix hk)
   by_cases e:q1J (ix l k).x (ix l k).y px py≤(ix l k).s
   ·simp only[STD,a1,q94,and_self,c,e,q57 hk (show l.length<9223372036854775808 by omega),decide_true]
    rfl
   ·simp only[STD,a1,q94,and_self,c,e,decide_false]) (by
   rw[qcH]
   simp only[STD,qO,show ¬((l.length:Int)<(l.length:Int)) by omega])
 simp only[show (((0:Nat)):Int)=0 from rfl] at L
 rw[L]
 rcases qvb (fun k=>decide (q1J (ix l k).x (ix l k).y px py≤(ix l k).s)) (fun _=>()) l.length with⟨s1,s2⟩|⟨k,hk,s2,s1⟩
 ·rw[s1]
  have:qr8 l px py=true:=(qwa l _).2 s2
  rw[if_pos this];rfl
 ·rw[s1]
  have:qr8 l px py=false:=qwR (p:=fun d=>decide (q1J d.x d.y px py≤d.s)) hk s2
  rw[if_neg (by rw[this];decide)];rfl
def qz9(x0 x1:R)(p:Int)(px py:Rat):List PV:=if je x0 x1 p=0 then [.b (qr8 (zn x0 x1 p) px py),.i 0] else [.b false,.i (je x0 x1 p)]
theorem qdv{x0 x1:R}{p:Int}(h:x0.length<9223372036854775808)(k:x1.length<9223372036854775808){px py:Rat}(ox:okQ px)(oy:okQ py)
  (hx:∀d,GD d→(wy [.s (tQ d.x),.s (tQ d.y),.s (tQ d.s),.s (tQ px),.s (tQ py)]).run=some (0,[.b (decide (q1J d.x d.y px py≤d.s)),.i 0])) :
  (q3T [.r x0,.r x1,.i p,.s (tQ px),.s (tQ py)]).run=some (0,qz9 x0 x1 p px py):=by
 rw[qpf]
 unfold qz9
 by_cases hc:je x0 x1 p=0
 ·obtain⟨hr,hp⟩:=q3C hc
  have key:=q0B (S:=q0C) (fun i=>[.r (rD (zn x0 x1 p)),.i 2,.i (i:Int),.s (tQ px),.s (tQ py),.r [[.s (tQ px)],[.s (tQ py)]]]) (0,[.r (rD (zn x0 x1 p)),.s (tQ px),.s (tQ py)]) 2 (by omega) (fun i hi=>by
   rw[qeq]
   rcases (show i=0∨i=1 by omega) with rfl|rfl
   ·have e:cS [[.s (tQ px)],[.s (tQ py)]] ((0:Nat):Int) 0=tQ px:=rfl
    simp only[e,STD,q5H ox,show qh [[U.s (tQ px)],[.s (tQ py)]]=2 from rfl]
    rfl
   ·have e:cS [[.s (tQ px)],[.s (tQ py)]] ((1:Nat):Int) 0=tQ py:=rfl
    simp only[e,STD,q5H oy,show qh [[U.s (tQ px)],[.s (tQ py)]]=2 from rfl]
    rfl) (by rw[qeq];simp only[STD,show ((2:Nat):Int)=2 from rfl,show ¬(2:Int)<2 by omega])
  have key':(ql q0C [.r (rD (zn x0 x1 p)),.i (qh [[U.s (tQ px)],[.s (tQ py)]]),.i 0,.s (tQ px),.s (tQ py),.r [[.s (tQ px)],[.s (tQ py)]]]).run=some (0,[.r (rD (zn x0 x1 p)),.s (tQ px),.s (tQ py)]):=key
  have L:=qv4 (q1T hr hp) (by have:=qas (p:=p) hr;omega) hx
  by_cases e:qr8 (zn x0 x1 p) px py=true
  ·rw[if_pos e] at L
   simp only[STD,vF x0 x1 p h k,hc,key',qN key',L,qN L,e]
  ·rw[if_neg e] at L
   have e':qr8 (zn x0 x1 p) px py=false:=by simpa using e
   simp only[STD,vF x0 x1 p h k,hc,key',qN key',L,qN L,e']
   rfl
 ·simp only[STD,vF x0 x1 p h k,hc]
end Go.Eng

namespace Go.Eng
def qmk(x0 x1:R)(p:Int):Bool:=(kw (zn x0 x1 p)).isSome
theorem qwz{x0 x1:R}{p:Int}(h:Rt x0 x1)(hp:-1≤p∧p≤100000):qmk x0 x1 p=true↔qf8 (zn x0 x1 p):=
 qaL (q8H h) fun d hd=>(q1T h hp d hd).nn
theorem qvf{x0 x1:R}{p q:Int}(h:Rt x0 x1)(hp:0≤p∧p≤q∧q≤100000)(hc:qmk x0 x1 p=true):qmk x0 x1 q=true:=by
 rw[qwz h (by omega)] at hc ⊢
 refine qx3 hc fun d hd=>?_
 rcases List.mem_append.1 hd with hd|hd
 ·exact⟨d,List.mem_append_left _ hd,rfl,rfl,Rat.le_refl⟩
 ·unfold qj5 at hd
  rw[if_pos (by omega)] at hd
  simp only[List.mem_cons,List.not_mem_nil,or_false] at hd
  refine⟨zD 0 0 p,List.mem_append_right _ (by unfold qj5;rw[if_pos (by omega)];simp),?_,?_,?_⟩
  ·rw[hd];rfl
  ·rw[hd];rfl
  ·rw[hd];exact qzg (by omega) (by omega)
theorem qsM{x0 x1:R}{p:Int}(e:Int)(h:Rt x0 x1)(hp:-1≤p∧p≤100000):(zg [.i p,.r (rD (q18 x0 x1)),.i e]).run=some (0,[.b (qmk x0 x1 p),.r (rD (q18 x0 x1)),.i e]):=by
 rw[qd4]
 have l:=qdZ (l:=q18 x0 x1) (p:=p) (by rw[q3W];have:=h.n;omega) hp
 have c:=qkT (q1T h hp) (q8H h) (by have:=qas (p:=p) h;omega)
 unfold zn at c
 unfold qmk zn
 simp only[STD,l,c]
 cases kw (q18 x0 x1++qj5 p)<;>rfl
def qnF(x0 x1:R)(n:Int):Prop:=0≤n∧n≤100000∧qmk x0 x1 n=true∧∀q,0≤q→q<n→qmk x0 x1 q=false
theorem qtZ{x0 x1:R}{m n:Int}(hm:qnF x0 x1 m)(hn:qnF x0 x1 n):m=n:=by
 obtain⟨a1,a2,a3,a4⟩:=hm
 obtain⟨b1,b2,b3,b4⟩:=hn
 rcases Int.lt_trichotomy m n with h|h|h
 ·have:=b4 m a1 h;rw[a3] at this;cases this
 ·exact h
 ·have:=a4 n b1 h;rw[b3] at this;cases this
theorem qBn{x:Int}(h:0≤x∧x≤1000000):yp .i64 x 2=x/2:=by
 obtain⟨n,rfl⟩:∃n:Nat,x=n:=⟨x.toNat,by omega⟩
 have:=qyo (a:=n) (b:=2) (by omega)
 rw[show ((2:Nat):Int)=2 from rfl] at this
 rw[this];omega
theorem qzy{x0 x1:R}(h:Rt x0 x1)(hc:qmk x0 x1 100000=true):∃n,qnF x0 x1 n∧(q4E [.i 0,.i 100000,.r (rD (q18 x0 x1)),.i 0]).run=some (0,[.i n,.r (rD (q18 x0 x1)),.i 0]):=by
 obtain⟨j,qs,h1,rfl,n,rfl,hl⟩:=q5E (S:=q1w)
  (fun k ps=>∃a b:Int,ps=[.i a,.i b,.r (rD (q18 x0 x1)),.i 0]∧0≤a∧a≤b∧b≤100000∧b-a=k∧(∀q,0≤q→q<a→qmk x0 x1 q=false)∧qmk x0 x1 b=true)
  (fun j qs=>j=0∧∃n,qs=[.i n,.r (rD (q18 x0 x1)),.i 0]∧qnF x0 x1 n) (n:=100000) (by omega) (fun k ps hk ⟨a,b,e,a1,a2,a3,a4,a5,a6⟩=>by
  subst e
  rw[qjT]
  by_cases c:a<b
  ·left
   have w1:qt .i64 a b=a+b:=yx (by omega)
   have w2:yp .i64 (a+b) 2=(a+b)/2:=qBn (by omega)
   have w3:qt .i64 ((a+b)/2) 1=(a+b)/2+1:=yx (by omega)
   have en:=qsM (p:=(a+b)/2) 0 h (by omega)
   by_cases d:qmk x0 x1 ((a+b)/2)=true
   ·refine⟨((a+b)/2-a).toNat,[.i a,.i ((a+b)/2),.r (rD (q18 x0 x1)),.i 0],by omega,?_,a,(a+b)/2,rfl,a1,by omega,by omega,by omega,a5,d⟩
    simp only[STD,c,w1,w2,en,d]
   ·have d':qmk x0 x1 ((a+b)/2)=false:=by simpa using d
    refine⟨(b-((a+b)/2+1)).toNat,[.i ((a+b)/2+1),.i b,.r (rD (q18 x0 x1)),.i 0],by omega,?_,(a+b)/2+1,b,rfl,by omega,by omega,a3,by omega,fun q q0 q1=>?_,a6⟩
    ·simp only[STD,c,w1,w2,w3,en,d']
    ·cases hq:qmk x0 x1 q with
     | false=>rfl
     | true=>exact absurd (qvf (q:=(a+b)/2) h (by omega) hq) d
  ·right
   obtain rfl:a=b:=by omega
   refine⟨0,[.i a,.r (rD (q18 x0 x1)),.i 0],?_,rfl,a,rfl,a1,a3,a6,a5⟩
   simp only[STD,c]) (ps:=[.i 0,.i 100000,.r (rD (q18 x0 x1)),.i 0]) ⟨0,100000,rfl,by omega,by omega,by omega,by omega,fun q q0 q1=>by omega,hc⟩
 refine⟨n,hl,?_⟩
 rw[qmB]
 simp only[STD,h1]
theorem qwT(x0 x1:R)(y:Int)(h:x0.length<9223372036854775808)(k:x1.length<9223372036854775808) :
  (je x0 x1 y≠0∧(jY [.r x0,.r x1,.i y]).run=some (0,[.i 0,.i (je x0 x1 y)])) ∨
  (je x0 x1 y=0∧qmk x0 x1 100000=false∧(jY [.r x0,.r x1,.i y]).run=some (0,[.i 0,.i 6])) ∨
  (je x0 x1 y=0∧qmk x0 x1 100000=true∧∃n,qnF x0 x1 n∧(jY [.r x0,.r x1,.i y]).run=some (0,[.i n,.i 0])):=by
 rw[qkn]
 by_cases hc:je x0 x1 y=0
 ·obtain⟨hr,hp⟩:=q3C hc
  right
  have e1:=qsM (p:=100000) 0 hr (by omega)
  by_cases c:qmk x0 x1 100000=true
  ·right
   obtain⟨n,l1,l2⟩:=qzy hr c
   refine⟨hc,c,n,l1,?_⟩
   simp only[STD,q4T x0 x1 y h k,hc,q7Q y hr,e1,c,l2]
  ·have c':qmk x0 x1 100000=false:=by simpa using c
   left
   refine⟨hc,c',?_⟩
   simp only[STD,q4T x0 x1 y h k,hc,q7Q y hr,e1,c']
 ·left
  refine⟨hc,?_⟩
  simp only[STD,q4T x0 x1 y h k,hc]
end Go.Eng

namespace Go.Eng
theorem qnM{x0 x1:R}{p:Int}(h:je x0 x1 p=0):∃a b c,qtK x0 x1 p=[.b (qmk x0 x1 p),.i a,.i b,.i c,.i 0]:=by
 unfold qtK qmk
 rw[if_pos h]
 cases kw (zn x0 x1 p)<;>exact⟨_,_,_,rfl⟩
def exT:R:=[[.i 0,.i 0,.i 20,.i 24,.i 4,.i 1,.b false],[.i 50,.i 0,.i 20,.i 24,.i 4,.i 1,.b false]]
def exC(a s:Int):R:=[[.i a,.i 0,.i s],[.i 53,.i 0,.i s]]
theorem qxG:je exT (exC 3 20) (-1)=0:=by decide +kernel
theorem qAo:je exT (exC (-3) 20) (-1)=0:=by decide +kernel
theorem qB8:je exT (exC (-3) 22) (-1)=0:=by decide +kernel
theorem qBb:qmk exT (exC 3 20) (-1)=true:=by decide +kernel
theorem qBs:qmk exT (exC (-3) 20) (-1)=false:=by decide +kernel
theorem qBd:qr8 (zn exT (exC 3 20) (-1)) (-1) 0=true:=by decide +kernel
theorem qBc:qr8 (zn exT (exC (-3) 22) (-1)) 0 0=true:=by decide +kernel
theorem qBI:qnF exT (exC 3 20) 2:=by
 refine⟨by omega,by omega,by decide +kernel,fun q q0 q1=>?_⟩
 rcases (show q=0∨q=1 by omega) with rfl|rfl
 ·decide +kernel
 ·decide +kernel
theorem qB0:qmk exT (exC 3 20) 100000=true:=by decide +kernel
theorem qBw:q3v (zn exT (exC (-3) 20) (-1))=[[.i 0],[.i 1]]:=by
 have z:qcx (zn exT (exC (-3) 20) (-1)) 0 1=some (two 0 1):=by
  unfold qcx
  have:(kw [ix (zn exT (exC (-3) 20) (-1)) 0,ix (zn exT (exC (-3) 20) (-1)) 1]).isSome=false:=by decide +kernel
  rw[this];rfl
 unfold q3v qtW
 simp only[show (zn exT (exC (-3) 20) (-1)).length=2 from rfl,q0b,Nat.zero_add,Nat.add_zero,show 2-1=1 from rfl,z,Option.elim,id]
 rfl
theorem qgj:exT.length<9223372036854775808:=by decide
theorem qgy(a s:Int):(exC a s).length<9223372036854775808:=by show 2<9223372036854775808;omega
theorem tm1:tQ (-1)=[45,49]:=by decide +kernel
theorem tz0:tQ 0=[48]:=rfl
theorem qlE:(yW []).run=some (0,[.b true]):=by
 rw[qmu]
 have two:∀a s:Int,(q3s [.i a,.i 53,.i s]).run=some (0,[.r exT,.r (exC a s),.i (-1)]):=fun a s=>by rw[qpH];rfl
 obtain⟨a1,a2,a3,f1⟩:=qnM qxG
 obtain⟨b1,b2,b3,f2⟩:=qnM qAo
 have F1:=q3a exT (exC 3 20) (-1) qgj (qgy _ _)
 have F2:=q3a exT (exC (-3) 20) (-1) qgj (qgy _ _)
 rw[f1,qBb] at F1
 rw[f2,qBs] at F2
 have om:okQ (-1:Rat):=by unfold okQ;decide +kernel
 have oz:okQ (0:Rat):=by unfold okQ;decide +kernel
 have bm:bnd 12 10 (-1:Rat):=by unfold bnd;decide +kernel
 have bz:bnd 12 10 (0:Rat):=by unfold bnd;decide +kernel
 have D1:=qdv (p:=-1) qgj (qgy 3 20) om oz (fun d gd=>qnI gd bm bz)
 have D2:=qdv (p:=-1) qgj (qgy (-3) 22) oz oz (fun d gd=>qnI gd bz bz)
 unfold qz9 at D1 D2
 rw[if_pos qxG,qBd,tm1,tz0] at D1
 rw[if_pos qB8,qBc,tz0] at D2
 have N:(jY [.r exT,.r (exC 3 20),.i (-1)]).run=some (0,[.i 2,.i 0]):=by
  rcases qwT exT (exC 3 20) (-1) qgj (qgy _ _) with⟨h,_⟩|⟨_,h,_⟩|⟨_,_,n,h,h2⟩
  ·exact absurd qxG h
  ·rw[qB0] at h;cases h
  ·rw[h2,qtZ h qBI]
 have C:=q5S exT (exC (-3) 20) (-1) qgj (qgy _ _)
 unfold qxT at C
 rw[if_pos qAo,qBw] at C
 have Z:=vF exT (exC 3 20) (-1) qgj (qgy _ _)
 rw[if_pos qxG] at Z
 have z0:cS (rD (zn exT (exC 3 20) (-1))) 0 0=[45,51]:=by decide +kernel
 have z1:cS (rD (zn exT (exC 3 20) (-1))) 0 1=[48]:=by decide +kernel
 have z2:cS (rD (zn exT (exC 3 20) (-1))) 0 2=[52]:=by decide +kernel
 have zl:qh (rD (zn exT (exC 3 20) (-1)))=2:=rfl
 have q:=qgG [[.i 0],[.i 1]] (by simp)
 have w:qt .i64 0 0=0:=by decide
 simp only[STD,two,F1,F2,D1,D2,N,C,Z,q,w,z0,z1,z2,zl]
 rfl
theorem qz2(x0 x1:R):∃b,(q8f [.r x0,.r x1]).run=some (0,[.b b]):=by
 rw[qqu]
 by_cases h:qh x0≤32
 ·simp only[STD,h];exact⟨_,rfl⟩
 ·simp only[STD,h];exact⟨_,rfl⟩
theorem qyV(x0 x1:R)(p:Int):(q8G [.r x0,.r x1,.i p]).run=some (0,[.r x0,.r x1,.i p]):=by rw[qr1];rfl
theorem qzb(x0 x1:R)(p:Int)(h:x0.length<9223372036854775808)(k:x1.length<9223372036854775808):∃b,(q8j [.r x0,.r x1,.i p]).run=some (0,[.b b]):=by
 rw[qpv]
 obtain⟨b,e⟩:=qz2 x0 x1
 have c:=qi2 x0 x1 p h k
 cases b with
 | false=>simp only[STD,e];exact⟨_,rfl⟩
 | true=>
  by_cases h1:qh x0≤4
  ·by_cases h2:qh x1≤4
   ·simp only[STD,e,h1,h2];exact⟨_,rfl⟩
   ·simp only[STD,e,h1,h2,c];exact⟨_,rfl⟩
  ·simp only[STD,e,h1,c];exact⟨_,rfl⟩
theorem qwL(x0 x1:R)(p:Int)(h:x0.length<9223372036854775808)(k:x1.length<9223372036854775808):∃b,(q20 [.r x0,.r x1,.i p]).run=some (0,[.b b])∧(b=true→je x0 x1 p=0):=by
 rw[qmO]
 obtain⟨b,e⟩:=qzb x0 x1 p h k
 have c:=qi2 x0 x1 p h k
 cases b with
 | false=>simp only[STD,qyV,e];exact⟨_,rfl,fun h=>by cases h⟩
 | true=>
  by_cases hc:je x0 x1 p=0
  ·simp only[STD,qyV,e,c];exact⟨_,rfl,fun _=>hc⟩
  ·simp only[STD,qyV,e,c];exact⟨_,rfl,fun h=>by simpa[ieq] using h⟩
theorem qrj{sh:List Sh}{x:R}(h:UFit (.sl sh) (.l x)):x.length<9223372036854775808:=by cases h with|sl _ _ h=>unfold maxLen at h;omega
end Go.Eng

namespace Go.Eng
theorem qtT{l:List DQ}(hs:∀d∈l,0≤d.s):(q3v l).length≤3∧((q3v l).length=0↔qf8 l):=by
 rcases qjs hs with⟨h,e⟩|⟨h,i,j,_,_,e,_⟩|⟨h,_,i,j,k,_,_,_,e,_⟩<;>rw[e]
 ·exact⟨by simp,⟨fun _=>h,fun _=>rfl⟩⟩
 ·exact⟨by show 2≤3;omega,⟨fun z=>(by cases z),fun z=>absurd z h⟩⟩
 ·exact⟨Nat.le_refl 3,⟨fun z=>(by cases z),fun z=>absurd z h⟩⟩
end Go.Eng

namespace Go.Eng
theorem qvG{x0 x1:R}(h1:x0.length≤16)(h2:x1.length=x0.length)(h3:∀i,i<x0.length→qml x0 i=0)(h4:∀i,i<x0.length→qoT x1 i=0):qcr x0 x1=0:=by
 unfold qcr
 rw[if_neg (by unfold qh;omega),qeD (g:=fun _=>none) (fun j _ hj=>by unfold q5x;rw[if_pos (h3 j (by omega))]),qkj]
 simp only
 rw[if_neg (by unfold qh;omega),qeD (g:=fun _=>none) (fun j _ hj=>by unfold q5x;rw[if_pos (h4 j (by omega))]),qkj]
theorem qwF{x0 x1:R}{p:Int}(h:Rt x0 x1)(hp:-1≤p∧p≤100000):je x0 x1 p=0:=by
 unfold je
 rw[if_pos (qvG h.n h.e h.t h.r),if_neg h.ne,qqQ (fun i hi=>by unfold qxj;rw[if_pos (h.i i hi)]),if_pos rfl,if_neg (by omega)]
def qn9(l:R)(i:Nat):List U:=[.i (cI l i 0),.i (cI l i 1),.i (cI l i 2),.i (cI l i 3),.i (cI l i 4),.i (cI l i 5),.b (cB l i 6)]
def qrm(l:R)(i:Nat):List U:=[.i (cI l i 0),.i (cI l i 1),.i (cI l i 2)]
theorem qpR(g:Nat→List U){F:List Nat}{r i:Nat}(h:F[r]?=some i)(j:Nat):wS (F.map g) (r:Int) j=(g i).getD j (.i 0):=by
 unfold wS
 rw[Int.toNat_natCast,show (F.map g).getD r []=g i from by rw[List.getD_eq_getElem?_getD,List.getElem?_map,h];rfl]
theorem qlI(l:R){F:List Nat}{r i:Nat}(h:F[r]?=some i):cI (F.map (qn9 l)) r 0=cI l i 0∧cI (F.map (qn9 l)) r 1=cI l i 1∧cI (F.map (qn9 l)) r 2=cI l i 2∧cI (F.map (qn9 l)) r 3=cI l i 3 ∧
  cI (F.map (qn9 l)) r 4=cI l i 4∧cI (F.map (qn9 l)) r 5=cI l i 5∧cB (F.map (qn9 l)) r 6=cB l i 6:=by
 unfold cI cB
 simp only[qpR _ h]
 exact⟨rfl,rfl,rfl,rfl,rfl,rfl,rfl⟩
theorem qlU(l:R){F:List Nat}{r i:Nat}(h:F[r]?=some i):cI (F.map (qrm l)) r 0=cI l i 0∧cI (F.map (qrm l)) r 1=cI l i 1∧cI (F.map (qrm l)) r 2=cI l i 2:=by
 unfold cI
 simp only[qpR _ h]
 exact⟨rfl,rfl,rfl⟩
theorem qzj{x0 x1:R}(h:Rt x0 x1){F:List Nat}(hF:∀i,i∈F→i<x0.length)(h0:F≠[])(h3:F.length≤16):Rt (F.map (qn9 x0)) (F.map (qrm x1)):=by
 have at_:∀r,r<(F.map (qn9 x0)).length→∃i,F[r]?=some i∧i<x0.length:=fun r hr=>by
  rw[List.length_map] at hr
  exact⟨F[r],List.getElem?_eq_getElem hr,hF _ (List.getElem_mem hr)⟩
 refine⟨by rw[List.length_map];exact h3,by rw[List.length_map,List.length_map],fun e=>h0 (by rw[List.length_map] at e;exact List.length_eq_zero_iff.1 e),fun r hr=>?_,fun r hr=>?_,fun r hr=>?_⟩
 ·obtain⟨i,e,hi⟩:=at_ r hr
  obtain⟨a0,a1,a2,a3,a4,a5,a6⟩:=qlI x0 e
  rw[←h.t i hi];unfold qml;rw[a0,a1,a2,a3,a4,a5,a6]
 ·obtain⟨i,e,hi⟩:=at_ r hr
  obtain⟨b0,b1,b2⟩:=qlU x1 e
  rw[←h.r i hi];unfold qoT;rw[b0,b1,b2]
 ·obtain⟨i,e,hi⟩:=at_ r hr
  obtain⟨_,_,a2,a3,_,_,_⟩:=qlI x0 e
  obtain⟨_,_,b2⟩:=qlU x1 e
  rw[a2,a3,b2];exact h.i i hi
theorem qA8(x0 x1:R){F:List Nat}{r i:Nat}(e:F[r]?=some i):zAt (F.map (qn9 x0)) (F.map (qrm x1)) r=zAt x0 x1 i:=by
 obtain⟨a0,a1,a2,a3,a4,a5,a6⟩:=qlI x0 e
 obtain⟨b0,b1,b2⟩:=qlU x1 e
 unfold zAt qz4
 rw[a0,a1,a2,a3,a4,a5,a6,b0,b1,b2]
theorem qy5(x0 x1:R){F:List Nat}{i:Nat}(h:i∈F):zAt x0 x1 i∈q18 (F.map (qn9 x0)) (F.map (qrm x1)):=by
 obtain⟨r,e⟩:=List.getElem?_of_mem h
 unfold q18
 refine List.mem_map.2 ⟨r,List.mem_range.2 ?_,qA8 x0 x1 e⟩
 rw[List.length_map]
 exact(List.getElem?_eq_some_iff.1 e).1
def q1v(s:R)(n:Nat):Nat→List Nat
 | 0=>[]
 | k+1=>if cI s k 0=(n:Int) then q1v s n k else q1v s n k++[(cI s k 0).toNat]
def qbM(s:R)(n:Nat)(p:Int):Nat→Int
 | 0=>-1
 | k+1=>if cI s k 0=(n:Int) then p else qbM s n p k
theorem qmc(s:R)(n:Nat):∀k,(q1v s n k).length≤k
 | 0=>Nat.le_refl _
 | k+1=>by
  have:=qmc s n k
  unfold q1v;split
  ·omega
  ·rw[List.length_append];simp;omega
theorem qlW{s:R}{n i:Nat}:∀{k:Nat},i∈q1v s n k→∃j,j<k∧i=(cI s j 0).toNat∧cI s j 0≠(n:Int)
 | 0,h=>by cases h
 | k+1,h=>by
  unfold q1v at h
  split at h
  ·obtain⟨j,h1,h2⟩:=qlW h;exact⟨j,by omega,h2⟩
  ·rename_i hn
   rcases List.mem_append.1 h with h|h
   ·obtain⟨j,h1,h2⟩:=qlW h;exact⟨j,by omega,h2⟩
   ·simp only[List.mem_singleton] at h;exact⟨k,by omega,h,hn⟩
theorem qh2{s:R}{n i j:Nat}(e:cI s j 0=(i:Int))(hi:i≠n):∀{k:Nat},j<k→i∈q1v s n k
 | 0,h=>by omega
 | k+1,h=>by
  unfold q1v
  by_cases hj:j=k
  ·subst hj
   rw[if_neg (by omega),e]
   exact List.mem_append_right _ (by simp)
  ·have:=qh2 e hi (k:=k) (by omega)
   split
   ·exact this
   ·exact List.mem_append_left _ this
theorem qt8{s:R}{n j:Nat}(p:Int)(e:cI s j 0=(n:Int)):∀{k:Nat},j<k→qbM s n p k=p
 | 0,h=>by omega
 | k+1,h=>by
  unfold qbM
  by_cases hj:j=k
  ·subst hj;rw[if_pos e]
  ·split
   ·rfl
   ·exact qt8 p e (by omega)
theorem qlo(s:R)(n:Nat){p:Int}(hp:-1≤p∧p≤100000):∀k,-1≤qbM s n p k∧qbM s n p k≤100000
 | 0=>by unfold qbM;omega
 | k+1=>by
  unfold qbM;split
  ·exact hp
  ·exact qlo s n hp k
theorem qq1(x0 x1:R)(p:Int):(zn x0 x1 p).length=x0.length+(if 0≤p then 1 else 0):=by
 unfold zn qj5
 rw[List.length_append,q3W]
 split<;>rfl
theorem qgZ{x0 x1 s:R}{p:Int}{i j k:Nat}(e:cI s j 0=(i:Int))(hj:j<k)(hi:i<(zn x0 x1 p).length) :
  ix (zn x0 x1 p) i∈zn ((q1v s x0.length k).map (qn9 x0)) ((q1v s x0.length k).map (qrm x1)) (qbM s x0.length p k):=by
 by_cases hn:i<x0.length
 ·have:ix (zn x0 x1 p) i=zAt x0 x1 i:=by
   unfold zn
   rw[qAe (by rw[q3W];exact hn),qwG hn]
  rw[this]
  exact List.mem_append_left _ (qy5 x0 x1 (qh2 e (by omega) hj))
 ·rw[qq1] at hi
  have h0:0≤p:=by
   apply Classical.byContradiction
   intro h;rw[if_neg h] at hi;omega
  rw[if_pos h0] at hi
  have hin:i=x0.length:=by omega
  subst hin
  rw[qt8 p e hj]
  have:ix (zn x0 x1 p) x0.length=zD 0 0 p:=by
   unfold zn qj5
   rw[if_pos h0]
   unfold ix
   rw[List.getD_eq_getElem?_getD,List.getElem?_append_right (by rw[q3W];exact Nat.le_refl _),q3W,Nat.sub_self];rfl
  rw[this]
  refine List.mem_append_right _ ?_
  unfold qj5
  rw[if_pos h0];exact List.mem_singleton.2 rfl
structure Alone (x0 x1:R) (p:Int) (s:R):Prop where
 n:s.length≤3
 ix:∀k,k<s.length→∃i:Nat,cI s k 0=(i:Int)∧(i<x0.length∨i=x0.length∧0≤p)
 ne:q1v s x0.length s.length≠[]
 no:¬qf8 (zn ((q1v s x0.length s.length).map (qn9 x0)) ((q1v s x0.length s.length).map (qrm x1)) (qbM s x0.length p s.length))
theorem qxV{x0 x1:R}{p:Int}(h:Rt x0 x1)(hp:-1≤p∧p≤100000){s:R}(hs:s=q3v (zn x0 x1 p))(h0:s.length≠0):Alone x0 x1 p s:=by
 have ok:∀i:Nat,i<(zn x0 x1 p).length→i<x0.length∨i=x0.length∧0≤p:=fun i hi=>by
  rw[qq1] at hi
  by_cases hq:0≤p
  ·rw[if_pos hq] at hi;omega
  ·rw[if_neg hq] at hi;omega
 rcases qjs (l:=zn x0 x1 p) (fun d hd=>(q1T h hp d hd).nn) with⟨_,e⟩|⟨_,i,j,hij,hj,e,hm⟩|⟨_,_,i,j,k,hij,hjk,hk,e,hm⟩
 ·rw[e] at hs;rw[hs] at h0;exact absurd rfl h0
 ·rw[e] at hs
  have l2:s.length=2:=by rw[hs];rfl
  have c0:cI s (0:Nat) 0=(i:Int):=by rw[hs];rfl
  have c1:cI s (1:Nat) 0=(j:Int):=by rw[hs];rfl
  refine⟨by omega,fun q hq=>?_,fun hn=>?_,fun hmm=>hm (hmm.mono fun d hd=>?_)⟩
  ·rcases (show q=0∨q=1 by omega) with rfl|rfl
   ·exact⟨i,c0,ok i (by omega)⟩
   ·exact⟨j,c1,ok j hj⟩
  ·have:=qh2 (n:=x0.length) c0 (by have:=ok j hj;omega) (k:=s.length) (by omega)
   rw[hn] at this;cases this
  ·simp only[List.mem_cons,List.not_mem_nil,or_false] at hd
   rcases hd with rfl|rfl
   ·exact qgZ c0 (by omega) (by omega)
   ·exact qgZ c1 (by omega) hj
 ·rw[e] at hs
  have l3:s.length=3:=by rw[hs];rfl
  have c0:cI s (0:Nat) 0=(i:Int):=by rw[hs];rfl
  have c1:cI s (1:Nat) 0=(j:Int):=by rw[hs];rfl
  have c2:cI s (2:Nat) 0=(k:Int):=by rw[hs];rfl
  refine⟨by omega,fun q hq=>?_,fun hn=>?_,fun hmm=>hm (hmm.mono fun d hd=>?_)⟩
  ·rcases (show q=0∨q=1∨q=2 by omega) with rfl|rfl|rfl
   ·exact⟨i,c0,ok i (by omega)⟩
   ·exact⟨j,c1,ok j (by omega)⟩
   ·exact⟨k,c2,ok k hk⟩
  ·have:=qh2 (n:=x0.length) c0 (by have:=ok k hk;omega) (k:=s.length) (by omega)
   rw[hn] at this;cases this
  ·simp only[List.mem_cons,List.not_mem_nil,or_false] at hd
   rcases hd with rfl|rfl|rfl
   ·exact qgZ c0 (by omega) (by omega)
   ·exact qgZ c1 (by omega) (by omega)
   ·exact qgZ c2 (by omega) hk
theorem qxl{l:List DQ}{w:Nat×Nat×Int}(h:kw l=some w):vE l.length w.1 w.2.1 w.2.2=0∧vB l w.1 w.2.1 w.2.2=true:=by
 obtain⟨h1,h2,h3,h4,_⟩:=qkP h
 have e:vE l.length w.1 w.2.1 w.2.2=0:=by
  unfold vE
  rw[if_neg (by omega),if_neg (by omega),if_neg (by omega)]
 refine⟨e,?_⟩
 unfold vB
 rw[if_pos e,Int.toNat_natCast,Int.toNat_natCast]
 exact h1
theorem qjZ(x0:R)(x1:R)(x2:Int)(lex0:UFit (.sl [(.int .i64),(.int .i64),(.int .i64),(.int .i64),(.int .i64),(.int .i64),.bool]) (.l x0))(lex1:UFit (.sl [(.int .i64),(.int .i64),(.int .i64)]) (.l x1))(_:IntKind.min .i64≤x2)(_:x2≤IntKind.max .i64):(yt [.r x0,.r x1,.i x2]).run=some (0,[.b true]):=by
 have h:=qrj lex0
 have k:=qrj lex1
 rw[qf9]
 obtain⟨b,f,fr⟩:=qwL x0 x1 x2 h k
 cases b with
 | false=>simp only[STD,f,qlE]
 | true=>
  have hc:=fr rfl
  obtain⟨hr,hp⟩:=q3C hc
  have F:=q3a x0 x1 x2 h k
  have C:=q5S x0 x1 x2 h k
  unfold qtK at F
  unfold qxT at C
  rw[if_pos hc] at F C
  obtain⟨s,hs⟩:∃s,s=q3v (zn x0 x1 x2):=⟨_,rfl⟩
  rw[←hs] at C
  have nn:∀d∈zn x0 x1 x2,0≤d.s:=fun d hd=>(q1T hr hp d hd).nn
  obtain⟨l3,lm⟩:=qtT nn
  rw[←hs] at l3 lm
  have w0:qt .i64 0 0=0:=by decide
  have fm:=qaL (q8H (p:=x2) hr) nn
  cases hw:kw (zn x0 x1 x2) with
  | some w=>
   rw[hw] at F fm
   have F':(qS [.r x0,.r x1,.i x2]).run=some (0,[.b true,.i (w.1:Int),.i (w.2.1:Int),.i w.2.2,.i 0]):=F
   have s0:s.length=0:=lm.2 (fm.1 rfl)
   have st:ieq (qh s) 0=true:=by rw[qoN];unfold qh;omega
   have V:=qmC x0 x1 x2 w.1 w.2.1 w.2.2 h k
   unfold qB6 at V
   obtain⟨v1,v2⟩:=qxl hw
   rw[if_pos hc,v1,v2] at V
   simp only[STD,f,F',C,w0,st,V,qlE,eq_self]
  | none=>
   rw[hw] at F fm
   have F':(qS [.r x0,.r x1,.i x2]).run=some (0,[.b false,.i 0,.i 0,.i 0,.i 0]):=F
   have h0:s.length≠0:=fun e=>by have:=fm.2 (lm.1 e);cases this
   have st:ieq (qh s) 0=false:=by unfold ieq qh;simp;intro e;exact h0 (by rw[e];rfl)
   have A:=qxV hr hp hs h0
   have hn:=hr.n
   have L:=q0B (S:=zW) (fun j=>[.r s,.r s,.i (qh s),.i (j:Int),.r x0,.r x1,.i x2,.i (qbM s x0.length x2 j),.r ((q1v s x0.length j).map (qn9 x0)),.r ((q1v s x0.length j).map (qrm x1))])
    (0,[.r s,.i (qbM s x0.length x2 s.length),.r ((q1v s x0.length s.length).map (qn9 x0)),.r ((q1v s x0.length s.length).map (qrm x1))]) s.length (by omega) (fun j hj=>by
    rw[q4J]
    have a1:(j:Int)<qh s:=qqy hj
    obtain⟨i,e,hi⟩:=A.ix j hj
    have pl:=qmc s x0.length j
    have rl:qh x0=(x0.length:Int):=rfl
    rcases hi with hi|⟨rfl,hp0⟩
    ·have i0:(i:Int)<qh x0:=qqy hi
     have i1:(i:Int)<qh x1:=qqy (by rw[hr.e];exact hi)
     have r1:∀(g:Nat→List U) (a:List U),qh ((q1v s x0.length j).map g)+qh [a]≤2513169434916:=fun g a=>by
      rw[qxw];unfold qh;rw[List.length_map];omega
     have r2:∀(g:Nat→List U) (a:List U),qh ((q1v s x0.length j).map g)+qh [a]≤5864062014805:=fun g a=>by
      have:=r1 g a;omega
     have pf:q1v s x0.length (j+1)=q1v s x0.length j++[i]:=by
      show (if cI s j 0=(x0.length:Int) then _ else _)=_
      rw[e,if_neg (by omega),Int.toNat_natCast]
     have pp:qbM s x0.length x2 (j+1)=qbM s x0.length x2 j:=by
      show (if cI s j 0=(x0.length:Int) then _ else _)=_
      rw[e,if_neg (by omega)]
     simp only[STD,a1,q94,and_self,e,i0,i1,r1,r2,show ¬((i:Int)<0) by omega,show ¬(qh x0<(i:Int)) by omega,show ¬((i:Int)=qh x0) by omega,q57 hj (show s.length<9223372036854775808 by omega)]
     rw[pf,pp,List.map_append,List.map_append]
     rfl
    ·have pf:q1v s x0.length (j+1)=q1v s x0.length j:=by
      show (if cI s j 0=(x0.length:Int) then _ else _)=_
      rw[if_pos e]
     have pp:qbM s x0.length x2 (j+1)=x2:=by
      show (if cI s j 0=(x0.length:Int) then _ else _)=_
      rw[if_pos e]
     simp only[STD,a1,q94,and_self,e,rl.symm,show ¬(qh x0<0) by omega,Int.lt_irrefl,show ¬(x2<0) by omega,q57 hj (show s.length<9223372036854775808 by omega)]
     rw[pf,pp]) (by
    rw[q4J]
    simp only[STD,qxf])
   have L':(ql zW [.r s,.r s,.i (qh s),.i 0,.r x0,.r x1,.i x2,.i (-1),.r [],.r []]).run=some (0,[.r s,.i (qbM s x0.length x2 s.length),.r ((q1v s x0.length s.length).map (qn9 x0)),.r ((q1v s x0.length s.length).map (qrm x1))]):=L
   have pl:=qmc s x0.length s.length
   have rt:=qzj hr (F:=q1v s x0.length s.length) (fun i hi=>by
    obtain⟨j,hj,e1,e2⟩:=qlW hi
    obtain⟨i',e,hh⟩:=A.ix j hj
    rw[e] at e1 e2
    rw[Int.toNat_natCast] at e1
    omega) A.ne (by have:=A.n;omega)
   have pr:=qlo s x0.length hp s.length
   have F2:=q3a ((q1v s x0.length s.length).map (qn9 x0)) ((q1v s x0.length s.length).map (qrm x1)) (qbM s x0.length x2 s.length) (by rw[List.length_map];have:=A.n;omega) (by rw[List.length_map];have:=A.n;omega)
   unfold qtK at F2
   have none2:kw (zn ((q1v s x0.length s.length).map (qn9 x0)) ((q1v s x0.length s.length).map (qrm x1)) (qbM s x0.length x2 s.length))=none:=by
    cases hf:kw (zn ((q1v s x0.length s.length).map (qn9 x0)) ((q1v s x0.length s.length).map (qrm x1)) (qbM s x0.length x2 s.length)) with
    | none=>rfl
    | some w=>exact absurd ((qaL (q8H rt) (fun d hd=>(q1T rt pr d hd).nn)).1 (by rw[hf];rfl)) A.no
   rw[if_pos (qwF rt pr),none2] at F2
   have F2':(qS [.r ((q1v s x0.length s.length).map (qn9 x0)),.r ((q1v s x0.length s.length).map (qrm x1)),.i (qbM s x0.length x2 s.length)]).run=some (0,[.b false,.i 0,.i 0,.i 0,.i 0]):=F2
   have n3:¬((3:Int)<qh s):=by unfold qh;omega
   have nt:¬(qh ((q1v s x0.length s.length).map (qn9 x0))=0):=by
    unfold qh;rw[List.length_map]
    intro e
    exact A.ne (List.length_eq_zero_iff.1 (by omega))
   simp only[STD,f,F',C,w0,st,L',qN L',n3,nt,F2',qlE,eq_self]
end Go.Eng

namespace Go.Eng
def qzz(x0 x1:R)(i:Nat):Int:=
 if qml x0 i=0 then (if qml x1 i=0 then (if cI x0 i 5=1∧cI x1 i 5=1 then (if (cI x0 i 0=cI x1 i 0∧cI x0 i 1=cI x1 i 1)∧cB x0 i 6≠cB x1 i 6 then 0 else 16) else 14) else qml x1 i) else qml x0 i
theorem qtQ{x0 x1:R}{i:Nat}(h:qzz x0 x1 i=0):qml x0 i=0∧qml x1 i=0∧(cI x0 i 5=1∧cI x1 i 5=1)∧(cI x0 i 0=cI x1 i 0∧cI x0 i 1=cI x1 i 1)∧cB x0 i 6≠cB x1 i 6:=by
 unfold qzz at h
 split at h
 ·rename_i h1
  split at h
  ·rename_i h2
   split at h
   ·rename_i h3
    split at h
    ·rename_i h4;exact⟨h1,h2,h3,h4.1,h4.2⟩
    ·omega
   ·omega
  ·rename_i h2;exact absurd h h2
 ·rename_i h1;exact absurd h h1
structure Jt (x0 x1:R):Prop where
 n:x0.length≤16
 ne:x0.length≠0
 e:x1.length=x0.length
 p:∀i,i<x0.length→qzz x0 x1 i=0
def gau(l:R)(i:Nat):Int:=if cB l i 6=true then cI l i 3+cI l i 4 else cI l i 2-cI l i 4
def mgA(x0 x1:R)(i:Nat):Int:=if cB x0 i 6=true then gau x1 i-gau x0 i else gau x0 i-gau x1 i
def mgL(x0 x1:R)(n:Nat):R:=qBB (fun i=>[.i (mgA x0 x1 i)]) n
def qBv(x0 x1:R):Bool:=decide (∀i,i<x0.length→0≤mgA x0 x1 i)
def qAz(l c:R)(i:Nat):Prop:=cI l i 2≤cI c i 2∧cI c i 2≤cI l i 3
instance (l c:R) (i:Nat):Decidable (qAz l c i):=inferInstanceAs (Decidable (_∧_))
def qBi(x0 x1 x2 x3:R)(i:Nat):Int:=if qoT x2 i=0 then (if qoT x3 i=0 then (if qAz x0 x2 i∧qAz x1 x3 i then 0 else 14) else qoT x3 i) else qoT x2 i
theorem qw6{x0 x1 x2 x3:R}{i:Nat}(h:qBi x0 x1 x2 x3 i=0):qoT x2 i=0∧qoT x3 i=0∧qAz x0 x2 i∧qAz x1 x3 i:=by
 unfold qBi at h
 split at h
 ·rename_i h1
  split at h
  ·rename_i h2
   split at h
   ·rename_i h3;exact⟨h1,h2,h3⟩
   ·omega
  ·rename_i h2;exact absurd h h2
 ·rename_i h1;exact absurd h h1
structure Gv (x0 x1 x2 x3:R):Prop where
 j:Jt x0 x1
 e2:x2.length=x0.length
 e3:x3.length=x0.length
 g:∀i,i<x0.length→qBi x0 x1 x2 x3 i=0
def qxQ(x0 x2 x3:R)(i:Nat):Int:=if cB x0 i 6=true then cI x3 i 2-cI x2 i 2 else cI x2 i 2-cI x3 i 2
def zA(x0 x2 x3:R)(i:Nat):DQ:=zD (cI x3 i 0-cI x2 i 0) (cI x3 i 1-cI x2 i 1) (qxQ x0 x2 x3 i)
def zAT(x0 x2 x3:R)(k:Nat):List DQ:=(List.range k).map (zA x0 x2 x3)
structure GvN (x0 x2 x3:R) (i:Nat):Prop where
 ax:-100000≤cI x2 i 0∧cI x2 i 0≤100000
 ay:-100000≤cI x2 i 1∧cI x2 i 1≤100000
 sa:1≤cI x2 i 2∧cI x2 i 2≤100000
 bx:-100000≤cI x3 i 0∧cI x3 i 0≤100000
 by_:-100000≤cI x3 i 1∧cI x3 i 1≤100000
 sb:1≤cI x3 i 2∧cI x3 i 2≤100000
 pl:-100000≤qxQ x0 x2 x3 i∧qxQ x0 x2 x3 i≤100000
theorem Gv.num{x0 x1 x2 x3:R}(h:Gv x0 x1 x2 x3){i:Nat}(hi:i<x0.length):GvN x0 x2 x3 i:=by
 obtain⟨h1,h2,_,_⟩:=qw6 (h.g i hi)
 obtain⟨a1,a2,a3,a4,a5,a6⟩:=qiS h1
 obtain⟨b1,b2,b3,b4,b5,b6⟩:=qiS h2
 refine⟨⟨a1,a2⟩,⟨a3,a4⟩,⟨a5,a6⟩,⟨b1,b2⟩,⟨b3,b4⟩,⟨b5,b6⟩,?_⟩
 unfold qxQ;split<;>omega
theorem Gv.gd{x0 x1 x2 x3:R}(h:Gv x0 x1 x2 x3){i:Nat}(hi:i<x0.length):GD (zA x0 x2 x3 i):=by
 have n:=h.num hi
 obtain⟨n1,n2,n3,n4,n5,n6,n7⟩:=n
 exact qz6 (by omega) (by omega) (by omega)
theorem Gv.gds{x0 x1 x2 x3:R}(h:Gv x0 x1 x2 x3):GDs (zAT x0 x2 x3 x0.length):=fun d hd=>by
 obtain⟨i,hi,rfl⟩:=List.mem_map.1 hd
 exact h.gd (List.mem_range.1 hi)
theorem Gv.nn{x0 x1 x2 x3:R}(h:Gv x0 x1 x2 x3):∀d∈zAT x0 x2 x3 x0.length,0≤d.s:=fun d hd=>(h.gds d hd).nn
end Go.Eng

namespace Go.Eng
structure JtN (x0 x1:R) (i:Nat):Prop where
 ga:-100000≤gau x0 i∧gau x0 i≤200000
 gb:-100000≤gau x1 i∧gau x1 i≤200000
 t0:qml x0 i=0
 t1:qml x1 i=0
 m0:cI x0 i 5=1
 m1:cI x1 i 5=1
theorem Jt.num{x0 x1:R}(h:Jt x0 x1){i:Nat}(hi:i<x0.length):JtN x0 x1 i:=by
 obtain⟨t0,t1,⟨m0,m1⟩,_,_⟩:=qtQ (h.p i hi)
 obtain⟨a1,a2,a3,a4,a5,a6,a7,a8,a9,a10,a11,_⟩:=qhi t0
 obtain⟨b1,b2,b3,b4,b5,b6,b7,b8,b9,b10,b11,_⟩:=qhi t1
 refine⟨?_,?_,t0,t1,m0,m1⟩<;>unfold gau<;>split<;>omega
end Go.Eng

namespace Go.Eng
def qBG(l m:R)(i:Nat):Bool:=decide (cI m i 0<cI l i 0∨cI l i 1<cI m i 0)
def qBF(l m:R):Prop:=∀i,i<l.length→qBG l m i=false
instance (l m:R):Decidable (qBF l m):=inferInstanceAs (Decidable (∀i,i<l.length→_))
end Go.Eng

namespace Go.Eng
def jA:R:=[[.i 0,.i 0,.i 100,.i 104,.i 4,.i 1,.b false],[.i 1000,.i 0,.i 100,.i 104,.i 4,.i 1,.b false]]
def jB:R:=[[.i 0,.i 0,.i 90,.i 92,.i 4,.i 1,.b true],[.i 1000,.i 0,.i 90,.i 92,.i 4,.i 1,.b true]]
theorem es:qBv jA jB=true:=by decide +kernel
theorem em:mgL jA jB 2=[[.i 0],[.i 0]]:=by
 have h0:mgA jA jB 0=0:=by decide +kernel
 have h1:mgA jA jB 1=0:=by decide +kernel
 unfold mgL qBB
 rw[show List.range 2=[0,1] from rfl]
 simp only[List.map_cons,List.map_nil,h0,h1]
end Go.Eng

