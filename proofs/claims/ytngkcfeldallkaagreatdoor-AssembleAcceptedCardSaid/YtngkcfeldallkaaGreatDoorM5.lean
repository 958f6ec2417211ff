/- Texts of the proof, merged: what the code computes, and plain laws. No statement stands here. -/
import Derived.Test.YtngkcfeldallkaaGreatDoorM4
namespace Go.Eng
theorem qyk{a b:Rat}{N D N' D':Nat}(ha:bnd N D a)(hb:bnd N' D' b)(h1:N+D'≤1023)(h2:N'+D≤1023)(h3:D+D'≤1024):(zN [.s (tQ a),.s (tQ b),.i 0]).run=some (0,[.s (tQ (a+b)),.i 0]):=by
 rw[qjA]
 have:(wI [.s (tQ a),.s (tQ b),.i 0]).run=some (0,[.s (tQ (a+b)),.i 0]):=by
  rw[q9J]
  simp only[STD,quk ha hb h1 h2 h3]
 simp only[STD,this]
theorem qtU{a b:Rat}{N D N' D':Nat}(ha:bnd N D a)(hb:bnd N' D' b)(h1:N+D'≤1023)(h2:N'+D≤1023)(h3:D+D'≤1024):(z6 [.s (tQ a),.s (tQ b),.i 0]).run=some (0,[.s (tQ (a-b)),.i 0]):=by
 rw[qkw]
 have:(wM [.s (tQ a),.s (tQ b),.i 0]).run=some (0,[.s (tQ (a-b)),.i 0]):=by
  rw[q9Q]
  simp only[STD,qtf ha hb h1 h2 h3]
 simp only[STD,this]
theorem qso{a b:Rat}{N D N' D':Nat}(ha:bnd N D a)(hb:bnd N' D' b)(h1:N+N'≤1024)(h2:D+D'≤1024):(qX [.s (tQ a),.s (tQ b),.i 0]).run=some (0,[.s (tQ (a*b)),.i 0]):=by
 rw[qko]
 have:(wO [.s (tQ a),.s (tQ b),.i 0]).run=some (0,[.s (tQ (a*b)),.i 0]):=by
  rw[q9I]
  simp only[STD,qn0 ha hb h1 h2]
 simp only[STD,this]
theorem qC9{a b:Rat}{N D N' D':Nat}(h0:b≠0)(ha:bnd N D a)(hb:bnd N' D' b)(h1:N+D'≤1024)(h2:D+N'≤1024):(zQ [.s (tQ a),.s (tQ b),.i 0]).run=some (0,[.s (tQ (a/b)),.i 0]):=by
 rw[q9R]
 simp only[STD,qtw h0 ha hb h1 h2]
theorem qAc{ax ay bx by_:Rat}{N D N' D':Nat}(h1:bnd N D ax)(h2:bnd N D ay)(h3:bnd N' D' bx)(h4:bnd N' D' by_)(c1:N+D'≤1023)(c2:N'+D≤1023)(c3:D+D'≤1024) :
  (jl [.s (tQ ax),.s (tQ ay),.s (tQ bx),.s (tQ by_),.i 0]).run=some (0,[.s (tQ (ax-bx)),.s (tQ (ay-by_)),.i 0]):=by
 rw[qjv]
 simp only[STD,qtU h1 h3 c1 c2 c3,qtU h2 h4 c1 c2 c3]
theorem qzK{ax ay bx by_:Rat}{N D N' D':Nat}(h1:bnd N D ax)(h2:bnd N D ay)(h3:bnd N' D' bx)(h4:bnd N' D' by_)(c1:N+N'+(D+D')≤1023)(c2:D+D'+(D+D')≤1024) :
  (wS [.s (tQ ax),.s (tQ ay),.s (tQ bx),.s (tQ by_),.i 0]).run=some (0,[.s (tQ (ax*bx+ay*by_)),.i 0]):=by
 rw[qjK]
 simp only[STD,qso h1 h3 (by omega) (by omega),qso h2 h4 (by omega) (by omega),qyk (h1.mul h3) (h2.mul h4) (by omega) (by omega) (by omega)]
theorem qqW{ax ay bx by_:Rat}{N D N' D':Nat}(h1:bnd N D ax)(h2:bnd N D ay)(h3:bnd N' D' bx)(h4:bnd N' D' by_):bnd (N+N'+(D+D')+1) (D+D'+(D+D')) (ax*bx+ay*by_):=
 (h1.mul h3).add (h2.mul h4) (by omega) (by omega)
def q4V(ax ay bx by_:Rat):Rat:=(ax-bx)*(ax-bx)+(ay-by_)*(ay-by_)
theorem qam{a b:Rat}(ha:bnd 12 10 a)(hb:bnd 12 10 b):bnd 23 20 (a-b):=ha.sub hb (by omega) (by omega)
theorem qqz{ax ay bx by_:Rat}(h1:bnd 12 10 ax)(h2:bnd 12 10 ay)(h3:bnd 12 10 bx)(h4:bnd 12 10 by_):bnd 87 80 (q4V ax ay bx by_):=
 qqW (qam h1 h3) (qam h2 h4) (qam h1 h3) (qam h2 h4)
structure DQ where
 x:Rat
 y:Rat
 s:Rat
def DQ.sh(d:DQ):Prop:=bnd 12 10 d.x∧bnd 12 10 d.y∧bnd 13 10 d.s
def qCO(a b:DQ)(k:Rat):Int:=qgh (q4V a.x a.y b.x b.y-(a.s+b.s)) k (a.s*b.s)
theorem qBX{a b c:Rat}(h:RootOk a b c)(hc:0≤c):(q0p [.s (tQ a),.s (tQ b),.s (tQ c),.i 0]).run=some (0,[.i (qgh a b c),.i 0]):=by
 rw[qiY]
 simp only[STD,qvJ h hc]
theorem qwn(a:Rat):qgh a 0 0=sgq a:=by
 unfold qgh
 rw[show sgq 0=0 from rfl,Int.mul_zero,Int.mul_zero,if_pos (by omega)]
 split
 ·rename_i h;rw[h]
 ·rfl
theorem qAd:tQ 2=[50]:=qzi 2
def qxd(a b:DQ):Prop:=a.s≤b.s∧qCO a b 2≤0
instance (a b:DQ):Decidable (qxd a b):=by unfold qxd;infer_instance
def shT(s:List UInt8):Prop:=s.length≤12
noncomputable def qAH(x y s:List UInt8):Int:=if qoD x≠0 then qoD x else if qoD y≠0 then qoD y else if qoD s≠0 then qoD s else if s.getD 0 0=45 then 2 else 0
theorem qCC{S:List PV→TR}{st:Nat→List PV}{e0 e1 e2:Int}{fin:List PV}
  (h0:(S (st 0)).run=if e0=0 then some (0,st 1) else some (2,[.i e0])) (h1:(S (st 1)).run=if e1=0 then some (0,st 2) else some (2,[.i e1])) (h2:(S (st 2)).run=if e2=0 then some (0,st 3) else some (2,[.i e2]))
  (h3:(S (st 3)).run=some (1,fin)):(qj S (st 0)).run=some (if e0≠0 then (1,[.i e0]) else if e1≠0 then (1,[.i e1]) else if e2≠0 then (1,[.i e2]) else (0,fin)):=by
 have hr:∃m,qfp=m+4:=⟨qfp-4,by unfold qfp;omega⟩
 obtain⟨m,hm⟩:=hr
 unfold qj
 rw[hm]
 by_cases c0:e0=0
 ·rw[if_pos c0] at h0
  rw[qfK h0]
  by_cases c1:e1=0
  ·rw[if_pos c1] at h1
   rw[qfK h1]
   by_cases c2:e2=0
   ·rw[if_pos c2] at h2
    rw[qfK h2,q6P h3]
    simp[c0,c1,c2]
   ·rw[if_neg c2] at h2
    rw[q6P h2]
    simp[c0,c1,c2]
  ·rw[if_neg c1] at h1
   rw[q6P h1]
   simp[c0,c1]
 ·rw[if_neg c0] at h0
  rw[q6P h0]
  simp[c0]
theorem qpT(x y s:List UInt8)(h1:x.length≤1000000)(h2:y.length≤1000000)(h3:s.length≤1000000):(q3c [.s x,.s y,.s s]).run=some (0,[.i (qAH x y s)]):=by
  rw[qnX]
  have c0:=q7M x (by omega)
  have c1:=q7M y (by omega)
  have c2:=q7M s (by omega)
  have d0:cS [[.s x],[.s y],[.s s]] 0 0=x:=rfl
  have d1:cS [[.s x],[.s y],[.s s]] 1 0=y:=rfl
  have d2:cS [[.s x],[.s y],[.s s]] 2 0=s:=rfl
  have d3:qf [[U.s x],[U.s y],[U.s s]]=3:=rfl
  have w0:qk .i64 0 1=1:=by decide
  have w1:qk .i64 1 1=2:=by decide
  have w2:qk .i64 2 1=3:=by decide
  have key:=qCC (S:=q2i) (st:=fun i=>[.i 3,.i (i:Int),.s x,.s y,.s s,.r [[.s x],[.s y],[.s s]]]) (e0:=qoD x) (e1:=qoD y) (e2:=qoD s) (fin:=[.s x,.s y,.s s])
    (by rw [q4b]; simp only [show (((0 : Nat)) : Int) = 0 from rfl, show (((1 : Nat)) : Int) = 1 from rfl, d0, d3]
        by_cases c:qoD x=0
        · simp only[STD,c0,c,w0,show (0:Int)<3 by omega,Int.le_refl,and_self]
        · simp only[STD,c0,c,show (0:Int)<3 by omega,Int.le_refl,and_self])
    (by rw [q4b]; simp only [show (((1 : Nat)) : Int) = 1 from rfl, show (((2 : Nat)) : Int) = 2 from rfl, d1, d3]
        by_cases c:qoD y=0
        · simp only[STD,c1,c,w1,show (1:Int)<3 by omega,show (0:Int)≤1 by omega,and_self]
        · simp only[STD,c1,c,show (1:Int)<3 by omega,show (0:Int)≤1 by omega,and_self])
    (by rw [q4b]; simp only [show (((2 : Nat)) : Int) = 2 from rfl, show (((3 : Nat)) : Int) = 3 from rfl, d2, d3]
        by_cases c:qoD s=0
        · simp only[STD,c2,c,w2,show (2:Int)<3 by omega,show (0:Int)≤2 by omega,and_self]
        · simp only[STD,c2,c,show (2:Int)<3 by omega,show (0:Int)≤2 by omega,and_self])
    (by rw[q4b];simp only[show (((3:Nat)):Int)=3 from rfl];simp only[STD,show ¬(3:Int)<3 by omega])
  simp only[show (((0:Nat)):Int)=0 from rfl] at key
  unfold qAH
  rw[d3]
  by_cases e0:qoD x=0
  · by_cases e1:qoD y=0
    · by_cases e2:qoD s=0
      · simp only[e0,e1,e2,ne_eq,not_true,if_false] at key ⊢
        obtain⟨q,hq,_⟩:=qAA e2
        have hl:(0:Int)<wl s:=by
          have h1:=qnj q
          have h2:=qnP q
          rw[hq];unfold wl;omega
        by_cases hm:s.getD 0 0=45
        · simp only[STD,key,qW key,Int.le_refl,hl,and_self,qia,hm]
        · simp only[STD,key,qW key,Int.le_refl,hl,and_self,qia,hm]
      · simp only[e0,e1,e2,ne_eq,not_true,not_false_eq_true,if_false,if_true] at key ⊢
        simp only[STD,key,qW key,show ¬(1=0) by omega]
    · simp only[e0,e1,ne_eq,not_true,not_false_eq_true,if_false,if_true] at key ⊢
      simp only[STD,key,qW key,show ¬(1=0) by omega]
  · simp only[e0,ne_eq,not_false_eq_true,if_true] at key ⊢
    simp only[STD,key,qW key,show ¬(1=0) by omega]
theorem qB1{d:DQ}(h1:okQ d.x)(h2:okQ d.y)(h3:okQ d.s)(h:0≤d.s):qAH (tQ d.x) (tQ d.y) (tQ d.s)=0:=by
 unfold qAH
 rw[qqc h1,qqc h2,qqc h3]
 have:=qAU h
 rw[if_neg (by simp),if_neg (by simp),if_neg (by simp),if_neg this]
end Go.Eng

namespace Go.Eng
def Bd(C e:Nat)(x:Int):Prop:=x.natAbs≤C*10^e
theorem Bd.mul{C e C' e':Nat}{x y:Int}(h:Bd C e x)(h':Bd C' e' y):Bd (C*C') (e+e') (x*y):=by
 unfold Bd at *
 rw[Int.natAbs_mul,Nat.pow_add]
 have:=Nat.mul_le_mul h h'
 have e1:C*10^e*(C'*10^e')=C*C'*(10^e*10^e'):=by
  rw[Nat.mul_mul_mul_comm]
 omega
theorem Bd.mono{C e C' e':Nat}{x:Int}(h:Bd C e x)(hC:C≤C')(he:e≤e'):Bd C' e' x:=by
 unfold Bd at *
 exact Nat.le_trans h (Nat.mul_le_mul hC (Nat.pow_le_pow_right (by omega) he))
theorem Bd.add{C C' e:Nat}{x y:Int}(h:Bd C e x)(h':Bd C' e y):Bd (C+C') e (x+y):=by
 unfold Bd at *
 rw[Nat.add_mul]
 have:=Int.natAbs_add_le x y
 omega
theorem Bd.neg{C e:Nat}{x:Int}(h:Bd C e x):Bd C e (-x):=by unfold Bd at *;rw[Int.natAbs_neg];exact h
theorem Bd.sub{C C' e:Nat}{x y:Int}(h:Bd C e x)(h':Bd C' e y):Bd (C+C') e (x-y):=by
 rw[Int.sub_eq_add_neg];exact h.add h'.neg
theorem Bd.okL{C e k:Nat}{x:Int}(h:Bd C e x)(hC:C≤10^k)(he:k+e≤1023)(hne:0<e+k):okL x:=by
 unfold Go.Eng.okL nl
 unfold Bd at h
 have h1:C*10^e≤10^k*10^e:=Nat.mul_le_mul_right _ hC
 rw[←Nat.pow_add] at h1
 have h2:(10:Nat)^(k+e)<10^(k+e+1):=Nat.pow_lt_pow_right (by omega) (by omega)
 have:=qbu (k+e) x.natAbs (by omega)
 omega
structure Wt (h v:Nat) (q:Rat):Prop where
 n:Bd 1 h q.num
 d:Bd 1 v (q.den:Int)
 dh:Bd 1 h (q.den:Int)
theorem qlI{q:Rat}{P M:Int}(hM:M≠0)(h:q*(M:Rat)=(P:Rat)):q.num.natAbs≤P.natAbs∧q.den≤M.natAbs:=by
 have hM':(M:Rat)≠0:=by
  intro e
  exact hM (Rat.intCast_inj.1 (e.trans (by simp)))
 have e:q=Rat.divInt P M:=by
  rw[Rat.divInt_eq_div,←h]
  exact(Rat.mul_div_cancel hM').symm
 rw[e]
 constructor
 ·rw[Rat.num_divInt]
  refine Nat.le_trans (Int.natAbs_ediv_le_natAbs _ _) ?_
  rw[Int.natAbs_mul,Int.natAbs_sign_of_ne_zero hM];omega
 ·rw[Rat.den_divInt,if_neg hM]
  exact Nat.div_le_self _ _
structure SQ where
 fx:Rat
 fy:Rat
 ax:Rat
 ay:Rat
 h:Rat
def ql(a b:DQ)(neg:Bool):SQ:=
 let dx:=b.x-a.x
 let dy:=b.y-a.y
 let far:=dx*dx+dy*dy
 let t:=(far+a.s-b.s)/(2*far)
 ⟨a.x+t*dx,a.y+t*dy,if neg then dy else 0-dy,if neg then 0-dx else dx,a.s/far-t*t⟩
def kA(d:DQ)(p:SQ):Rat:=(p.fx-d.x)*(p.fx-d.x)+(p.fy-d.y)*(p.fy-d.y)+p.h*(p.ax*p.ax+p.ay*p.ay)-d.s
def kB(d:DQ)(p:SQ):Rat:=2*((p.fx-d.x)*p.ax+(p.fy-d.y)*p.ay)
def q1n(d:DQ)(p:SQ):Prop:=qgh (kA d p) (kB d p) p.h≤0
instance (d:DQ) (p:SQ):Decidable (q1n d p):=by unfold q1n;infer_instance
section
variable (a1 p1 b1 q1 c1 r1 a2 p2 b2 q2 c2 r2 a3 p3 b3 q3 c3 r3:Int)
def iU:Int:=a2*p1-a1*p2
def iN:Int:=iU a1 p1 a2 p2*iU a1 p1 a2 p2*((q1*q2)*(q1*q2))+iU b1 q1 b2 q2*iU b1 q1 b2 q2*((p1*p2)*(p1*p2))
def iD:Int:=(p1*p2*(q1*q2))*(p1*p2*(q1*q2))
def iT:Int:=iN a1 p1 b1 q1 a2 p2 b2 q2*(r1*r2)+(c1*r2-c2*r1)*iD p1 q1 p2 q2
def iE:Int:=a1*p3-a3*p1
def iG:Int:=iE a1 p1 a3 p3*iE a1 p1 a3 p3*((q1*q3)*(q1*q3))+iE b1 q1 b3 q3*iE b1 q1 b3 q3*((p1*p3)*(p1*p3))
def iH:Int:=iE a1 p1 a3 p3*iU a1 p1 a2 p2*((q1*q1)*(q2*q3))+iE b1 q1 b3 q3*iU b1 q1 b2 q2*((p1*p1)*(p2*p3))
def iSq:Int:=((p1*q1)*(p3*q3))*((p1*q1)*(p3*q3))
def iA:Int:=iG a1 p1 b1 q1 a3 p3 b3 q3*iN a1 p1 b1 q1 a2 p2 b2 q2*(r1*r2*r3)*(p2*q2)+iT a1 p1 b1 q1 c1 r1 a2 p2 b2 q2 c2 r2*iH a1 p1 b1 q1 a2 p2 b2 q2 a3 p3 b3 q3*r3*(p3*q3)
 + c1*iN a1 p1 b1 q1 a2 p2 b2 q2*(r2*r3)*iSq p1 q1 p3 q3*(p2*q2)-c3*iN a1 p1 b1 q1 a2 p2 b2 q2*(r1*r2)*iSq p1 q1 p3 q3*(p2*q2)
def iM:Int:=iN a1 p1 b1 q1 a2 p2 b2 q2*(r1*r2*r3)*iSq p1 q1 p3 q3*(p2*q2)
def iK:Int:=2*(iE b1 q1 b3 q3*iU a1 p1 a2 p2*(p3*q2)-iE a1 p1 a3 p3*iU b1 q1 b2 q2*(q3*p2))
def iQ:Int:=(p1*p2*p3)*(q1*q2*q3)
def iCn:Int:=4*(c1*iD p1 q1 p2 q2*iN a1 p1 b1 q1 a2 p2 b2 q2*r1*(r2*r2))-iT a1 p1 b1 q1 c1 r1 a2 p2 b2 q2 c2 r2*iT a1 p1 b1 q1 c1 r1 a2 p2 b2 q2 c2 r2
def iCd:Int:=4*(iN a1 p1 b1 q1 a2 p2 b2 q2*iN a1 p1 b1 q1 a2 p2 b2 q2)*((r1*r2)*(r1*r2))
end
section
variable {a1 p1 b1 q1 c1 r1 a2 p2 b2 q2 c2 r2 a3 p3 b3 q3 c3 r3:Int} {hx1 hy1 hs1 hx2 hy2 hs2 hx3 hy3 hs3 vx1 vy1 vs1 vx2 vy2 vs2 vx3 vy3 vs3:Nat}
theorem bU(h1:Bd 1 hx1 a1)(h2:Bd 1 hx1 p1)(h3:Bd 1 hx2 a2)(h4:Bd 1 hx2 p2):Bd 2 (hx1+hx2) (iU a1 p1 a2 p2):=
 ((h3.mul h2).mono (Nat.le_refl _) (by omega)).sub (h1.mul h4)
theorem bE(h1:Bd 1 hx1 a1)(h2:Bd 1 hx1 p1)(h3:Bd 1 hx3 a3)(h4:Bd 1 hx3 p3):Bd 2 (hx1+hx3) (iE a1 p1 a3 p3):=
 (h1.mul h4).sub ((h3.mul h2).mono (Nat.le_refl _) (by omega))
theorem bN(x1:Bd 1 hx1 a1)(x1':Bd 1 hx1 p1)(y1:Bd 1 hy1 b1)(y1':Bd 1 hy1 q1)(x2:Bd 1 hx2 a2)(x2':Bd 1 hx2 p2)(y2:Bd 1 hy2 b2)(y2':Bd 1 hy2 q2) :
  Bd 8 (2*(hx1+hx2+hy1+hy2)) (iN a1 p1 b1 q1 a2 p2 b2 q2):=by
 have u:=bU x1 x1' x2 x2'
 have v:=bU y1 y1' y2 y2'
 have qq:=y1'.mul y2'
 have pp:=x1'.mul x2'
 exact(((u.mul u).mul (qq.mul qq)).mono (C':=4) (by omega) (by omega)).add (((v.mul v).mul (pp.mul pp)).mono (C':=4) (by omega) (by omega))
theorem bD(x1':Bd 1 hx1 p1)(y1':Bd 1 hy1 q1)(x2':Bd 1 hx2 p2)(y2':Bd 1 hy2 q2):Bd 1 (2*(hx1+hx2+hy1+hy2)) (iD p1 q1 p2 q2):=by
 have z:=(x1'.mul x2').mul (y1'.mul y2')
 exact(z.mul z).mono (by omega) (by omega)
theorem bT(x1:Bd 1 hx1 a1)(x1':Bd 1 hx1 p1)(y1:Bd 1 hy1 b1)(y1':Bd 1 hy1 q1)(x2:Bd 1 hx2 a2)(x2':Bd 1 hx2 p2)(y2:Bd 1 hy2 b2)(y2':Bd 1 hy2 q2)
  (s1:Bd 1 hs1 c1) (s1':Bd 1 hs1 r1) (s2:Bd 1 hs2 c2) (s2':Bd 1 hs2 r2):Bd 10 (2*(hx1+hx2+hy1+hy2)+hs1+hs2) (iT a1 p1 b1 q1 c1 r1 a2 p2 b2 q2 c2 r2):=by
 have n:=bN x1 x1' y1 y1' x2 x2' y2 y2'
 have d:=bD x1' y1' x2' y2'
 have s:=(s1.mul s2').sub ((s2.mul s1').mono (Nat.le_refl _) (by omega))
 exact((n.mul (s1'.mul s2')).mono (C':=8) (by omega) (by omega)).add ((s.mul d).mono (C':=2) (by omega) (by omega))
theorem bG(x1:Bd 1 hx1 a1)(x1':Bd 1 hx1 p1)(y1:Bd 1 hy1 b1)(y1':Bd 1 hy1 q1)(x3:Bd 1 hx3 a3)(x3':Bd 1 hx3 p3)(y3:Bd 1 hy3 b3)(y3':Bd 1 hy3 q3) :
  Bd 8 (2*(hx1+hx3+hy1+hy3)) (iG a1 p1 b1 q1 a3 p3 b3 q3):=by
 have u:=bE x1 x1' x3 x3'
 have v:=bE y1 y1' y3 y3'
 have qq:=y1'.mul y3'
 have pp:=x1'.mul x3'
 exact(((u.mul u).mul (qq.mul qq)).mono (C':=4) (by omega) (by omega)).add (((v.mul v).mul (pp.mul pp)).mono (C':=4) (by omega) (by omega))
theorem bH(x1:Bd 1 hx1 a1)(x1':Bd 1 hx1 p1)(y1:Bd 1 hy1 b1)(y1':Bd 1 hy1 q1)(x2:Bd 1 hx2 a2)(x2':Bd 1 hx2 p2)(y2:Bd 1 hy2 b2)(y2':Bd 1 hy2 q2)
  (x3:Bd 1 hx3 a3) (x3':Bd 1 hx3 p3) (y3:Bd 1 hy3 b3) (y3':Bd 1 hy3 q3):Bd 8 (2*hx1+hx2+hx3+2*hy1+hy2+hy3) (iH a1 p1 b1 q1 a2 p2 b2 q2 a3 p3 b3 q3):=by
 have u:=bU x1 x1' x2 x2'
 have v:=bU y1 y1' y2 y2'
 have e:=bE x1 x1' x3 x3'
 have f:=bE y1 y1' y3 y3'
 exact(((e.mul u).mul ((y1'.mul y1').mul (y2'.mul y3'))).mono (C':=4) (by omega) (by omega)).add (((f.mul v).mul ((x1'.mul x1').mul (x2'.mul x3'))).mono (C':=4) (by omega) (by omega))
theorem bSq(x1':Bd 1 hx1 p1)(y1':Bd 1 hy1 q1)(x3':Bd 1 hx3 p3)(y3':Bd 1 hy3 q3):Bd 1 (2*(hx1+hx3+hy1+hy3)) (iSq p1 q1 p3 q3):=by
 have z:=(x1'.mul y1').mul (x3'.mul y3')
 exact(z.mul z).mono (by omega) (by omega)
theorem bA(x1:Bd 1 hx1 a1)(x1':Bd 1 hx1 p1)(y1:Bd 1 hy1 b1)(y1':Bd 1 hy1 q1)(x2:Bd 1 hx2 a2)(x2':Bd 1 hx2 p2)(y2:Bd 1 hy2 b2)(y2':Bd 1 hy2 q2)
  (x3:Bd 1 hx3 a3) (x3':Bd 1 hx3 p3) (y3:Bd 1 hy3 b3) (y3':Bd 1 hy3 q3) (s1:Bd 1 hs1 c1) (s1':Bd 1 hs1 r1) (s2:Bd 1 hs2 c2) (s2':Bd 1 hs2 r2) (s3:Bd 1 hs3 c3) (s3':Bd 1 hs3 r3) :
  Bd 160 (4*hx1+3*hx2+2*hx3+4*hy1+3*hy2+2*hy3+hs1+hs2+hs3) (iA a1 p1 b1 q1 c1 r1 a2 p2 b2 q2 c2 r2 a3 p3 b3 q3 c3 r3):=by
 have g:=bG x1 x1' y1 y1' x3 x3' y3 y3'
 have n:=bN x1 x1' y1 y1' x2 x2' y2 y2'
 have t:=bT x1 x1' y1 y1' x2 x2' y2 y2' s1 s1' s2 s2'
 have h:=bH x1 x1' y1 y1' x2 x2' y2 y2' x3 x3' y3 y3'
 have sq:=bSq x1' y1' x3' y3'
 have k1:=(((g.mul n).mul ((s1'.mul s2').mul s3')).mul (x2'.mul y2')).mono (C':=64) (e':=4*hx1+3*hx2+2*hx3+4*hy1+3*hy2+2*hy3+hs1+hs2+hs3) (by omega) (by omega)
 have k2:=(((t.mul h).mul s3').mul (x3'.mul y3')).mono (C':=80) (e':=4*hx1+3*hx2+2*hx3+4*hy1+3*hy2+2*hy3+hs1+hs2+hs3) (by omega) (by omega)
 have k3:=((((s1.mul n).mul (s2'.mul s3')).mul sq).mul (x2'.mul y2')).mono (C':=8) (e':=4*hx1+3*hx2+2*hx3+4*hy1+3*hy2+2*hy3+hs1+hs2+hs3) (by omega) (by omega)
 have k4:=((((s3.mul n).mul (s1'.mul s2')).mul sq).mul (x2'.mul y2')).mono (C':=8) (e':=4*hx1+3*hx2+2*hx3+4*hy1+3*hy2+2*hy3+hs1+hs2+hs3) (by omega) (by omega)
 exact((k1.add k2).add k3).sub k4
theorem bM(x1:Bd 1 hx1 a1)(x1':Bd 1 hx1 p1)(y1:Bd 1 hy1 b1)(y1':Bd 1 hy1 q1)(x2:Bd 1 hx2 a2)(x2':Bd 1 hx2 p2)(y2:Bd 1 hy2 b2)(y2':Bd 1 hy2 q2)
  (wx1:Bd 1 vx1 p1) (wy1:Bd 1 vy1 q1) (wx2:Bd 1 vx2 p2) (wy2:Bd 1 vy2 q2) (wx3:Bd 1 vx3 p3) (wy3:Bd 1 vy3 q3) (ws1:Bd 1 vs1 r1) (ws2:Bd 1 vs2 r2) (ws3:Bd 1 vs3 r3) :
  Bd 8 (2*(hx1+hx2+hy1+hy2)+(vs1+vs2+vs3)+2*(vx1+vx3+vy1+vy3)+(vx2+vy2)) (iM a1 p1 b1 q1 r1 a2 p2 b2 q2 r2 p3 q3 r3):=by
 have n:=bN x1 x1' y1 y1' x2 x2' y2 y2'
 have sq:=bSq wx1 wy1 wx3 wy3
 exact(((n.mul ((ws1.mul ws2).mul ws3)).mul sq).mul (wx2.mul wy2)).mono (by omega) (by omega)
theorem bK(x1:Bd 1 hx1 a1)(x1':Bd 1 hx1 p1)(y1:Bd 1 hy1 b1)(y1':Bd 1 hy1 q1)(x2:Bd 1 hx2 a2)(x2':Bd 1 hx2 p2)(y2:Bd 1 hy2 b2)(y2':Bd 1 hy2 q2)
  (x3:Bd 1 hx3 a3) (x3':Bd 1 hx3 p3) (y3:Bd 1 hy3 b3) (y3':Bd 1 hy3 q3):Bd 16 (hx1+hx2+hx3+hy1+hy2+hy3) (iK a1 p1 b1 q1 a2 p2 b2 q2 a3 p3 b3 q3):=by
 have u:=bU x1 x1' x2 x2'
 have v:=bU y1 y1' y2 y2'
 have e:=bE x1 x1' x3 x3'
 have f:=bE y1 y1' y3 y3'
 have two:Bd 2 0 2:=by unfold Bd;decide
 have k1:=((f.mul u).mul (x3'.mul y2')).mono (C':=4) (e':=hx1+hx2+hx3+hy1+hy2+hy3) (by omega) (by omega)
 have k2:=((e.mul v).mul (y3'.mul x2')).mono (C':=4) (e':=hx1+hx2+hx3+hy1+hy2+hy3) (by omega) (by omega)
 exact(two.mul (k1.sub k2)).mono (by omega) (by omega)
theorem bQ(wx1:Bd 1 vx1 p1)(wy1:Bd 1 vy1 q1)(wx2:Bd 1 vx2 p2)(wy2:Bd 1 vy2 q2)(wx3:Bd 1 vx3 p3)(wy3:Bd 1 vy3 q3):Bd 1 (vx1+vx2+vx3+(vy1+vy2+vy3)) (iQ p1 q1 p2 q2 p3 q3):=
 (((wx1.mul wx2).mul wx3).mul ((wy1.mul wy2).mul wy3)).mono (by omega) (by omega)
theorem bCn(x1:Bd 1 hx1 a1)(x1':Bd 1 hx1 p1)(y1:Bd 1 hy1 b1)(y1':Bd 1 hy1 q1)(x2:Bd 1 hx2 a2)(x2':Bd 1 hx2 p2)(y2:Bd 1 hy2 b2)(y2':Bd 1 hy2 q2)
  (s1:Bd 1 hs1 c1) (s1':Bd 1 hs1 r1) (s2:Bd 1 hs2 c2) (s2':Bd 1 hs2 r2):Bd 132 (4*(hx1+hx2+hy1+hy2)+2*hs1+2*hs2) (iCn a1 p1 b1 q1 c1 r1 a2 p2 b2 q2 c2 r2):=by
 have n:=bN x1 x1' y1 y1' x2 x2' y2 y2'
 have d:=bD x1' y1' x2' y2'
 have t:=bT x1 x1' y1 y1' x2 x2' y2 y2' s1 s1' s2 s2'
 have four:Bd 4 0 4:=by unfold Bd;decide
 have k1:=(four.mul ((((s1.mul d).mul n).mul s1').mul (s2'.mul s2'))).mono (C':=32) (e':=4*(hx1+hx2+hy1+hy2)+2*hs1+2*hs2) (by omega) (by omega)
 have k2:=(t.mul t).mono (C':=100) (e':=4*(hx1+hx2+hy1+hy2)+2*hs1+2*hs2) (by omega) (by omega)
 exact k1.sub k2
theorem bCd(x1:Bd 1 hx1 a1)(x1':Bd 1 hx1 p1)(y1:Bd 1 hy1 b1)(y1':Bd 1 hy1 q1)(x2:Bd 1 hx2 a2)(x2':Bd 1 hx2 p2)(y2:Bd 1 hy2 b2)(y2':Bd 1 hy2 q2)
  (ws1:Bd 1 vs1 r1) (ws2:Bd 1 vs2 r2):Bd 256 (4*(hx1+hx2+hy1+hy2)+2*vs1+2*vs2) (iCd a1 p1 b1 q1 r1 a2 p2 b2 q2 r2):=by
 have n:=bN x1 x1' y1 y1' x2 x2' y2 y2'
 have four:Bd 4 0 4:=by unfold Bd;decide
 exact((four.mul (n.mul n)).mul ((ws1.mul ws2).mul (ws1.mul ws2))).mono (by omega) (by omega)
end
section
variable (a b d:DQ)
theorem quJ(q:Rat):(q.den:Rat)≠0:=by have:=q30 q;grind
theorem qu0(neg:Bool)(hf:(b.x-a.x)*(b.x-a.x)+(b.y-a.y)*(b.y-a.y)≠0) :
  kA d (ql a b neg)*((iM a.x.num a.x.den a.y.num a.y.den a.s.den b.x.num b.x.den b.y.num b.y.den b.s.den d.x.den d.y.den d.s.den:Int):Rat)=((iA a.x.num a.x.den a.y.num a.y.den a.s.num a.s.den b.x.num b.x.den b.y.num b.y.den b.s.num b.s.den d.x.num d.x.den d.y.num d.y.den d.s.num d.s.den:Int):Rat) ∧
  kB d (ql a b neg)*((iQ a.x.den a.y.den b.x.den b.y.den d.x.den d.y.den:Int):Rat)=(((if neg then -1 else 1)*iK a.x.num a.x.den a.y.num a.y.den b.x.num b.x.den b.y.num b.y.den d.x.num d.x.den d.y.num d.y.den:Int):Rat) ∧
  (ql a b neg).h*((iCd a.x.num a.x.den a.y.num a.y.den a.s.den b.x.num b.x.den b.y.num b.y.den b.s.den:Int):Rat)=((iCn a.x.num a.x.den a.y.num a.y.den a.s.num a.s.den b.x.num b.x.den b.y.num b.y.den b.s.num b.s.den:Int):Rat) ∧
  iN a.x.num a.x.den a.y.num a.y.den b.x.num b.x.den b.y.num b.y.den≠0:=by
 obtain⟨far,hfar⟩:∃far,far=(b.x-a.x)*(b.x-a.x)+(b.y-a.y)*(b.y-a.y):=⟨_,rfl⟩
 obtain⟨t,ht⟩:∃t,t=(far+a.s-b.s)/(2*far):=⟨_,rfl⟩
 obtain⟨h,hh⟩:∃h,h=a.s/far-t*t:=⟨_,rfl⟩
 rw[←hfar] at hf
 have h2f:2*far≠0:=by grind
 have ht':2*far*t=far+a.s-b.s:=by
  rw[ht,Rat.mul_comm];exact Rat.div_mul_cancel h2f
 have hh':far*h=a.s-far*(t*t):=by
  have:a.s/far*far=a.s:=Rat.div_mul_cancel hf
  rw[hh];grind
 have hc:ql a b neg=⟨a.x+t*(b.x-a.x),a.y+t*(b.y-a.y),if neg then b.y-a.y else 0-(b.y-a.y),if neg then 0-(b.x-a.x) else b.x-a.x,h⟩:=by
  rw[hh,ht,hfar];rfl
 rw[hc]
 have nx1:=qdt a.x
 have ny1:=qdt a.y
 have ns1:=qdt a.s
 have nx2:=qdt b.x
 have ny2:=qdt b.y
 have ns2:=qdt b.s
 have nx3:=qdt d.x
 have ny3:=qdt d.y
 have ns3:=qdt d.s
 have px1:=quJ a.x
 have py1:=quJ a.y
 have px2:=quJ b.x
 have py2:=quJ b.y
 obtain⟨x1,y1,s1⟩:=a
 obtain⟨x2,y2,s2⟩:=b
 obtain⟨x3,y3,s3⟩:=d
 simp only at *
 have hU:((iU x1.num x1.den x2.num x2.den:Int):Rat)=(x2-x1)*((x1.den:Rat)*x2.den):=by
  unfold iU;simp only[Rat.intCast_sub,Rat.intCast_mul,Rat.intCast_natCast,nx1,nx2];grind
 have hV:((iU y1.num y1.den y2.num y2.den:Int):Rat)=(y2-y1)*((y1.den:Rat)*y2.den):=by
  unfold iU;simp only[Rat.intCast_sub,Rat.intCast_mul,Rat.intCast_natCast,ny1,ny2];grind
 have hE:((iE x1.num x1.den x3.num x3.den:Int):Rat)=(x1-x3)*((x1.den:Rat)*x3.den):=by
  unfold iE;simp only[Rat.intCast_sub,Rat.intCast_mul,Rat.intCast_natCast,nx1,nx3];grind
 have hF:((iE y1.num y1.den y3.num y3.den:Int):Rat)=(y1-y3)*((y1.den:Rat)*y3.den):=by
  unfold iE;simp only[Rat.intCast_sub,Rat.intCast_mul,Rat.intCast_natCast,ny1,ny3];grind
 have hD:((iD x1.den y1.den x2.den y2.den:Int):Rat)=((x1.den:Rat)*x2.den*(y1.den*y2.den))*((x1.den:Rat)*x2.den*(y1.den*y2.den)):=by
  unfold iD;simp only[Rat.intCast_mul,Rat.intCast_natCast]
 have hN:((iN x1.num x1.den y1.num y1.den x2.num x2.den y2.num y2.den:Int):Rat)=far*(((x1.den:Rat)*x2.den*(y1.den*y2.den))*((x1.den:Rat)*x2.den*(y1.den*y2.den))):=by
  unfold iN;simp only[Rat.intCast_add,Rat.intCast_mul,Rat.intCast_natCast,hU,hV,hfar];grind
 have hN0:iN x1.num x1.den y1.num y1.den x2.num x2.den y2.num y2.den≠0:=by
  intro e
  rw[e] at hN
  have h1:(x1.den:Rat)*x2.den*(y1.den*y2.den)≠0:=by
   have:=Rat.mul_pos (Rat.mul_pos (q30 x1) (q30 x2)) (Rat.mul_pos (q30 y1) (q30 y2))
   grind
  have h2:far*(((x1.den:Rat)*x2.den*(y1.den*y2.den))*((x1.den:Rat)*x2.den*(y1.den*y2.den)))=0:=by rw[←hN];simp
  rcases Rat.mul_eq_zero.1 h2 with h3|h3
  ·exact hf h3
  ·rcases Rat.mul_eq_zero.1 h3 with h4|h4<;>exact h1 h4
 have hT:((iT x1.num x1.den y1.num y1.den s1.num s1.den x2.num x2.den y2.num y2.den s2.num s2.den:Int):Rat)=2*t*far*(((x1.den:Rat)*x2.den*(y1.den*y2.den))*((x1.den:Rat)*x2.den*(y1.den*y2.den)))*((s1.den:Rat)*s2.den):=by
  unfold iT;simp only[Rat.intCast_add,Rat.intCast_sub,Rat.intCast_mul,Rat.intCast_natCast,hN,hD,ns1,ns2]
  generalize ((x1.den:Rat)*x2.den*(y1.den*y2.den))*((x1.den:Rat)*x2.den*(y1.den*y2.den))=D2
  have:2*t*far*D2*((s1.den:Rat)*s2.den)=(2*far*t)*(D2*((s1.den:Rat)*s2.den)):=by grind
  rw[this,ht'];grind
 have hG:((iG x1.num x1.den y1.num y1.den x3.num x3.den y3.num y3.den:Int):Rat)=((x1-x3)*(x1-x3)+(y1-y3)*(y1-y3))*(((x1.den:Rat)*y1.den*(x3.den*y3.den))*((x1.den:Rat)*y1.den*(x3.den*y3.den))):=by
  unfold iG;simp only[Rat.intCast_add,Rat.intCast_mul,Rat.intCast_natCast,hE,hF];grind
 have hH:((iH x1.num x1.den y1.num y1.den x2.num x2.den y2.num y2.den x3.num x3.den y3.num y3.den:Int):Rat)=((x1-x3)*(x2-x1)+(y1-y3)*(y2-y1))*(((x1.den:Rat)*x1.den*(x2.den*x3.den))*((y1.den:Rat)*y1.den*(y2.den*y3.den))):=by
  unfold iH;simp only[Rat.intCast_add,Rat.intCast_mul,Rat.intCast_natCast,hE,hF,hU,hV];grind
 have hSq:((iSq x1.den y1.den x3.den y3.den:Int):Rat)=((x1.den:Rat)*y1.den*(x3.den*y3.den))*((x1.den:Rat)*y1.den*(x3.den*y3.den)):=by
  unfold iSq;simp only[Rat.intCast_mul,Rat.intCast_natCast]
 refine⟨?_,?_,?_,hN0⟩
 ·unfold iM iA
  simp only[Rat.intCast_add,Rat.intCast_sub,Rat.intCast_mul,Rat.intCast_natCast,hN,hT,hG,hH,hSq,ns1,ns3]
  have hA:kA ⟨x3,y3,s3⟩ ⟨x1+t*(x2-x1),y1+t*(y2-y1),if neg then y2-y1 else 0-(y2-y1),if neg then 0-(x2-x1) else x2-x1,h⟩=(x1-x3)*(x1-x3)+(y1-y3)*(y1-y3)+2*t*((x1-x3)*(x2-x1)+(y1-y3)*(y2-y1))+s1-s3:=by
   have e1:kA ⟨x3,y3,s3⟩ ⟨x1+t*(x2-x1),y1+t*(y2-y1),if neg then y2-y1 else 0-(y2-y1),if neg then 0-(x2-x1) else x2-x1,h⟩=(x1-x3)*(x1-x3)+(y1-y3)*(y1-y3)+2*t*((x1-x3)*(x2-x1)+(y1-y3)*(y2-y1))+far*(t*t)+far*h-s3:=by
    unfold kA
    rw[hfar]
    cases neg
    ·simp only[Bool.false_eq_true,if_false];grind
    ·simp only[if_true];grind
   rw[e1,hh'];grind
  rw[hA]
  generalize (x1-x3)*(x1-x3)+(y1-y3)*(y1-y3)=e2
  generalize (x1-x3)*(x2-x1)+(y1-y3)*(y2-y1)=ed
  generalize (x1.den:Rat)=P1
  generalize (x2.den:Rat)=P2
  generalize (x3.den:Rat)=P3
  generalize (y1.den:Rat)=Q1
  generalize (y2.den:Rat)=Q2
  generalize (y3.den:Rat)=Q3
  generalize (s1.den:Rat)=R1
  generalize (s2.den:Rat)=R2
  generalize (s3.den:Rat)=R3
  clear hU hV hE hF hD hN hN0 hT hG hH hSq nx1 nx2 nx3 ny1 ny2 ny3 ns1 ns2 ns3 px1 px2 py1 py2 hf h2f ht' hh' hc hfar
  grind
 ·unfold iQ iK kB
  simp only[Rat.intCast_sub,Rat.intCast_mul,Rat.intCast_natCast,hE,hF,hU,hV]
  cases neg
  ·simp only[Bool.false_eq_true,if_false]
   simp
   grind
  ·simp only[if_true]
   simp
   grind
 ·unfold iCd iCn
  simp only[Rat.intCast_sub,Rat.intCast_mul,Rat.intCast_natCast,hN,hT,hD,ns1]
  generalize ((x1.den:Rat)*x2.den*(y1.den*y2.den))*((x1.den:Rat)*x2.den*(y1.den*y2.den))=D2
  generalize (s1.den:Rat)=R1
  generalize (s2.den:Rat)=R2
  have e:s1=far*h+far*(t*t):=by rw[hh'];grind
  have f4:((4:Int):Rat)=4:=by simp
  rw[f4,e]
  clear hU hV hE hF hD hN hN0 hT hG hH hSq nx1 nx2 nx3 ny1 ny2 ny3 ns1 ns2 ns3 px1 px2 py1 py2 hf h2f ht' hh' hc hfar
  grind
end
end Go.Eng

namespace Go.Eng
theorem qpO{a b c:Rat}(hc:0≤c):qgh a b c≤0↔(a≤0∧(b≤0∨c=0∨b*b*c≤a*a))∨(0<a∧b<0∧a*a≤b*b*c):=by
 have hs:=qkc (a*a-b*b*c)
 have hs':(0≤sgq (a*a-b*b*c))=(b*b*c≤a*a):=by
  have h1:=qxt (a*a-b*b*c)
  have h2:=qkc (-(a*a-b*b*c))
  refine propext ⟨fun h=>?_,fun h=>?_⟩
  ·have:=h2▸(show sgq (-(a*a-b*b*c))≤0 by omega);grind
  ·have:sgq (-(a*a-b*b*c))≤0:=h2▸(show -(a*a-b*b*c)≤0 by grind)
   omega
 have bd:=qxE (a*a-b*b*c)
 have pb:0<b→0<c→0<b*b*c:=fun h1 h2=>Rat.mul_pos (Rat.mul_pos h1 h1) h2
 have pa:0<a→0<a*a:=fun h1=>Rat.mul_pos h1 h1
 have za:a=0→a*a=0:=fun h=>by rw[h];grind
 have zc:c=0→b*b*c=0:=fun h=>by rw[h];grind
 unfold qgh
 generalize hz:sgq (a*a-b*b*c)=z at *
 rcases qbI a with⟨ha,ea⟩|⟨ha,ea⟩|⟨ha,ea⟩<;>rcases qbI b with⟨hb,eb⟩|⟨hb,eb⟩|⟨hb,eb⟩<;>rcases qbI c with⟨hc',ec⟩|⟨hc',ec⟩|⟨hc',ec⟩<;>rw[ea,eb,ec]
 all_goals try (exfalso;grind)
 all_goals simp only[
  
  
  show (-1:Int)*0=0 by decide,show (-1:Int)*1=-1 by decide,show (0:Int)*0=0 by decide,show (0:Int)*1=0 by decide,show (1:Int)*0=0 by decide,show (1:Int)*1=1 by decide,Int.one_mul]
 all_goals simp
 all_goals first|(exfalso;grind)|skip
 all_goals grind
theorem qpN{a b:Rat}(h0:0≤a)(h:a≤b):a*a≤b*b:=by
 have:=Rat.mul_nonneg (show 0≤b-a by grind) (show 0≤b+a by grind)
 grind
theorem quw{a b:Rat}(hb:0≤b)(h:a*a≤b*b):a≤b:=by
 apply Rat.not_lt.1
 intro hn
 have:=Rat.mul_pos (show 0<a-b by grind) (show 0<a+b by grind)
 grind
theorem qw7{a b c T0 T1:Rat}(h0:0≤T0)(h1:T0≤T1)(k0:T0*T0≤c)(k1:c≤T1*T1)(e0:a+b*T0≤0)(e1:a+b*T1≤0):qgh a b c≤0:=by
 have hc:0≤c:=by have:=Rat.mul_nonneg h0 h0;grind
 rw[qpO hc]
 by_cases hb:b≤0
 ·by_cases ha:a≤0
  ·exact .inl ⟨ha,.inl hb⟩
  ·have hb':b<0:=by
    apply Rat.not_le.1;intro hn
    have h:b=0:=by grind
    rw[h] at e0;grind
   refine .inr ⟨by grind,hb',?_⟩
   have h1:=qpN (a:=a) (b:=(-b)*T0) (by grind) (by grind)
   have h2:=Rat.mul_le_mul_of_nonneg_left k0 (show 0≤b*b by have:=Rat.mul_nonneg (show 0≤-b by grind) (show 0≤-b by grind);grind)
   grind
 ·have hb':0≤b:=by grind
  have h3:=Rat.mul_nonneg hb' h0
  refine .inl ⟨by grind,.inr (.inr ?_)⟩
  have h3:=Rat.mul_nonneg hb' (show 0≤T1 by grind)
  have h1:=qpN (a:=b*T1) (b:=-a) h3 (by grind)
  have h2:=Rat.mul_le_mul_of_nonneg_left k1 (Rat.mul_nonneg hb' hb')
  grind
theorem qx3{a b c:Rat}(hc:0≤c)(h:qgh a b c≤0):∃T,0≤T∧T*T≤c∧∀S,T≤S→S*S≤c→a+b*S≤0:=by
 rw[qpO hc] at h
 by_cases hb:b<0
 ·by_cases ha:a≤0
  ·refine⟨0,by grind,by grind,fun S h1 h2=>?_⟩
   have:=Rat.mul_nonneg (show 0≤-b by grind) h1
   grind
  ·rcases h with h|⟨h1,h2,h3⟩
   ·exact absurd h.1 ha
   ·have hq:a/(-b)*(-b)=a:=Rat.div_mul_cancel (by grind)
    have hq0:0≤a/(-b):=by
     apply Rat.not_lt.1;intro hn
     have:=Rat.mul_pos (show 0 < -(a/(-b)) by grind) (show 0 < -b by grind)
     grind
    generalize a/(-b)=T at *
    refine⟨T,hq0,?_,fun S hS _=>?_⟩
    ·apply Rat.not_lt.1;intro hn
     have:=Rat.mul_pos (show 0<T*T-c by grind) (Rat.mul_pos (show 0 < -b by grind) (show 0 < -b by grind))
     have e:a*a=T*T*(b*b):=by rw[←hq];grind
     rw[e] at h3;clear e hq;grind
    ·have:=Rat.mul_nonneg (show 0≤-b by grind) (show 0≤S-T by grind)
     grind
 ·refine⟨0,by grind,by grind,fun S h1 h2=>?_⟩
  rcases h with⟨h3,h4⟩|⟨_,h5,_⟩
  ·rcases h4 with h4|h4|h4
   ·have:b=0:=by grind
    rw[this];grind
   ·have:S*S≤0:=by grind
    have h6:=quw (a:=S) (b:=0) (by grind) (by grind)
    have:S=0:=by grind
    rw[this];grind
   ·have k1:=Rat.mul_le_mul_of_nonneg_left h2 (Rat.mul_nonneg (show 0≤b by grind) (show 0≤b by grind))
    have:=quw (a:=b*S) (b:=-a) (by grind) (by grind)
    grind
  ·exact absurd h5 hb
def pw(d:DQ)(x y:Rat):Rat:=(x-d.x)*(x-d.x)+(y-d.y)*(y-d.y)-d.s
def qzv(l:List DQ):Prop:=∃x y:Rat,∀d∈l,pw d x y≤0
theorem qzv.mono{l l':List DQ}(h:qzv l)(hs:∀d∈l',d∈l):qzv l':=by
 obtain⟨x,y,h⟩:=h
 exact⟨x,y,fun d hd=>h d (hs d hd)⟩
theorem qyw(d:DQ)(p:SQ)(T:Rat):pw d (p.fx+T*p.ax) (p.fy+T*p.ay)=kA d p+kB d p*T+(p.ax*p.ax+p.ay*p.ay)*(T*T-p.h):=by
 unfold pw kA kB;grind
theorem qjO(a:Rat):0≤a*a:=by
 rcases Rat.le_total (a:=0) (b:=a) with h|h
 ·exact Rat.mul_nonneg h h
 ·have:=Rat.mul_nonneg (show 0≤-a by grind) (show 0≤-a by grind);grind
theorem qpr(p:SQ)(hn:0≤p.h):∀l:List DQ,(∀d∈l,q1n d p)→∃T,0≤T∧T*T≤p.h∧∀d∈l,∀S,T≤S→S*S≤p.h→kA d p+kB d p*S≤0
 | [],_=>⟨0,by grind,by grind,fun d hd=>by cases hd⟩
 | a::l,h=>by
  obtain⟨T,h1,h2,h3⟩:=qpr p hn l fun d hd=>h d (List.mem_cons_of_mem _ hd)
  obtain⟨T',k1,k2,k3⟩:=qx3 hn (h a List.mem_cons_self)
  rcases Rat.le_total (a:=T) (b:=T') with hT|hT
  ·refine⟨T',k1,k2,fun d hd S hS hS2=>?_⟩
   rcases List.mem_cons.1 hd with rfl|hd
   ·exact k3 S hS hS2
   ·exact h3 d hd S (Rat.le_trans hT hS) hS2
  ·refine⟨T,h1,h2,fun d hd S hS hS2=>?_⟩
   rcases List.mem_cons.1 hd with rfl|hd
   ·exact k3 S (Rat.le_trans hT hS) hS2
   ·exact h3 d hd S hS hS2
theorem qqK{l:List DQ}{p:SQ}(hn:0≤p.h)(h:∀d∈l,q1n d p):qzv l:=by
 obtain⟨T,h1,h2,h3⟩:=qpr p hn l h
 refine⟨p.fx+T*p.ax,p.fy+T*p.ay,fun d hd=>?_⟩
 rw[qyw]
 have k1:=h3 d hd T (Rat.le_refl) h2
 have k2:=Rat.mul_nonneg (show 0≤p.ax*p.ax+p.ay*p.ay by have:=qjO p.ax;have:=qjO p.ay;grind) (show 0≤p.h-T*T by grind)
 grind
def qCq(x1 y1 x2 y2 x3 y3:Rat):Rat:=(x2-x1)*(y3-y1)-(x3-x1)*(y2-y1)
end Go.Eng

namespace Go.Eng
theorem qrn{ι:Type}(f:ι→Rat):∀(L:List ι),L≠[]→∃a∈L,∀k∈L,f k≤f a
 | [],h=>absurd rfl h
 | [a],_=>⟨a,by simp,fun k hk=>by simp at hk;rw[hk];exact Rat.le_refl⟩
 | a::b::r,_=>by
  obtain⟨m,hm,h⟩:=qrn f (b::r) (by simp)
  rcases Rat.le_total (a:=f a) (b:=f m) with hle|hle
  ·refine⟨m,List.mem_cons_of_mem _ hm,fun k hk=>?_⟩
   rcases List.mem_cons.1 hk with rfl|hk
   ·exact hle
   ·exact h k hk
  ·refine⟨a,List.mem_cons_self,fun k hk=>?_⟩
   rcases List.mem_cons.1 hk with rfl|hk
   ·exact Rat.le_refl
   ·exact Rat.le_trans (h k hk) hle
theorem hit{ι:Type}(al be:ι→Rat):∀(L:List ι),(∀k∈L,al k≤0)→(∃k∈L,0<be k)→∃t,0≤t∧(∀k∈L,al k+be k*t≤0)∧∃b∈L,0<be b∧al b+be b*t=0
 | [],_,h=>by obtain⟨k,hk,_⟩:=h;cases hk
 | a::L,h0,h1=>by
  have hLn:∀k∈L,al k≤0:=fun k hk=>h0 k (List.mem_cons_of_mem _ hk)
  have ha0:=h0 a List.mem_cons_self
  by_cases ha:0<be a
  ·obtain⟨ta,hta⟩:∃ta,ta=-al a/be a:=⟨_,rfl⟩
   have eta:ta*be a=-al a:=by rw[hta];exact Rat.div_mul_cancel (by grind)
   have ta0:0≤ta:=by
    apply Rat.not_lt.1;intro hn
    have:=Rat.mul_pos (show 0 < -ta by grind) ha
    grind
   have own:al a+be a*ta=0:=by grind
   by_cases hL:∃k∈L,0<be k
   ·obtain⟨t,k1,k2,b,hb,k3,k4⟩:=hit al be L hLn hL
    rcases Rat.le_total (a:=t) (b:=ta) with hle|hle
    ·refine⟨t,k1,fun k hk=>?_,b,List.mem_cons_of_mem _ hb,k3,k4⟩
     rcases List.mem_cons.1 hk with rfl|hk
     ·have:=Rat.mul_nonneg (show 0≤be k by grind) (show 0≤ta-t by grind);grind
     ·exact k2 k hk
    ·refine⟨ta,ta0,fun k hk=>?_,a,List.mem_cons_self,ha,own⟩
     rcases List.mem_cons.1 hk with rfl|hk
     ·grind
     ·rcases Rat.le_total (a:=0) (b:=be k) with hb|hb
      ·have:=Rat.mul_nonneg hb (show 0≤t-ta by grind);have:=k2 k hk;grind
      ·have:=Rat.mul_nonneg (show 0≤-be k by grind) ta0;have:=hLn k hk;grind
   ·refine⟨ta,ta0,fun k hk=>?_,a,List.mem_cons_self,ha,own⟩
    rcases List.mem_cons.1 hk with rfl|hk
    ·grind
    ·have hb:be k≤0:=Rat.not_lt.1 fun hn=>hL ⟨k,hk,hn⟩
     have:=Rat.mul_nonneg (show 0≤-be k by grind) ta0;have:=hLn k hk;grind
  ·have hL:∃k∈L,0<be k:=by
    obtain⟨k,hk,h⟩:=h1
    rcases List.mem_cons.1 hk with rfl|hk
    ·exact absurd h ha
    ·exact⟨k,hk,h⟩
   obtain⟨t,k1,k2,b,hb,k3,k4⟩:=hit al be L hLn hL
   refine⟨t,k1,fun k hk=>?_,b,List.mem_cons_of_mem _ hb,k3,k4⟩
   rcases List.mem_cons.1 hk with rfl|hk
   ·have:=Rat.mul_nonneg (show 0≤-be k by grind) k1;grind
   ·exact k2 k hk
theorem qqI{a:Rat}(h:a*a≤0):a=0:=by
 have:=qjO a
 rcases Rat.mul_eq_zero.1 (show a*a=0 by grind) with h|h<;>exact h
theorem qlF{a b c d:Rat}(h:q4V a b c d=0):a=c∧b=d:=by
 unfold q4V at h
 have s1:=qjO (a-c)
 have s2:=qjO (b-d)
 have:=qqI (a:=a-c) (by grind)
 have:=qqI (a:=b-d) (by grind)
 exact⟨by grind,by grind⟩
theorem qwV(a b c d:Rat):0≤q4V a b c d:=by
 unfold q4V
 have s1:=qjO (a-c)
 have s2:=qjO (b-d)
 grind
theorem qAB{l:List DQ}{x y:Rat}(hl:l≠[])(hs:∀d∈l,0≤d.s)(h:∀d∈l,pw d x y≤0) :
  (∃a∈l,∀d∈l,pw d a.x a.y≤0)∨∃a∈l,∃b∈l,∃X Y,q4V b.x b.y a.x a.y≠0∧pw b X Y=pw a X Y∧(∀d∈l,pw d X Y≤pw a X Y)∧pw a X Y≤0:=by
 obtain⟨a,ha,hmax⟩:=qrn (fun d=>pw d x y) l hl
 by_cases hc:∀d∈l,pw d a.x a.y≤0
 ·exact .inl ⟨a,ha,hc⟩
 ·have hex:∃k∈l,0<pw k a.x a.y:=by
   by_cases hn:∃k∈l,0<pw k a.x a.y
   ·exact hn
   ·exact absurd (fun d hd=>Rat.not_lt.1 fun h0=>hn ⟨d,hd,h0⟩) hc
  obtain⟨k0,hk0,hp⟩:=hex
  have hsa:=hs a ha
  have paa:pw a a.x a.y=-a.s:=by unfold pw;grind
  obtain⟨al,hal⟩:∃al:DQ→Rat,al=fun k=>pw k x y-pw a x y:=⟨_,rfl⟩
  obtain⟨be,hbe⟩:∃be:DQ→Rat,be=fun k=>pw k a.x a.y-pw a a.x a.y-(pw k x y-pw a x y):=⟨_,rfl⟩
  have al0:∀k∈l,al k≤0:=fun k hk=>by rw[hal];have:=hmax k hk;simp only at this ⊢;grind
  have be0:al k0+be k0>0:=by rw[hal,hbe];simp only;grind
  obtain⟨t,t0,ht,b,hb,hb1,hb2⟩:=hit al be l al0 ⟨k0,hk0,by have:=al0 k0 hk0;grind⟩
  have line:∀k,pw k (x+t*(a.x-x)) (y+t*(a.y-y))-pw a (x+t*(a.x-x)) (y+t*(a.y-y))=al k+be k*t:=fun k=>by
   rw[hal,hbe];simp only;unfold pw;grind
  have t1:t≤1:=by
   apply Rat.not_lt.1;intro hn
   have h1:=ht k0 hk0
   have h2:=al0 k0 hk0
   have:=Rat.mul_pos (show 0<be k0 by grind) (show 0<t-1 by grind)
   grind
  refine .inr ⟨a,ha,b,hb,x+t*(a.x-x),y+t*(a.y-y),fun hf=>?_,?_,fun d hd=>?_,?_⟩
  ·obtain⟨e1,e2⟩:=qlF hf
   have:be b=0:=by rw[hbe];simp only;unfold pw;rw[e1,e2];grind
   grind
  ·have:=line b;grind
  ·have:=line d;have:=ht d hd;grind
  ·have h1:=h a ha
   have e:pw a (x+t*(a.x-x)) (y+t*(a.y-y))=(1-t)*(1-t)*((x-a.x)*(x-a.x)+(y-a.y)*(y-a.y))-a.s:=by unfold pw;grind
   have q:0≤(x-a.x)*(x-a.x)+(y-a.y)*(y-a.y):=by have:=qjO (x-a.x);have:=qjO (y-a.y);grind
   have m:=qpN (a:=1-t) (b:=1) (by grind) (by grind)
   have:=Rat.mul_nonneg (show 0≤1-(1-t)*(1-t) by grind) q
   rw[e]
   have:pw a x y=(x-a.x)*(x-a.x)+(y-a.y)*(y-a.y)-a.s:=rfl
   grind
theorem qnl{a b:DQ}(neg:Bool)(hf:q4V b.x b.y a.x a.y≠0) :
  (ql a b neg).ax*(ql a b neg).ax+(ql a b neg).ay*(ql a b neg).ay=q4V b.x b.y a.x a.y ∧
  (ql a b neg).ax*(b.x-a.x)+(ql a b neg).ay*(b.y-a.y)=0 ∧
  (ql a b neg).ax*((ql a b neg).fx-a.x)+(ql a b neg).ay*((ql a b neg).fy-a.y)=0 ∧
  2*(((ql a b neg).fx-a.x)*(b.x-a.x)+((ql a b neg).fy-a.y)*(b.y-a.y))=q4V b.x b.y a.x a.y+a.s-b.s ∧
  kA a (ql a b neg)=0∧kB a (ql a b neg)=0∧kA b (ql a b neg)=0∧kB b (ql a b neg)=0:=by
 obtain⟨far,hfar⟩:∃far,far=q4V b.x b.y a.x a.y:=⟨_,rfl⟩
 obtain⟨t,ht⟩:∃t,t=(far+a.s-b.s)/(2*far):=⟨_,rfl⟩
 obtain⟨h,hh⟩:∃h,h=a.s/far-t*t:=⟨_,rfl⟩
 rw[←hfar] at hf
 have h2f:2*far≠0:=by grind
 have ht':2*far*t=far+a.s-b.s:=by
  rw[ht,Rat.mul_comm];exact Rat.div_mul_cancel h2f
 have hh':far*h=a.s-far*(t*t):=by
  have:a.s/far*far=a.s:=Rat.div_mul_cancel hf
  rw[hh];grind
 have hc:ql a b neg=⟨a.x+t*(b.x-a.x),a.y+t*(b.y-a.y),if neg then b.y-a.y else 0-(b.y-a.y),if neg then 0-(b.x-a.x) else b.x-a.x,h⟩:=by
  rw[hh,ht,hfar];rfl
 have hfar':far=(b.x-a.x)*(b.x-a.x)+(b.y-a.y)*(b.y-a.y):=hfar
 rw[hc,←hfar]
 unfold kA kB
 clear hc hfar ht hh
 cases neg
 ·simp only[Bool.false_eq_true,if_false]
  refine⟨by grind,by grind,by grind,by grind,by grind,by grind,by grind,by grind⟩
 ·simp only[if_true]
  refine⟨by grind,by grind,by grind,by grind,by grind,by grind,by grind,by grind⟩
theorem qvC(a b:DQ):(ql a b true).ax=-(ql a b false).ax∧(ql a b true).ay=-(ql a b false).ay:=by
 unfold ql
 simp only[Bool.false_eq_true,if_false,if_true]
 exact⟨by grind,by grind⟩
theorem qrk{l:List DQ}{a b:DQ}{x y:Rat}(neg:Bool)(hf:q4V b.x b.y a.x a.y≠0)(hab:pw b x y=pw a x y)(hm:∀d∈l,pw d x y≤pw a x y)(h0:pw a x y≤0)
  (hv:0≤(ql a b neg).ax*(x-a.x)+(ql a b neg).ay*(y-a.y)) :
  (0≤(ql a b neg).h∧∀d∈l,q1n d (ql a b neg)) ∨
  ∃t k,0≤t∧k∈l∧(ql a b neg).ax*(k.x-a.x)+(ql a b neg).ay*(k.y-a.y)<0∧pw k (x+t*(ql a b neg).ax) (y+t*(ql a b neg).ay)=pw a (x+t*(ql a b neg).ax) (y+t*(ql a b neg).ay) ∧
   pw b (x+t*(ql a b neg).ax) (y+t*(ql a b neg).ay)=pw a (x+t*(ql a b neg).ax) (y+t*(ql a b neg).ay)∧(∀d∈l,pw d (x+t*(ql a b neg).ax) (y+t*(ql a b neg).ay)≤pw a (x+t*(ql a b neg).ax) (y+t*(ql a b neg).ay)) ∧
   pw a (x+t*(ql a b neg).ax) (y+t*(ql a b neg).ay)≤0:=by
 obtain⟨f1,f2,f3,f4,f5,f6,f7,f8⟩:=qnl neg hf
 have hpos:0<q4V b.x b.y a.x a.y:=by have:=qwV b.x b.y a.x a.y;grind
 have hfd:q4V b.x b.y a.x a.y=(b.x-a.x)*(b.x-a.x)+(b.y-a.y)*(b.y-a.y):=rfl
 have hax:(ql a b neg).ax=if neg then b.y-a.y else 0-(b.y-a.y):=rfl
 have hay:(ql a b neg).ay=if neg then 0-(b.x-a.x) else b.x-a.x:=rfl
 generalize ql a b neg=p at *
 generalize q4V b.x b.y a.x a.y=far at *
 obtain⟨T0,hT0⟩:∃T0,T0=(p.ax*(x-p.fx)+p.ay*(y-p.fy))/far:=⟨_,rfl⟩
 have eT0:T0*far=p.ax*(x-p.fx)+p.ay*(y-p.fy):=by rw[hT0];exact Rat.div_mul_cancel hf
 have hp:(x-p.fx)*(b.x-a.x)+(y-p.fy)*(b.y-a.y)=0:=by
  unfold pw at hab;grind
 have cancel:∀z:Rat,z*far=0→z=0:=fun z hz=>by
  rcases Rat.mul_eq_zero.1 hz with h|h
  ·exact h
  ·exact absurd h hf
 have ex:x=p.fx+T0*p.ax:=by
  have:x-p.fx-T0*p.ax=0:=cancel _ (by
   have e:(x-p.fx-T0*p.ax)*far=(x-p.fx)*far-p.ax*(T0*far):=by grind
   rw[e,eT0,hfd]
   cases neg
   ·simp only[Bool.false_eq_true,if_false] at hax hay;rw[hax,hay];clear hax hay eT0 hT0 f1 f2 f3 f4 f5 f6 f7 f8 hv hab;grind
   ·simp only[if_true] at hax hay;rw[hax,hay];clear hax hay eT0 hT0 f1 f2 f3 f4 f5 f6 f7 f8 hv hab;grind)
  grind
 have ey:y=p.fy+T0*p.ay:=by
  have:y-p.fy-T0*p.ay=0:=cancel _ (by
   have e:(y-p.fy-T0*p.ay)*far=(y-p.fy)*far-p.ay*(T0*far):=by grind
   rw[e,eT0,hfd]
   cases neg
   ·simp only[Bool.false_eq_true,if_false] at hax hay;rw[hax,hay];clear hax hay eT0 hT0 f1 f2 f3 f4 f5 f6 f7 f8 hv hab ex;grind
   ·simp only[if_true] at hax hay;rw[hax,hay];clear hax hay eT0 hT0 f1 f2 f3 f4 f5 f6 f7 f8 hv hab ex;grind)
  grind
 have T0n:0≤T0:=by
  apply Rat.not_lt.1;intro hn
  have:=Rat.mul_pos (show 0 < -T0 by grind) hpos
  grind
 have line:∀d T,pw d (p.fx+T*p.ax) (p.fy+T*p.ay)=kA d p+kB d p*T+far*(T*T-p.h):=fun d T=>by rw[qyw,f1]
 have lineA:∀T,pw a (p.fx+T*p.ax) (p.fy+T*p.ay)=far*(T*T-p.h):=fun T=>by rw[line,f5,f6];grind
 have lineB:∀T,pw b (p.fx+T*p.ax) (p.fy+T*p.ay)=far*(T*T-p.h):=fun T=>by rw[line,f7,f8];grind
 have at0:∀d∈l,kA d p+kB d p*T0≤0:=fun d hd=>by
  have:=hm d hd
  rw[ex,ey,line,lineA] at this
  grind
 have hT:T0*T0≤p.h:=by
  rw[ex,ey,lineA] at h0
  apply Rat.not_lt.1;intro hn
  have:=Rat.mul_pos hpos (show 0<T0*T0-p.h by grind)
  grind
 have hn:0≤p.h:=by have:=qjO T0;grind
 have kb:∀d:DQ,kB d p=-(2*(p.ax*(d.x-a.x)+p.ay*(d.y-a.y))):=fun d=>by unfold kB;grind
 have all:∀T1,T0≤T1→p.h≤T1*T1→(∀d∈l,kA d p+kB d p*T1≤0)→0≤p.h∧∀d∈l,q1n d p:=fun T1 h1 h2 h3=>
  ⟨hn,fun d hd=>qw7 T0n h1 hT h2 (at0 d hd) (h3 d hd)⟩
 by_cases hk:∃k∈l,0<kB k p
 ·obtain⟨t,t0,ht,k,hk,hk1,hk2⟩:=hit (fun d=>kA d p+kB d p*T0) (fun d=>kB d p) l at0 hk
  by_cases hle:(T0+t)*(T0+t)≤p.h
  ·have eX:x+t*p.ax=p.fx+(T0+t)*p.ax:=by grind
   have eY:y+t*p.ay=p.fy+(T0+t)*p.ay:=by grind
   refine .inr ⟨t,k,t0,hk,?_,?_,?_,fun d hd=>?_,?_⟩
   ·rw[kb] at hk1;grind
   ·rw[eX,eY,line,lineA];grind
   ·rw[eX,eY,lineA,lineB]
   ·rw[eX,eY,line,lineA];have:=ht d hd;grind
   ·rw[eX,eY,lineA]
    have:=Rat.mul_nonneg (show 0≤far by grind) (show 0≤p.h-(T0+t)*(T0+t) by grind);grind
  ·exact .inl (all (T0+t) (by grind) (by grind) fun d hd=>by have:=ht d hd;grind)
 ·refine .inl (all (T0+p.h+1) (by grind) ?_ fun d hd=>?_)
  ·have:=qpN (a:=p.h+1) (b:=T0+p.h+1) (by grind) (by grind)
   have:=Rat.mul_nonneg hn hn
   grind
  ·have h1:kB d p≤0:=Rat.not_lt.1 fun h=>hk ⟨d,hd,h⟩
   have:=Rat.mul_nonneg (show 0≤-kB d p by grind) (show 0≤p.h+1 by grind)
   have:=at0 d hd
   grind
def Vx(l:List DQ)(x y:Rat)(t:DQ×DQ×DQ):Prop:=
 qCq t.1.x t.1.y t.2.1.x t.2.1.y t.2.2.x t.2.2.y≠0∧pw t.2.1 x y=pw t.1 x y∧pw t.2.2 x y=pw t.1 x y∧(∀d∈l,pw d x y≤pw t.1 x y)∧pw t.1 x y≤0
theorem qB0{l:List DQ}{x y x' y':Rat}{t:DQ×DQ×DQ}(h:Vx l x y t)(h':Vx l x' y' t):x=x'∧y=y':=by
 obtain⟨a,b,c⟩:=t
 obtain⟨hA,h1,h2,-,-⟩:=h
 obtain⟨-,h1',h2',-,-⟩:=h'
 unfold pw qCq at *
 simp only at *
 have e1:(x-x')*(b.x-a.x)+(y-y')*(b.y-a.y)=0:=by grind
 have e2:(x-x')*(c.x-a.x)+(y-y')*(c.y-a.y)=0:=by grind
 generalize b.x-a.x=p at *
 generalize b.y-a.y=q at *
 generalize c.x-a.x=r at *
 generalize c.y-a.y=s at *
 have k1:(x-x')*(p*s-r*q)=0:=by clear h1 h2 h1' h2' hA;grind
 have k2:(y-y')*(p*s-r*q)=0:=by clear h1 h2 h1' h2' hA;grind
 constructor
 ·rcases Rat.mul_eq_zero.1 k1 with h|h
  ·grind
  ·exact absurd h hA
 ·rcases Rat.mul_eq_zero.1 k2 with h|h
  ·grind
  ·exact absurd h hA
theorem qyG(l:List DQ):∀L:List (DQ×DQ×DQ),(∃t∈L,∃x y,Vx l x y t)→∃t∈L,∃x y,Vx l x y t∧∀t'∈L,∀x' y',Vx l x' y' t'→pw t'.1 x' y'≤pw t.1 x y
 | [],h=>by obtain⟨t,ht,_⟩:=h;cases ht
 | s::L,h=>by
  by_cases hs:∃x y,Vx l x y s
  ·obtain⟨x,y,hs⟩:=hs
   have own:∀x' y',Vx l x' y' s→pw s.1 x' y'≤pw s.1 x y:=fun x' y' h'=>by
    obtain⟨rfl,rfl⟩:=qB0 h' hs;exact Rat.le_refl
   by_cases hL:∃t∈L,∃x y,Vx l x y t
   ·obtain⟨t,ht,u,v,hv,hmax⟩:=qyG l L hL
    rcases Rat.le_total (a:=pw s.1 x y) (b:=pw t.1 u v) with hle|hle
    ·refine⟨t,List.mem_cons_of_mem _ ht,u,v,hv,fun t' ht' x' y' h'=>?_⟩
     rcases List.mem_cons.1 ht' with rfl|ht'
     ·exact Rat.le_trans (own x' y' h') hle
     ·exact hmax t' ht' x' y' h'
    ·refine⟨s,List.mem_cons_self,x,y,hs,fun t' ht' x' y' h'=>?_⟩
     rcases List.mem_cons.1 ht' with rfl|ht'
     ·exact own x' y' h'
     ·exact Rat.le_trans (hmax t' ht' x' y' h') hle
   ·refine⟨s,List.mem_cons_self,x,y,hs,fun t' ht' x' y' h'=>?_⟩
    rcases List.mem_cons.1 ht' with rfl|ht'
    ·exact own x' y' h'
    ·exact absurd ⟨t',ht',x',y',h'⟩ hL
  ·have hL:∃t∈L,∃x y,Vx l x y t:=by
    obtain⟨t,ht,h⟩:=h
    rcases List.mem_cons.1 ht with rfl|ht
    ·exact absurd h hs
    ·exact⟨t,ht,h⟩
   obtain⟨t,ht,u,v,hv,hmax⟩:=qyG l L hL
   refine⟨t,List.mem_cons_of_mem _ ht,u,v,hv,fun t' ht' x' y' h'=>?_⟩
   rcases List.mem_cons.1 ht' with rfl|ht'
   ·exact absurd ⟨x',y',h'⟩ hs
   ·exact hmax t' ht' x' y' h'
theorem qwW{l:List DQ}{x y:Rat}{t:DQ×DQ×DQ}(ht:t.1∈l∧t.2.1∈l∧t.2.2∈l)(hv:Vx l x y t) :
  ∃a∈l,∃b∈l,∃neg,q4V b.x b.y a.x a.y≠0∧pw a x y=pw t.1 x y∧pw b x y=pw a x y∧0≤(ql a b neg).ax*(x-a.x)+(ql a b neg).ay*(y-a.y) ∧
   ∀k∈l,pw k x y=pw a x y→0≤(ql a b neg).ax*(k.x-a.x)+(ql a b neg).ay*(k.y-a.y):=by
 obtain⟨a0,b0,c0⟩:=t
 obtain⟨hA,h1,h2,h3,h4⟩:=hv
 simp only at *
 obtain⟨I,hI⟩:∃I,I=l.filter fun k=>decide (pw k x y=pw a0 x y):=⟨_,rfl⟩
 have memI:∀k,k∈I↔k∈l∧pw k x y=pw a0 x y:=fun k=>by rw[hI];simp
 have ia:a0∈I:=(memI _).2 ⟨ht.1,rfl⟩
 have ib:b0∈I:=(memI _).2 ⟨ht.2.1,h1⟩
 have ic:c0∈I:=(memI _).2 ⟨ht.2.2,h2⟩
 obtain⟨a,haI,hmax⟩:=qrn (fun k:DQ=>q4V k.x k.y x y) I (by intro h;rw[h] at ia;cases ia)
 obtain⟨hal,hap⟩:=(memI a).1 haI
 obtain⟨D,hD⟩:∃D:DQ→Rat,D=fun k=>(x-a.x)*(k.x-a.x)+(y-a.y)*(k.y-a.y):=⟨_,rfl⟩
 obtain⟨X,hX⟩:∃X:DQ→Rat,X=fun k=>(x-a.x)*(k.y-a.y)-(y-a.y)*(k.x-a.x):=⟨_,rfl⟩
 obtain⟨J,hJ⟩:∃J,J=I.filter fun k=>decide (q4V k.x k.y a.x a.y≠0):=⟨_,rfl⟩
 have memJ:∀k,k∈J↔k∈I∧q4V k.x k.y a.x a.y≠0:=fun k=>by rw[hJ];simp
 have hDp:∀k∈J,0<D k:=fun k hk=>by
  obtain⟨hk1,hk2⟩:=(memJ k).1 hk
  have e1:=hmax k hk1
  have e2:=qwV k.x k.y a.x a.y
  rw[hD]
  simp only at e1 ⊢
  unfold q4V at e1 e2 hk2
  grind
 have hJn:J≠[]:=by
  intro hJ0
  have all:∀k∈I,k.x=a.x∧k.y=a.y:=fun k hk=>by
   by_cases hz:q4V k.x k.y a.x a.y=0
   ·exact qlF hz
   ·have:=(memJ k).2 ⟨hk,hz⟩
    rw[hJ0] at this;cases this
  obtain⟨p1,q1⟩:=all a0 ia
  obtain⟨p2,q2⟩:=all b0 ib
  obtain⟨p3,q3⟩:=all c0 ic
  apply hA
  unfold qCq
  rw[p1,p2,p3,q1,q2,q3];grind
 have slope:∀k b:DQ,0<D k→0<D b→X k/D k≤X b/D b→X k*D b≤X b*D k:=fun k b k0 b0 h=>by
  have e1:X k/D k*D k=X k:=Rat.div_mul_cancel (by grind)
  have e2:X b/D b*D b=X b:=Rat.div_mul_cancel (by grind)
  generalize X k/D k=u at *
  generalize X b/D b=v at *
  have:=Rat.mul_nonneg (show 0≤v-u by grind) (Rat.mul_nonneg (show 0≤D k by grind) (show 0≤D b by grind))
  rw[←e1,←e2];grind
 have lag:∀k b:DQ,((x-a.x)*(x-a.x)+(y-a.y)*(y-a.y))*((k.x-a.x)*(b.y-a.y)-(k.y-a.y)*(b.x-a.x))=D k*X b-X k*D b:=fun k b=>by
  rw[hD,hX];simp only;grind
 have upos:∀b,0<D b→0<(x-a.x)*(x-a.x)+(y-a.y)*(y-a.y):=fun b hb=>by
  apply Rat.not_le.1;intro hn
  have s1:=qjO (x-a.x)
  have s2:=qjO (y-a.y)
  have z1:=qqI (a:=x-a.x) (by grind)
  have z2:=qqI (a:=y-a.y) (by grind)
  rw[hD] at hb;simp only at hb;rw[z1,z2] at hb;grind
 obtain⟨b,hb,hbm⟩:=qrn (fun k=>X k/D k) J hJn
 have hbD:=hDp b hb
 obtain⟨hbI,hbf⟩:=(memJ b).1 hb
 obtain⟨hbl,hbp⟩:=(memI b).1 hbI
 have onI:∀k∈l,pw k x y=pw a x y→k∈I:=fun k hk e=>(memI k).2 ⟨hk,by rw[e,hap]⟩
 by_cases hXb:0≤X b
 ·refine⟨a,hal,b,hbl,true,hbf,hap,by rw[hbp,hap],?_,fun k hk hkp=>?_⟩
  ·have e:(ql a b true).ax*(x-a.x)+(ql a b true).ay*(y-a.y)=X b:=by
    rw[hX];unfold ql;simp only[if_true];grind
   rw[e];exact hXb
  ·have e:(ql a b true).ax*(k.x-a.x)+(ql a b true).ay*(k.y-a.y)=(k.x-a.x)*(b.y-a.y)-(k.y-a.y)*(b.x-a.x):=by
    unfold ql;simp only[if_true];grind
   rw[e]
   by_cases hz:q4V k.x k.y a.x a.y=0
   ·obtain⟨z1,z2⟩:=qlF hz
    rw[z1,z2];grind
   ·have hkJ:=(memJ k).2 ⟨onI k hk hkp,hz⟩
    have s:=slope k b (hDp k hkJ) hbD (hbm k hkJ)
    have g:=lag k b
    apply Rat.not_lt.1;intro hn
    have:=Rat.mul_pos (upos b hbD) (show 0 < -((k.x-a.x)*(b.y-a.y)-(k.y-a.y)*(b.x-a.x)) by grind)
    grind
 ·obtain⟨c,hc,hcm⟩:=qrn (fun k=>-(X k/D k)) J hJn
  have hcD:=hDp c hc
  obtain⟨hcI,hcf⟩:=(memJ c).1 hc
  obtain⟨hcl,hcp⟩:=(memI c).1 hcI
  have hXc:X c<0:=by
   have s:=slope c b hcD hbD (hbm c hc)
   apply Rat.not_le.1;intro hn
   have m1:=Rat.mul_nonneg hn (show 0≤D b by grind)
   have m2:=Rat.mul_pos (show 0 < -X b by grind) hcD
   grind
  refine⟨a,hal,c,hcl,false,hcf,hap,by rw[hcp,hap],?_,fun k hk hkp=>?_⟩
  ·have e:(ql a c false).ax*(x-a.x)+(ql a c false).ay*(y-a.y)=-X c:=by
    rw[hX];unfold ql;simp only[Bool.false_eq_true,if_false];grind
   rw[e];grind
  ·have e:(ql a c false).ax*(k.x-a.x)+(ql a c false).ay*(k.y-a.y)=-((k.x-a.x)*(c.y-a.y)-(k.y-a.y)*(c.x-a.x)):=by
    unfold ql;simp only[Bool.false_eq_true,if_false];grind
   rw[e]
   by_cases hz:q4V k.x k.y a.x a.y=0
   ·obtain⟨z1,z2⟩:=qlF hz
    rw[z1,z2];grind
   ·have hkJ:=(memJ k).2 ⟨onI k hk hkp,hz⟩
    have hle:=hcm k hkJ
    have s:=slope c k hcD (hDp k hkJ) (by grind)
    have g:=lag k c
    apply Rat.not_lt.1;intro hn
    have:=Rat.mul_pos (upos c hcD) (show 0<(k.x-a.x)*(c.y-a.y)-(k.y-a.y)*(c.x-a.x) by grind)
    grind
theorem qzc{l:List DQ}(hl:l≠[])(hs:∀d∈l,0≤d.s)(hm:qzv l) :
  (∃a∈l,∀d∈l,pw d a.x a.y≤0)∨∃a∈l,∃b∈l,∃neg,q4V b.x b.y a.x a.y≠0∧0≤(ql a b neg).h∧∀d∈l,q1n d (ql a b neg):=by
 obtain⟨x,y,hxy⟩:=hm
 rcases qAB hl hs hxy with h|⟨a,ha,b,hb,X,Y,hf,hab,hmx,h0⟩
 ·exact .inl h
 ·right
  have vtx:∀{a b k:DQ} {neg:Bool} {X Y:Rat},(ql a b neg).ax*(k.x-a.x)+(ql a b neg).ay*(k.y-a.y)<0→pw k X Y=pw a X Y→pw b X Y=pw a X Y→(∀d∈l,pw d X Y≤pw a X Y)→pw a X Y≤0→Vx l X Y (a,b,k):=by
   intro a b k neg X Y h1 h2 h3 h4 h5
   refine⟨fun hA=>?_,h3,h2,h4,h5⟩
   unfold qCq at hA
   simp only at hA
   unfold ql at h1
   cases neg
   ·simp only[Bool.false_eq_true,if_false] at h1;grind
   ·simp only[if_true] at h1;grind
  have hneg:∃neg,0≤(ql a b neg).ax*(X-a.x)+(ql a b neg).ay*(Y-a.y):=by
   obtain⟨e1,e2⟩:=qvC a b
   rcases Rat.le_total (a:=0) (b:=(ql a b false).ax*(X-a.x)+(ql a b false).ay*(Y-a.y)) with h|h
   ·exact⟨false,h⟩
   ·exact⟨true,by rw[e1,e2];grind⟩
  obtain⟨neg,hv⟩:=hneg
  rcases qrk neg hf hab hmx h0 hv with⟨h1,h2⟩|⟨t,k,t0,hk,k1,k2,k3,k4,k5⟩
  ·exact⟨a,ha,b,hb,neg,hf,h1,h2⟩
  ·obtain⟨L,hL⟩:∃L,L=l.flatMap fun a=>l.flatMap fun b=>l.map fun c=>(a,b,c):=⟨_,rfl⟩
   have memL:∀t:DQ×DQ×DQ,t∈L↔t.1∈l∧t.2.1∈l∧t.2.2∈l:=fun t=>by
    obtain⟨a,b,c⟩:=t
    rw[hL];simp only[List.mem_flatMap,List.mem_map,Prod.mk.injEq]
    exact⟨fun⟨a',h1,b',h2,c',h3,e1,e2,e3⟩=>⟨e1▸h1,e2▸h2,e3▸h3⟩,fun⟨h1,h2,h3⟩=>⟨a,h1,b,h2,c,h3,rfl,rfl,rfl⟩⟩
   obtain⟨s,hs,u,v,hV,hmax⟩:=qyG l L ⟨(a,b,k),(memL _).2 ⟨ha,hb,hk⟩,_,_,vtx k1 k2 k3 k4 k5⟩
   obtain⟨a',ha',b',hb',neg',hf',hp',hab',hv',hact⟩:=qwW ((memL s).1 hs) hV
   rcases qrk neg' hf' hab' (fun d hd=>by rw[hp'];exact hV.2.2.2.1 d hd) (by rw[hp'];exact hV.2.2.2.2) hv' with⟨h1,h2⟩|⟨t,k,t0,hk,k1,k2,k3,k4,k5⟩
   ·exact⟨a',ha',b',hb',neg',hf',h1,h2⟩
   ·exfalso
    have hm':=hmax (a',b',k) ((memL _).2 ⟨ha',hb',hk⟩) _ _ (vtx k1 k2 k3 k4 k5)
    simp only at hm'
    rw[←hp'] at hm'
    obtain⟨f1,-⟩:=qnl neg' hf'
    have hpos:0<q4V b'.x b'.y a'.x a'.y:=by have:=qwV b'.x b'.y a'.x a'.y;grind
    generalize ql a' b' neg'=p at *
    have t1:0<t:=by
     apply Rat.not_le.1;intro hn
     have:t=0:=by grind
     rw[this] at k2
     have e1:u+0*p.ax=u:=by grind
     have e2:v+0*p.ay=v:=by grind
     rw[e1,e2] at k2
     have:=hact k hk k2
     grind
    have e:pw a' (u+t*p.ax) (v+t*p.ay)=pw a' u v+2*(t*(p.ax*(u-a'.x)+p.ay*(v-a'.y)))+t*t*(p.ax*p.ax+p.ay*p.ay):=by unfold pw;grind
    rw[e,f1] at hm'
    have m1:=Rat.mul_nonneg t0 hv'
    have m2:=Rat.mul_pos (Rat.mul_pos t1 t1) hpos
    grind
end Go.Eng

namespace Go.Eng
def cls(q:Rat):Prop:=(qn q≤12∧q.den=1)∨(qn q≤10∧qd q≤10)
def qC4(q:Rat):Prop:=qn q≤13∧qd q≤10
structure GD (d:DQ):Prop where
 x:cls d.x
 y:cls d.y
 s:qC4 d.s
 nn:0≤d.s
theorem Bd.of_nl{m:Int}{k:Nat}(h:nl m≤k):Bd 1 k m:=by
 unfold Bd
 have:=qBv h
 omega
theorem Bd.of_le{C e:Nat}{x y:Int}(h:Bd C e y)(hxy:x.natAbs≤y.natAbs):Bd C e x:=Nat.le_trans hxy h
theorem qpu{q:Rat}(h:cls q):∃u v,Wt u v q∧((u=12∧v=0)∨(u=10∧v=10)):=by
 rcases h with⟨h1,h2⟩|⟨h1,h2⟩
 ·refine⟨12,0,⟨Bd.of_nl h1,?_,?_⟩,.inl ⟨rfl,rfl⟩⟩
  ·unfold Bd;rw[h2];decide
  ·unfold Bd;rw[h2];decide
 ·exact⟨10,10,⟨Bd.of_nl h1,Bd.of_nl (m:=(q.den:Int)) h2,Bd.of_nl (m:=(q.den:Int)) h2⟩,.inr ⟨rfl,rfl⟩⟩
theorem qtW{q:Rat}(h:qC4 q):∃u v,Wt u v q∧u=13∧v=10:=
 ⟨13,10,⟨Bd.of_nl h.1,Bd.of_nl (m:=(q.den:Int)) h.2,(Bd.of_nl (m:=(q.den:Int)) h.2).mono (by omega) (by omega)⟩,rfl,rfl⟩
theorem vC{q:Rat}(h:cls q):bnd 12 10 q:=by
 rcases h with⟨h1,h2⟩|⟨h1,h2⟩
 ·exact⟨h1,by unfold qd;rw[h2];decide⟩
 ·exact⟨by omega,h2⟩
theorem q8k{q:Rat}(h:qC4 q):bnd 13 10 q:=h
theorem GD.sh{d:DQ}(h:GD d):d.sh:=⟨vC h.x,vC h.y,q8k h.s⟩
theorem qwi{a b d:DQ}(ga:GD a)(gb:GD b)(gd:GD d)(neg:Bool)(hf:(b.x-a.x)*(b.x-a.x)+(b.y-a.y)*(b.y-a.y)≠0)(oa:okQ (kA d (ql a b neg)))(ob:okQ (kB d (ql a b neg)))(oc:okQ (ql a b neg).h) :
  RootOk (kA d (ql a b neg)) (kB d (ql a b neg)) (ql a b neg).h:=by
 obtain⟨f1,f2,f3,f4⟩:=qu0 a b d neg hf
 generalize kA d (ql a b neg)=A at *
 generalize kB d (ql a b neg)=B at *
 generalize (ql a b neg).h=H at *
 obtain⟨hx1,vx1,wx1,ex1⟩:=qpu ga.x
 obtain⟨hy1,vy1,wy1,ey1⟩:=qpu ga.y
 obtain⟨hs1,vs1,ws1,es1⟩:=qtW ga.s
 obtain⟨hx2,vx2,wx2,ex2⟩:=qpu gb.x
 obtain⟨hy2,vy2,wy2,ey2⟩:=qpu gb.y
 obtain⟨hs2,vs2,ws2,es2⟩:=qtW gb.s
 obtain⟨hx3,vx3,wx3,ex3⟩:=qpu gd.x
 obtain⟨hy3,vy3,wy3,ey3⟩:=qpu gd.y
 obtain⟨hs3,vs3,ws3,es3⟩:=qtW gd.s
 have k1:8*hx1+vx1≤96∧14*hx1+4*vx1≤180:=by omega
 have k2:8*hy1+vy1≤96∧14*hy1+4*vy1≤180:=by omega
 have k3:7*hx2+vx2≤84∧14*hx2+2*vx2≤168:=by omega
 have k4:7*hy2+vy2≤84∧14*hy2+2*vy2≤168:=by omega
 have k5:2*hx3+vx3≤30∧2*hx3+4*vx3≤60:=by omega
 have k6:2*hy3+vy3≤30∧2*hy3+4*vy3≤60:=by omega
 have k7:hs1+2*vs1≤33∧2*hs1+4*vs1≤66:=by omega
 have k8:hs2+2*vs2≤33∧2*hs2+4*vs2≤66:=by omega
 have k9:hs3≤13∧vs3≤10:=by omega
 clear ex1 ey1 es1 ex2 ey2 es2 ex3 ey3 es3
 have p0:∀q:Rat,(q.den:Int)≠0:=fun q=>by have:=qz0 q;omega
 have hM:iM a.x.num a.x.den a.y.num a.y.den a.s.den b.x.num b.x.den b.y.num b.y.den b.s.den d.x.den d.y.den d.s.den≠0:=by
  unfold iM iSq
  have:=p0 a.x;have:=p0 a.y;have:=p0 a.s;have:=p0 b.x;have:=p0 b.y;have:=p0 b.s;have:=p0 d.x;have:=p0 d.y;have:=p0 d.s
  exact Int.mul_ne_zero (Int.mul_ne_zero (Int.mul_ne_zero f4 (Int.mul_ne_zero (Int.mul_ne_zero ‹_› ‹_›) ‹_›)) (Int.mul_ne_zero (Int.mul_ne_zero (Int.mul_ne_zero ‹_› ‹_›) (Int.mul_ne_zero ‹_› ‹_›)) (Int.mul_ne_zero (Int.mul_ne_zero ‹_› ‹_›) (Int.mul_ne_zero ‹_› ‹_›)))) (Int.mul_ne_zero ‹_› ‹_›)
 have hQ:iQ a.x.den a.y.den b.x.den b.y.den d.x.den d.y.den≠0:=by
  unfold iQ
  exact Int.mul_ne_zero (Int.mul_ne_zero (Int.mul_ne_zero (p0 _) (p0 _)) (p0 _)) (Int.mul_ne_zero (Int.mul_ne_zero (p0 _) (p0 _)) (p0 _))
 have hC:iCd a.x.num a.x.den a.y.num a.y.den a.s.den b.x.num b.x.den b.y.num b.y.den b.s.den≠0:=by
  unfold iCd
  exact Int.mul_ne_zero (Int.mul_ne_zero (by omega) (Int.mul_ne_zero f4 f4)) (Int.mul_ne_zero (Int.mul_ne_zero (p0 _) (p0 _)) (Int.mul_ne_zero (p0 _) (p0 _)))
 obtain⟨g1,g2⟩:=qlI hM f1
 obtain⟨g3,g4⟩:=qlI hQ f2
 obtain⟨g5,g6⟩:=qlI hC f3
 have b1:=(bA wx1.n wx1.dh wy1.n wy1.dh wx2.n wx2.dh wy2.n wy2.dh wx3.n wx3.dh wy3.n wy3.dh ws1.n ws1.dh ws2.n ws2.dh ws3.n ws3.dh).of_le (x:=A.num) g1
 have b2:=(bM wx1.n wx1.dh wy1.n wy1.dh wx2.n wx2.dh wy2.n wy2.dh wx1.d wy1.d wx2.d wy2.d wx3.d wy3.d ws1.d ws2.d ws3.d).of_le (x:=(A.den:Int)) g2
 have b3:Bd 16 (hx1+hx2+hx3+hy1+hy2+hy3) B.num:=by
  refine(bK wx1.n wx1.dh wy1.n wy1.dh wx2.n wx2.dh wy2.n wy2.dh wx3.n wx3.dh wy3.n wy3.dh).of_le (Nat.le_trans g3 ?_)
  rw[Int.natAbs_mul]
  cases neg<;>simp
 have b4:=(bQ wx1.d wy1.d wx2.d wy2.d wx3.d wy3.d).of_le (x:=(B.den:Int)) g4
 have b5:=(bCn wx1.n wx1.dh wy1.n wy1.dh wx2.n wx2.dh wy2.n wy2.dh ws1.n ws1.dh ws2.n ws2.dh).of_le (x:=H.num) g5
 have b6:=(bCd wx1.n wx1.dh wy1.n wy1.dh wx2.n wx2.dh wy2.n wy2.dh ws1.d ws2.d).of_le (x:=(H.den:Int)) g6
 have X1:=b1.mul b4
 have X:Bd 40960 500 (rX A B H):=(X1.mul b6).mono (by omega) (by omega)
 have Y:=b3.mul b2
 have R:=b5.mul b6
 have XX:=(X.mul X).mono (C':=1677721600) (e':=1000) (by omega) (by omega)
 have YY:=Y.mul Y
 have YR:=(YY.mul R).mono (C':=553648128) (e':=972) (by omega) (by omega)
 have c10:(1000000000:Nat)≤10^9:=by decide
 exact { oa:=oa,ob:=ob,oc:=oc,x1:=X1.okL (k:=9) (by omega) (by omega) (by omega),x:=X.okL (k:=9) (by omega) (by omega) (by omega),y:=Y.okL (k:=9) (by omega) (by omega) (by omega),r:=R.okL (k:=9) (by omega) (by omega) (by omega),xx:=XX.okL (k:=10) (by decide) (by omega) (by omega),yy:=YY.okL (k:=9) (by omega) (by omega) (by omega),yr:=YR.okL (k:=9) (by omega) (by omega) (by omega),d:=((XX.mono (C':=1677721600) (e':=1000) (by omega) (by omega)).sub (YR.mono (C':=553648128) (e':=1000) (by omega) (by omega))).okL (k:=10) (by decide) (by omega) (by omega) }
end Go.Eng

namespace Go.Eng
theorem qCA{far c:Rat}(h0:far≠0)(hf:bnd 87 80 far)(hc:bnd 24 20 c):bnd 108 108 ((far+c)/(2*far)):=by
 have hn:far.num≠0:=fun h=>h0 (Rat.num_eq_zero.1 h)
 have hm:2*(far.num*(c.den:Int))≠0:=by
  have:=qz0 c
  exact Int.mul_ne_zero (by omega) (Int.mul_ne_zero hn (by omega))
 have h2f:2*far≠0:=by grind
 have key:(far+c)/(2*far)*((2*(far.num*(c.den:Int)):Int):Rat)=((far.num*(c.den:Int)+c.num*(far.den:Int):Int):Rat):=by
  have e1:=qdt far
  have e2:=qdt c
  have e3:(far+c)/(2*far)*(2*far)=far+c:=Rat.div_mul_cancel h2f
  have f2:((2:Int):Rat)=2:=by simp
  simp only[Rat.intCast_add,Rat.intCast_mul,Rat.intCast_natCast,e1,e2,f2]
  generalize (far+c)/(2*far)=q at *
  generalize (far.den:Rat)=fd at *
  generalize (c.den:Rat)=cd at *
  have e4:q*(2*(far*fd*cd))=q*(2*far)*(fd*cd):=by grind
  rw[e4,e3];grind
 obtain⟨k1,k2⟩:=qlI hm key
 have g1:=qer k1
 have g2:=qyx k2
 have a1:=quG (far.num*(c.den:Int)) (c.num*(far.den:Int))
 have a2:=q4L far.num (c.den:Int)
 have a3:=q4L c.num (far.den:Int)
 have a4:=q4L 2 (far.num*(c.den:Int))
 have a5:nl 2=1:=by decide
 have a6:dl (2*(far.num*(c.den:Int))).natAbs=nl (2*(far.num*(c.den:Int))):=rfl
 have b1:nl far.num≤87:=hf.1
 have b2:nl (far.den:Int)≤80:=hf.2
 have b3:nl c.num≤24:=hc.1
 have b4:nl (c.den:Int)≤20:=hc.2
 refine⟨?_,?_⟩
 ·show nl _≤108
  omega
 ·show dl _≤108
  omega
structure PB (p:SQ):Prop where
 fx:bnd 142 138 p.fx
 fy:bnd 142 138 p.fy
 ax:bnd 23 20 p.ax
 ay:bnd 23 20 p.ay
 h:bnd 314 313 p.h
theorem qCR(a:Rat):0-a=-a:=by grind
theorem qxx{a b:DQ}(ga:GD a)(gb:GD b)(hf:q4V b.x b.y a.x a.y≠0):bnd 108 108 ((q4V b.x b.y a.x a.y+a.s-b.s)/(2*q4V b.x b.y a.x a.y)):=by
 rw[show q4V b.x b.y a.x a.y+a.s-b.s=q4V b.x b.y a.x a.y+(a.s-b.s) by grind]
 exact qCA hf (qqz (vC gb.x) (vC gb.y) (vC ga.x) (vC ga.y)) ((q8k ga.s).sub (q8k gb.s) (by omega) (by omega))
theorem qiL(a b:DQ)(neg:Bool):ql a b neg=⟨a.x+(q4V b.x b.y a.x a.y+a.s-b.s)/(2*q4V b.x b.y a.x a.y)*(b.x-a.x),a.y+(q4V b.x b.y a.x a.y+a.s-b.s)/(2*q4V b.x b.y a.x a.y)*(b.y-a.y),if neg then b.y-a.y else 0-(b.y-a.y),if neg then 0-(b.x-a.x) else b.x-a.x,a.s/q4V b.x b.y a.x a.y-(q4V b.x b.y a.x a.y+a.s-b.s)/(2*q4V b.x b.y a.x a.y)*((q4V b.x b.y a.x a.y+a.s-b.s)/(2*q4V b.x b.y a.x a.y))⟩:=rfl
theorem qi6{a b:DQ}(ga:GD a)(gb:GD b)(neg:Bool)(hf:q4V b.x b.y a.x a.y≠0):PB (ql a b neg):=by
 have dx:=qam (vC gb.x) (vC ga.x)
 have dy:=qam (vC gb.y) (vC ga.y)
 have far:=qqz (vC gb.x) (vC gb.y) (vC ga.x) (vC ga.y)
 have ht:=qxx ga gb hf
 rw[qiL]
 have nx:bnd 23 20 (0-(b.x-a.x)):=by rw[qCR];exact dx.neg
 have ny:bnd 23 20 (0-(b.y-a.y)):=by rw[qCR];exact dy.neg
 have hh:=((q8k ga.s).div hf far).sub (ht.mul ht) (K:=314) (by omega) (by omega)
 have hx:=(vC ga.x).add (ht.mul dx) (K:=142) (by omega) (by omega)
 have hy:=(vC ga.y).add (ht.mul dy) (K:=142) (by omega) (by omega)
 exact⟨hx,hy,by cases neg<;>assumption,by cases neg<;>assumption,hh⟩
theorem PB.m{p:SQ}{d:DQ}(hp:PB p)(gd:GD d):bnd 153 148 (p.fx-d.x)∧bnd 153 148 (p.fy-d.y):=
 ⟨hp.fx.sub (vC gd.x) (by omega) (by omega),hp.fy.sub (vC gd.y) (by omega) (by omega)⟩
theorem PB.mm{p:SQ}{d:DQ}(hp:PB p)(gd:GD d):bnd 603 592 ((p.fx-d.x)*(p.fx-d.x)+(p.fy-d.y)*(p.fy-d.y)):=
 qqW (hp.m gd).1 (hp.m gd).2 (hp.m gd).1 (hp.m gd).2
theorem PB.aa{p:SQ}(hp:PB p):bnd 87 80 (p.ax*p.ax+p.ay*p.ay):=qqW hp.ax hp.ay hp.ax hp.ay
theorem PB.ha{p:SQ}(hp:PB p):bnd 401 393 (p.h*(p.ax*p.ax+p.ay*p.ay)):=hp.h.mul hp.aa
theorem PB.x{p:SQ}{d:DQ}(hp:PB p)(gd:GD d):bnd 997 985 ((p.fx-d.x)*(p.fx-d.x)+(p.fy-d.y)*(p.fy-d.y)+p.h*(p.ax*p.ax+p.ay*p.ay)):=
 (hp.mm gd).add hp.ha (by omega) (by omega)
theorem PB.ma{p:SQ}{d:DQ}(hp:PB p)(gd:GD d):bnd 345 336 ((p.fx-d.x)*p.ax+(p.fy-d.y)*p.ay):=
 qqW (hp.m gd).1 (hp.m gd).2 hp.ax hp.ay
theorem PB.kA{p:SQ}{d:DQ}(hp:PB p)(gd:GD d):bnd 1008 995 (kA d p):=(hp.x gd).sub (q8k gd.s) (by omega) (by omega)
theorem PB.kB{p:SQ}{d:DQ}(hp:PB p)(gd:GD d):bnd 346 337 (kB d p):=qpL.mul (hp.ma gd)
structure PG (p:SQ):Prop where
 pb:PB p
 nn:0≤p.h
 root:∀d,GD d→RootOk (kA d p) (kB d p) p.h
theorem qzH{a b:DQ}(ga:GD a)(gb:GD b)(neg:Bool)(hf:q4V b.x b.y a.x a.y≠0)(hn:0≤(ql a b neg).h):PG (ql a b neg):=
 ⟨qi6 ga gb neg hf,hn,fun _ gd=>qwi ga gb gd neg hf (((qi6 ga gb neg hf).kA gd).ok (by omega) (by omega)) (((qi6 ga gb neg hf).kB gd).ok (by omega) (by omega)) ((qi6 ga gb neg hf).h.ok (by omega) (by omega))⟩
theorem qCj{a:DQ}(ga:GD a):PG ⟨a.x,a.y,0,0,0⟩:=by
 refine⟨⟨(vC ga.x).mono (by omega) (by omega),(vC ga.y).mono (by omega) (by omega),qaf.mono (by omega) (by omega),qaf.mono (by omega) (by omega),qaf.mono (by omega) (by omega)⟩,Rat.le_refl,fun d gd=>?_⟩
 have e1:Go.Eng.kA d ⟨a.x,a.y,0,0,0⟩=q4V a.x a.y d.x d.y-d.s:=by unfold Go.Eng.kA q4V;grind
 have e2:Go.Eng.kB d ⟨a.x,a.y,0,0,0⟩=0:=by unfold Go.Eng.kB;grind
 rw[e1,e2]
 have f1:bnd 98 90 (q4V a.x a.y d.x d.y-d.s):=(qqz (vC ga.x) (vC ga.y) (vC gd.x) (vC gd.y)).sub (q8k gd.s) (by omega) (by omega)
 exact RootOk.of f1 qaf qaf (by omega) (by omega)
theorem qy4{d:DQ}{p:SQ}(gd:GD d)(hp:PG p) :
  (jS [.s (tQ d.x),.s (tQ d.y),.s (tQ d.s),.s (tQ p.fx),.s (tQ p.fy),.s (tQ p.ax),.s (tQ p.ay),.s (tQ p.h),.i 0]).run=some (0,[.b (decide (q1n d p)),.i 0]):=by
 rw[qhC]
 have hr:=qBX (hp.root d gd) hp.nn
 obtain⟨hp,-,-⟩:=hp
 obtain⟨m1,m2⟩:=hp.m gd
 have h0:=qAc hp.fx hp.fy (vC gd.x) (vC gd.y) (by omega) (by omega) (by omega)
 have h1:=qzK m1 m2 m1 m2 (by omega) (by omega)
 have h2:=qzK hp.ax hp.ay hp.ax hp.ay (by omega) (by omega)
 have h3:=qso hp.h hp.aa (by omega) (by omega)
 have h4:=qyk (hp.mm gd) hp.ha (by omega) (by omega) (by omega)
 have h5:=qtU (hp.x gd) (q8k gd.s) (by omega) (by omega) (by omega)
 have h6:=qzK m1 m2 hp.ax hp.ay (by omega) (by omega)
 have h7:=qso qpL (hp.ma gd) (by omega) (by omega)
 rw[qAd] at h7
 have e:q1n d p=(qgh (Go.Eng.kA d p) (Go.Eng.kB d p) p.h≤0):=rfl
 unfold Go.Eng.kA Go.Eng.kB at hr e
 simp only[STD,h0,h1,h2,h3,h4,h5,h6,h7,hr,e]
 rfl
def qe9(d:DQ):List U:=[.s (tQ d.x),.s (tQ d.y),.s (tQ d.s)]
def rD(l:List DQ):R:=l.map qe9
def ix(l:List DQ)(i:Nat):DQ:=l.getD i ⟨0,0,0⟩
theorem wu(l:List DQ):qf (rD l)=(l.length:Int):=by simp[qf,rD]
theorem qrT{l:List DQ}{i:Nat}(h:i<l.length):cS (rD l) (i:Int) 0=tQ (ix l i).x∧cS (rD l) (i:Int) 1=tQ (ix l i).y∧cS (rD l) (i:Int) 2=tQ (ix l i).s:=by
 unfold cS j5 rD ix
 simp[List.getD_eq_getElem?_getD,h,qe9,U.toS]
theorem qAi{l:List DQ}{i:Nat}(h:i<l.length):ix l i∈l:=by
 unfold ix
 simp[List.getD_eq_getElem?_getD,h]
def q9S(a b:DQ)(same:Bool)(side:Int):Option SQ:=
 if same then (if side=0 then some ⟨a.x,a.y,0,0,0⟩ else none)
 else if q4V b.x b.y a.x a.y=0 then none
 else if 0≤(ql a b (decide (side<0))).h∧((ql a b (decide (side<0))).h=0↔side=0) then some (ql a b (decide (side<0))) else none
theorem qzo{a b:DQ}(ga:GD a)(gb:GD b){same:Bool}{side:Int}{p:SQ}(h:q9S a b same side=some p):PG p:=by
 unfold q9S at h
 split at h
 ·split at h
  ·cases h;exact qCj ga
  ·cases h
 ·split at h
  ·cases h
  ·rename_i hf
   split at h
   ·rename_i hc
    cases h;exact qzH ga gb _ hf hc.1
   ·cases h
def q4v(l:List DQ)(i j:Nat)(side:Int):Bool:=
 match q9S (ix l i) (ix l j) (decide (i=j)) side with
 | none=>false
 | some p=>l.all fun d=>decide (q1n d p)
def qmC(l:List DQ)(i j:Nat)(side:Int):Option (Nat×Nat×Int):=if q4v l i j side then some (i,j,side) else none
def qdv(l:List DQ)(i j:Nat):Option (Nat×Nat×Int):=
 match qmC l i j 0 with
 | some w=>some w
 | none=>match qmC l i j 1 with
  | some w=>some w
  | none=>qmC l i j (-1)
def kd(l:List DQ):Option (Nat×Nat×Int):=
 match uz (fun i=>qmC l i i 0) 0 l.length with
 | some w=>some w
 | none=>uz (fun i=>uz (fun k=>qdv l i (i+1+k)) 0 (l.length-(i+1))) 0 l.length
end Go.Eng

namespace Go.Eng
theorem qvX(d a:DQ):q1n d ⟨a.x,a.y,0,0,0⟩↔pw d a.x a.y≤0:=by
 have e1:kA d ⟨a.x,a.y,0,0,0⟩=pw d a.x a.y:=by unfold kA pw;grind
 have e2:kB d ⟨a.x,a.y,0,0,0⟩=0:=by unfold kB;grind
 unfold q1n
 rw[e1,e2]
 simp only[qwn,qkc]
theorem qsl{d:DQ}{p q:SQ}(hA:kA d p=kA d q)(hB:kB d p=kB d q)(hh:p.h=q.h):q1n d p↔q1n d q:=by
 unfold q1n;rw[hA,hB,hh]
theorem qnQ{d:DQ}{p:SQ}(hh:p.h=0):q1n d p↔kA d p≤0:=by
 unfold q1n
 rw[hh,qpO (by grind)]
 constructor
 ·rintro (⟨h,-⟩|⟨h1,h2,h3⟩)
  ·exact h
  ·have:=Rat.mul_pos h1 h1;grind
 ·intro h;exact .inl ⟨h,.inr (.inl rfl)⟩
theorem qvN{a b:DQ}(neg:Bool)(hf:q4V b.x b.y a.x a.y≠0) :
  (ql b a (!neg)).fx=(ql a b neg).fx∧(ql b a (!neg)).fy=(ql a b neg).fy∧(ql b a (!neg)).ax=(ql a b neg).ax∧(ql b a (!neg)).ay=(ql a b neg).ay∧(ql b a (!neg)).h=(ql a b neg).h:=by
 have hsw:q4V a.x a.y b.x b.y=q4V b.x b.y a.x a.y:=by unfold q4V;grind
 rw[qiL,qiL,hsw]
 generalize q4V b.x b.y a.x a.y=far at *
 have h2f:2*far≠0:=by grind
 have h1:(far+b.s-a.s)/(2*far)*(2*far)=far+b.s-a.s:=Rat.div_mul_cancel h2f
 have h2:(far+a.s-b.s)/(2*far)*(2*far)=far+a.s-b.s:=Rat.div_mul_cancel h2f
 have h3:a.s/far*far=a.s:=Rat.div_mul_cancel hf
 have h4:b.s/far*far=b.s:=Rat.div_mul_cancel hf
 generalize (far+b.s-a.s)/(2*far)=u at *
 generalize (far+a.s-b.s)/(2*far)=t at *
 generalize a.s/far=p at *
 generalize b.s/far=q at *
 have cancel:∀z:Rat,z*far=0→z=0:=fun z hz=>by
  rcases Rat.mul_eq_zero.1 hz with h|h
  ·exact h
  ·exact absurd h hf
 have hu:u=1-t:=by
  have:=cancel (u-(1-t)) (by grind)
  grind
 have hpq:q=p-t*t+(1-t)*(1-t):=by
  have:=cancel (q-(p-t*t+(1-t)*(1-t))) (by grind)
  grind
 simp only
 refine⟨by rw[hu];grind,by rw[hu];grind,?_,?_,by rw[hu,hpq];grind⟩
 ·cases neg<;>simp only[Bool.not_false,Bool.not_true,Bool.false_eq_true,if_false,if_true]<;>grind
 ·cases neg<;>simp only[Bool.not_false,Bool.not_true,Bool.false_eq_true,if_false,if_true]<;>grind
theorem qjw{l:List DQ}{d:DQ}(h:d∈l):∃i,i<l.length∧ix l i=d:=by
 obtain⟨i,hi,e⟩:=List.getElem_of_mem h
 exact⟨i,hi,by unfold ix;simp[List.getD_eq_getElem?_getD,hi,e]⟩
def Wit(l:List DQ):Prop:=(∃i,i<l.length∧q4v l i i 0=true)∨∃i j side,i<j∧j<l.length∧(side=0∨side=1∨side=-1)∧q4v l i j side=true
theorem qbK{l:List DQ}{i j:Nat}{side:Int}:q4v l i j side=true↔∃p,q9S (ix l i) (ix l j) (decide (i=j)) side=some p∧∀d∈l,q1n d p:=by
 unfold q4v
 cases h:q9S (ix l i) (ix l j) (decide (i=j)) side with
 | none=>simp
 | some p=>simp
theorem qyZ{a b:DQ}{same:Bool}{side:Int}{p:SQ}(h:q9S a b same side=some p):0≤p.h:=by
 unfold q9S at h
 split at h
 ·split at h
  ·cases h;exact Rat.le_refl
  ·cases h
 ·split at h
  ·cases h
  ·split at h
   ·rename_i hc
    cases h;exact hc.1
   ·cases h
theorem qnZ{l:List DQ}{i j:Nat}{side:Int}(h:q4v l i j side=true):qzv l:=by
 obtain⟨p,h1,h2⟩:=qbK.1 h
 exact qqK (qyZ h1) h2
theorem qt0{l:List DQ}(hl:l≠[])(hs:∀d∈l,0≤d.s)(hm:qzv l):Wit l:=by
 rcases qzc hl hs hm with⟨a,ha,h⟩|⟨a,ha,b,hb,neg,hf,h0,hk⟩
 ·obtain⟨i,hi,rfl⟩:=qjw ha
  refine .inl ⟨i,hi,qbK.2 ⟨⟨(ix l i).x,(ix l i).y,0,0,0⟩,?_,fun d hd=>(qvX d _).2 (h d hd)⟩⟩
  unfold q9S;simp
 ·have main:∀(i j:Nat) (neg:Bool),i<j→j<l.length→q4V (ix l j).x (ix l j).y (ix l i).x (ix l i).y≠0→0≤(ql (ix l i) (ix l j) neg).h→(∀d∈l,q1n d (ql (ix l i) (ix l j) neg))→Wit l:=by
   intro i j neg hij hj hf h0 hk
   by_cases hz:(ql (ix l i) (ix l j) neg).h=0
   ·have hz':(ql (ix l i) (ix l j) false).h=0:=hz
    refine .inr ⟨i,j,0,hij,hj,.inl rfl,qbK.2 ⟨ql (ix l i) (ix l j) false,?_,fun d hd=>?_⟩⟩
    ·unfold q9S
     rw[if_neg (by simp;omega),if_neg hf]
     simp[hz']
    ·have:=(qnQ hz).1 (hk d hd)
     rw[qnQ hz']
     have e:kA d (ql (ix l i) (ix l j) false)=kA d (ql (ix l i) (ix l j) neg):=by
      unfold kA;rw[hz,hz']
      have e1:(ql (ix l i) (ix l j) false).fx=(ql (ix l i) (ix l j) neg).fx:=rfl
      have e2:(ql (ix l i) (ix l j) false).fy=(ql (ix l i) (ix l j) neg).fy:=rfl
      rw[e1,e2];grind
     rw[e];exact this
   ·cases neg
    ·refine .inr ⟨i,j,1,hij,hj,.inr (.inl rfl),qbK.2 ⟨ql (ix l i) (ix l j) false,?_,hk⟩⟩
     unfold q9S
     rw[if_neg (by simp;omega),if_neg hf]
     simp[hz,h0]
    ·refine .inr ⟨i,j,-1,hij,hj,.inr (.inr rfl),qbK.2 ⟨ql (ix l i) (ix l j) true,?_,hk⟩⟩
     unfold q9S
     rw[if_neg (by simp;omega),if_neg hf]
     simp[hz,h0]
  obtain⟨i,hi,rfl⟩:=qjw ha
  obtain⟨j,hj,rfl⟩:=qjw hb
  rcases Nat.lt_trichotomy i j with hij|rfl|hij
  ·exact main i j neg hij hj hf h0 hk
  ·exact absurd (by unfold q4V;grind) hf
  ·obtain⟨e1,e2,e3,e4,e5⟩:=qvN neg hf
   refine main j i (!neg) hij hi ?_ (by rw[e5];exact h0) fun d hd=>?_
   ·intro h;apply hf;unfold q4V at *;grind
   ·refine(qsl ?_ ?_ e5).2 (hk d hd)
    ·unfold kA;rw[e1,e2,e3,e4,e5]
    ·unfold kB;rw[e1,e2,e3,e4]
theorem qjd{l:List DQ}{i j:Nat}{side:Int}{w:Nat×Nat×Int}(h:qmC l i j side=some w):w=(i,j,side)∧q4v l i j side=true:=by
 unfold qmC at h
 split at h
 ·cases h;exact⟨rfl,by assumption⟩
 ·cases h
theorem qij{l:List DQ}{i j:Nat}{side:Int}(h:qmC l i j side=none):q4v l i j side=false:=by
 unfold qmC at h
 split at h
 ·cases h
 ·simp_all
theorem q9j{α:Type}{f:Nat→Option α}{a:α}:∀{k i:Nat},uz f i k=some a→∃j,i≤j∧j<i+k∧f j=some a∧∀m,i≤m→m<j→f m=none
 | 0,i,h=>by cases h
 | k+1,i,h=>by
  simp only[uz] at h
  cases hf:f i with
  | some b=>rw[hf] at h;exact⟨i,Nat.le_refl _,by omega,by rw[hf];exact h,fun m h1 h2=>by omega⟩
  | none=>
   rw[hf] at h
   obtain⟨j,h1,h2,h3,h4⟩:=q9j h
   refine⟨j,by omega,by omega,h3,fun m m1 m2=>?_⟩
   rcases Nat.eq_or_lt_of_le m1 with rfl|m1
   ·exact hf
   ·exact h4 m m1 m2
theorem qts{l:List DQ}{i j:Nat}{w:Nat×Nat×Int}(h:qdv l i j=some w):∃side,w=(i,j,side)∧(side=0∨side=1∨side=-1)∧q4v l i j side=true:=by
 unfold qdv at h
 cases h0:qmC l i j 0 with
 | some v=>rw[h0] at h;simp only at h;cases h;obtain⟨e1,e2⟩:=qjd h0;exact⟨0,e1,.inl rfl,e2⟩
 | none=>
  rw[h0] at h;simp only at h
  cases h1:qmC l i j 1 with
  | some v=>rw[h1] at h;simp only at h;cases h;obtain⟨e1,e2⟩:=qjd h1;exact⟨1,e1,.inr (.inl rfl),e2⟩
  | none=>
   rw[h1] at h;simp only at h
   obtain⟨e1,e2⟩:=qjd h;exact⟨-1,e1,.inr (.inr rfl),e2⟩
theorem qtQ{l:List DQ}{i j:Nat}(h:qdv l i j=none):∀side:Int,side=0∨side=1∨side=-1→q4v l i j side=false:=by
 unfold qdv at h
 cases h0:qmC l i j 0 with
 | some v=>rw[h0] at h;cases h
 | none=>
  rw[h0] at h;simp only at h
  cases h1:qmC l i j 1 with
  | some v=>rw[h1] at h;cases h
  | none=>
   rw[h1] at h;simp only at h
   rintro side (rfl|rfl|rfl)
   ·exact qij h0
   ·exact qij h1
   ·exact qij h
theorem qsZ{l:List DQ}{w:Nat×Nat×Int}(h:kd l=some w):q4v l w.1 w.2.1 w.2.2=true∧w.1≤w.2.1∧w.2.1<l.length∧(w.2.2=0∨w.2.2=1∨w.2.2=-1)∧(w.1=w.2.1→w.2.2=0):=by
 unfold kd at h
 cases h0:uz (fun i=>qmC l i i 0) 0 l.length with
 | some v=>
  rw[h0] at h;simp only at h;cases h
  obtain⟨i,-,hi,hf,-⟩:=q9j h0
  obtain⟨rfl,e⟩:=qjd hf
  exact⟨e,Nat.le_refl _,by simpa using hi,.inl rfl,fun _=>rfl⟩
 | none=>
  rw[h0] at h;simp only at h
  obtain⟨i,-,hi,hf,-⟩:=q9j h
  obtain⟨k,-,hk,hf,-⟩:=q9j hf
  obtain⟨side,rfl,h1,h2⟩:=qts hf
  exact⟨h2,by simp only;omega,by simp only;omega,h1,fun h=>by simp only at h;omega⟩
theorem qui{l:List DQ}(h:kd l=none):¬Wit l:=by
 unfold kd at h
 cases h0:uz (fun i=>qmC l i i 0) 0 l.length with
 | some v=>rw[h0] at h;cases h
 | none=>
  rw[h0] at h;simp only at h
  rintro (⟨i,hi,hp⟩|⟨i,j,side,hij,hj,hs,hp⟩)
  ·have:=qij (q5i h0 i (by omega) (by omega));simp_all
  ·have h1:=q5i h i (by omega) (by omega)
   have h2:=q5i h1 (j-(i+1)) (by omega) (by omega)
   simp only[show i+1+(j-(i+1))=j by omega] at h2
   have:=qtQ h2 side hs;simp_all
theorem qwp{l:List DQ}(hl:l≠[])(hs:∀d∈l,0≤d.s):(kd l).isSome=true↔qzv l:=by
 constructor
 ·intro h
  cases hf:kd l with
  | none=>rw[hf] at h;cases h
  | some w=>exact qnZ (qsZ hf).1
 ·intro h
  cases hf:kd l with
  | none=>exact absurd (qt0 hl hs h) (qui hf)
  | some w=>rfl
end Go.Eng

namespace Go.Eng
def GDs(l:List DQ):Prop:=∀d∈l,GD d
theorem GDs.ix{l:List DQ}(h:GDs l){i:Nat}(hi:i<l.length):GD (ix l i):=h _ (qAi hi)
theorem qzY(q:Rat):(seq (tQ q) [48]=true)=(q=0):=by rw[yN,qmF]
theorem qk9(q:Rat):(0:Int)<wl (tQ q):=by
 have h1:=qnj q
 have h2:=qnP q
 unfold wl;omega
theorem qCS(i:Nat):((i:Int)=(i:Int))=True:=by simp
def plc(p:SQ):List PV:=[.s (tQ p.fx),.s (tQ p.fy),.s (tQ p.ax),.s (tQ p.ay),.s (tQ p.h)]
theorem qjJ(q:Rat):(¬(tQ q).getD 0 0=45)=(0≤q):=by
 by_cases h:0≤q
 ·exact propext ⟨fun _=>h,fun _=>qAU h⟩
 ·have:=qC2 (c:=q) (by grind)
  exact propext ⟨fun h'=>absurd this h',fun h'=>absurd h' h⟩
theorem qAX(b:Bool)(p q:Prop)[Decidable p][Decidable q](hb:(b=true)=p):(Go.Eng.beq b (decide q))=decide (p↔q):=by
 subst hb
 by_cases hq:q<;>cases b<;>simp[Go.Eng.beq,hq]<;>rfl
set_option maxHeartbeats 2000000 in
theorem qBf{l:List DQ}(hl:GDs l){i j:Nat}(hi:i<l.length)(hj:j<l.length)(side:Int) :
  (q9S (ix l i) (ix l j) (decide (i=j)) side=none∧∃a b c d e,(vT [.r (rD l),.i (i:Int),.i (j:Int),.i side,.i 0]).run=some (0,[.s a,.s b,.s c,.s d,.s e,.b false,.i 0])) ∨
  ∃p,q9S (ix l i) (ix l j) (decide (i=j)) side=some p∧(vT [.r (rD l),.i (i:Int),.i (j:Int),.i side,.i 0]).run=some (0,plc p++[.b true,.i 0]):=by
 rw[qhv]
 obtain⟨x1,x2,x3⟩:=qrT hi
 obtain⟨y1,y2,y3⟩:=qrT hj
 have ga:=hl.ix hi
 have gb:=hl.ix hj
 have bi:0≤(i:Int)∧(i:Int)<qf (rD l):=by rw[wu];omega
 have bj:0≤(j:Int)∧(j:Int)<qf (rD l):=by rw[wu];omega
 obtain⟨a,ha⟩:∃a,a=ix l i:=⟨_,rfl⟩
 obtain⟨b,hb⟩:∃b,b=ix l j:=⟨_,rfl⟩
 rw[←ha] at x1 x2 x3 ga ⊢
 rw[←hb] at y1 y2 y3 gb ⊢
 simp only[x1,x2,x3,y1,y2,y3]
 clear x1 x2 x3 y1 y2 y3 hb
 unfold q9S plc
 by_cases hij:i=j
 ·subst hij
  have z:tQ 0=[48]:=rfl
  by_cases hs:side=0
  ·subst hs
   right
   refine⟨⟨a.x,a.y,0,0,0⟩,by simp,?_⟩
   have e:ieq 0 0=true:=rfl
   simp only[STD,bi,and_self,z,e]
   rfl
  ·left
   refine⟨by simp[hs],tQ a.x,tQ a.y,[48],[48],[48],?_⟩
   have e:ieq side 0=false:=by simp[ieq,hs]
   simp only[STD,bi,and_self,e]
 ·have hij':¬(i:Int)=(j:Int):=by omega
  obtain⟨a1,a2,a3⟩:=ga.sh
  obtain⟨b1,b2,b3⟩:=gb.sh
  have dx:=qam b1 a1
  have dy:=qam b2 a2
  have far:=qqz b1 b2 a1 a2
  have h0:=qAc b1 b2 a1 a2 (by omega) (by omega) (by omega)
  have h1:=qzK dx dy dx dy (by omega) (by omega)
  have hfd:(b.x-a.x)*(b.x-a.x)+(b.y-a.y)*(b.y-a.y)=q4V b.x b.y a.x a.y:=rfl
  rw[hfd] at h1
  by_cases hf:q4V b.x b.y a.x a.y=0
  ·left
   refine⟨by simp[hij,hf],[],[],[],[],[],?_⟩
   simp only[STD,bi,bj,and_self,hij',h0,h1,qzY,hf]
  ·have hpb:=fun neg=>qi6 ga gb neg hf
   have ht:=qxx ga gb hf
   have n1:bnd 98 90 (q4V b.x b.y a.x a.y+a.s):=far.add a3 (by omega) (by omega)
   have h2:=qyk far a3 (by omega) (by omega) (by omega)
   have n2:bnd 112 100 (q4V b.x b.y a.x a.y+a.s-b.s):=n1.sub b3 (by omega) (by omega)
   have h3:=qtU n1 b3 (by omega) (by omega) (by omega)
   have h4:=qso qpL far (by omega) (by omega)
   rw[qAd] at h4
   have n4:=qpL.mul far
   have hf2:2*q4V b.x b.y a.x a.y≠0:=by grind
   have h5:=qC9 hf2 n2 n4 (by omega) (by omega)
   have h6:=qso ht dx (by omega) (by omega)
   have h7:=qyk a1 (ht.mul dx) (by omega) (by omega) (by omega)
   have h8:=qso ht dy (by omega) (by omega)
   have h9:=qyk a2 (ht.mul dy) (by omega) (by omega) (by omega)
   have h10:=qtU qaf dy (by omega) (by omega) (by omega)
   have h14:=qtU qaf dx (by omega) (by omega) (by omega)
   rw[show tQ 0=[48] from rfl] at h10 h14
   have h11:=qC9 hf a3 far (by omega) (by omega)
   have h12:=qso ht ht (by omega) (by omega)
   have h13:=qtU (a3.div hf far) (ht.mul ht) (by omega) (by omega) (by omega)
   have hbd:=fun (q:Rat)=>qAX (seq (tQ q) [48]) (q=0) (side=0) (qzY q)
   have hie:ieq side 0=decide (side=0):=rfl
   rw[if_neg (by simp[hij]),if_neg hf]
   obtain⟨p,hcr'⟩:∃p,p=ql a b (decide (side<0)):=⟨_,rfl⟩
   rw[←hcr']
   have hcr:=hcr'.symm
   clear hcr'
   rw[qiL] at hcr
   obtain⟨t,htt⟩:∃t,t=(q4V b.x b.y a.x a.y+a.s-b.s)/(2*q4V b.x b.y a.x a.y):=⟨_,rfl⟩
   rw[←htt] at hcr h5 h6 h7 h8 h9 h12 h13
   obtain⟨h,hh⟩:∃h,h=a.s/q4V b.x b.y a.x a.y-t*t:=⟨_,rfl⟩
   rw[←hh] at hcr h13
   have hp5:p.h=h:=by rw[←hcr]
   by_cases hs:side<0
   ·simp only[hs,decide_true,if_true] at hcr
    by_cases hn:0≤h
    ·by_cases hz:(h=0↔side=0)
     ·right
      refine⟨p,by rw[if_pos ⟨by rw[hp5];exact hn,by rw[hp5];exact hz⟩],?_⟩
      rw[←hcr]
      simp only[STD,bi,bj,and_self,hij',h0,h1,h2,h3,h4,h5,h6,h7,h8,h9,h10,h11,h12,h13,h14,qzY,hf,hs,Int.le_refl,qk9,qia,qjJ,hn,hie,hbd,hz,decide_true]
      rfl
     ·left
      refine⟨by rw[if_neg (by rw[hp5];exact fun c=>hz c.2)],tQ p.fx,tQ p.fy,tQ p.ax,tQ p.ay,tQ p.h,?_⟩
      rw[←hcr]
      simp only[STD,bi,bj,and_self,hij',h0,h1,h2,h3,h4,h5,h6,h7,h8,h9,h10,h11,h12,h13,h14,qzY,hf,hs,Int.le_refl,qk9,qia,qjJ,hn,hie,hbd,hz,decide_false]
    ·left
     refine⟨by rw[if_neg (by rw[hp5];exact fun c=>hn c.1)],tQ p.fx,tQ p.fy,tQ p.ax,tQ p.ay,tQ p.h,?_⟩
     rw[←hcr]
     simp only[STD,bi,bj,and_self,hij',h0,h1,h2,h3,h4,h5,h6,h7,h8,h9,h10,h11,h12,h13,h14,qzY,hf,hs,Int.le_refl,qk9,qia,qjJ,hn]
   ·simp only[hs,decide_false,Bool.false_eq_true,if_false] at hcr
    by_cases hn:0≤h
    ·by_cases hz:(h=0↔side=0)
     ·right
      refine⟨p,by rw[if_pos ⟨by rw[hp5];exact hn,by rw[hp5];exact hz⟩],?_⟩
      rw[←hcr]
      simp only[STD,bi,bj,and_self,hij',h0,h1,h2,h3,h4,h5,h6,h7,h8,h9,h10,h11,h12,h13,h14,qzY,hf,hs,Int.le_refl,qk9,qia,qjJ,hn,hie,hbd,hz,decide_true]
      rfl
     ·left
      refine⟨by rw[if_neg (by rw[hp5];exact fun c=>hz c.2)],tQ p.fx,tQ p.fy,tQ p.ax,tQ p.ay,tQ p.h,?_⟩
      rw[←hcr]
      simp only[STD,bi,bj,and_self,hij',h0,h1,h2,h3,h4,h5,h6,h7,h8,h9,h10,h11,h12,h13,h14,qzY,hf,hs,Int.le_refl,qk9,qia,qjJ,hn,hie,hbd,hz,decide_false]
    ·left
     refine⟨by rw[if_neg (by rw[hp5];exact fun c=>hn c.1)],tQ p.fx,tQ p.fy,tQ p.ax,tQ p.ay,tQ p.h,?_⟩
     rw[←hcr]
     simp only[STD,bi,bj,and_self,hij',h0,h1,h2,h3,h4,h5,h6,h7,h8,h9,h10,h11,h12,h13,h14,qzY,hf,hs,Int.le_refl,qk9,qia,qjJ,hn]
end Go.Eng

namespace Go.Eng
theorem qAr{α:Type}(p:Nat→Bool)(g:Nat→α)(n:Nat):(uz (fun i=>if p i=true then none else some (g i)) 0 n=none∧∀i,i<n→p i=true)∨∃i,i<n∧p i=false∧uz (fun i=>if p i=true then none else some (g i)) 0 n=some (g i):=by
 cases h:uz (fun i=>if p i=true then none else some (g i)) 0 n with
 | none=>
  refine .inl ⟨rfl,fun i hi=>?_⟩
  have:=q5i h i (by omega) (by omega)
  cases hp:p i
  ·rw[hp] at this;simp at this
  ·rfl
 | some a=>
  obtain⟨j,-,hj,hf,-⟩:=q9j h
  cases hp:p j
  ·rw[hp] at hf;simp at hf
   exact .inr ⟨j,by omega,hp,by rw[hf]⟩
  ·rw[hp] at hf;simp at hf
theorem qA1(l:List DQ)(p:DQ→Bool):l.all p=true↔∀i,i<l.length→p (ix l i)=true:=by
 rw[List.all_eq_true]
 constructor
 ·intro h i hi;exact h _ (qAi hi)
 ·intro h d hd
  obtain⟨i,hi,rfl⟩:=qjw hd
  exact h i hi
theorem qAJ{l:List DQ}{p:DQ→Bool}{i:Nat}(hi:i<l.length)(h:p (ix l i)=false):l.all p=false:=by
 cases ha:l.all p
 ·rfl
 ·have:=(qA1 l p).1 ha i hi;simp_all
theorem quT{l:List DQ}(hl:GDs l)(hn:l.length<1000000){i j:Nat}(hi:i<l.length)(hj:j<l.length)(side:Int) :
  (zl [.r (rD l),.i (i:Int),.i (j:Int),.i side,.i 0]).run=some (0,[.b (q4v l i j side),.i 0]):=by
 rw[qgn]
 unfold q4v
 rcases qBf hl hi hj side with⟨h1,a,b,c,d,e,h2⟩|⟨p,h1,h2⟩
 ·rw[h1]
  simp only[STD,h2]
 ·rw[h1]
  have hp:=qzo (hl.ix hi) (hl.ix hj) h1
  unfold plc at h2
  simp only[List.cons_append,List.nil_append] at h2
  have key:=q76 (S:=wJ)
   (fun k=>[.r (rD l),.i (qf (rD l)),.i (k:Int),.r (rD l),.r (rD l),.r (rD l),.i (i:Int),.i (j:Int),.i side,.b true,.s (tQ p.fx),.s (tQ p.fy),.s (tQ p.ax),.s (tQ p.ay),.s (tQ p.h),.b true,.r (rD l),.i (i:Int),.i (j:Int),.i side,.s (tQ p.fx),.s (tQ p.fy),.s (tQ p.ax),.s (tQ p.ay),.s (tQ p.h),.b true,.s (tQ p.fx),.s (tQ p.fy),.s (tQ p.ax),.s (tQ p.ay),.s (tQ p.h),.b true,.b true,.r (rD l),.i 0,.i (i:Int),.i (j:Int),.i side,.s (tQ p.fx),.s (tQ p.fy),.s (tQ p.ax),.s (tQ p.ay),.s (tQ p.h)])
   (fun k=>if decide (q1n (ix l k) p)=true then none else some (1,[.i (k:Int),.r (rD l),.r (rD l),.r (rD l),.i (i:Int),.i (j:Int),.i side,.b true,.s (tQ p.fx),.s (tQ p.fy),.s (tQ p.ax),.s (tQ p.ay),.s (tQ p.h),.b true,.r (rD l),.i (i:Int),.i (j:Int),.i side,.s (tQ p.fx),.s (tQ p.fy),.s (tQ p.ax),.s (tQ p.ay),.s (tQ p.h),.b true,.s (tQ p.fx),.s (tQ p.fy),.s (tQ p.ax),.s (tQ p.ay),.s (tQ p.h),.b true,.b true,.r (rD l),.i 0,.i (i:Int),.i (j:Int),.i side,.s (tQ p.fx),.s (tQ p.fy),.s (tQ p.ax),.s (tQ p.ay),.s (tQ p.h)]))
   (0,[.r (rD l),.r (rD l),.r (rD l),.i (i:Int),.i (j:Int),.i side,.b true,.s (tQ p.fx),.s (tQ p.fy),.s (tQ p.ax),.s (tQ p.ay),.s (tQ p.h),.b true,.r (rD l),.i (i:Int),.i (j:Int),.i side,.s (tQ p.fx),.s (tQ p.fy),.s (tQ p.ax),.s (tQ p.ay),.s (tQ p.h),.b true,.s (tQ p.fx),.s (tQ p.fy),.s (tQ p.ax),.s (tQ p.ay),.s (tQ p.h),.b true,.b true,.r (rD l),.i 0,.i (i:Int),.i (j:Int),.i side,.s (tQ p.fx),.s (tQ p.fy),.s (tQ p.ax),.s (tQ p.ay),.s (tQ p.h)])
   l.length (by omega)
   (fun k hk hf=>by
    rw[uD]
    obtain⟨x1,x2,x3⟩:=qrT hk
    have hK:=qy4 (hl.ix hk) hp
    by_cases hd:q1n (ix l k) p
    ·simp only[x1,x2,x3,STD,hK,hd,wu,q1o hk (show l.length<9223372036854775808 by omega),show (k:Int)<(l.length:Int) by omega,show (0:Int)≤(k:Int) by omega,and_self,decide_true]
    ·simp[hd] at hf)
   (fun k r hk hf=>by
    rw[uD]
    obtain⟨x1,x2,x3⟩:=qrT hk
    have hK:=qy4 (hl.ix hk) hp
    by_cases hd:q1n (ix l k) p
    ·simp[hd] at hf
    ·simp only[hd,decide_false,Bool.false_eq_true,if_false,Option.some.injEq] at hf
     subst hf
     simp only[x1,x2,x3,STD,hK,hd,wu,show (k:Int)<(l.length:Int) by omega,show (0:Int)≤(k:Int) by omega,and_self,decide_false])
   (by rw[uD];simp only[STD,wu,show ¬(l.length:Int)<(l.length:Int) by omega])
  rcases qAr (fun k=>decide (q1n (ix l k) p)) (fun k=>((1,[.i (k:Int),.r (rD l),.r (rD l),.r (rD l),.i (i:Int),.i (j:Int),.i side,.b true,.s (tQ p.fx),.s (tQ p.fy),.s (tQ p.ax),.s (tQ p.ay),.s (tQ p.h),.b true,.r (rD l),.i (i:Int),.i (j:Int),.i side,.s (tQ p.fx),.s (tQ p.fy),.s (tQ p.ax),.s (tQ p.ay),.s (tQ p.h),.b true,.s (tQ p.fx),.s (tQ p.fy),.s (tQ p.ax),.s (tQ p.ay),.s (tQ p.h),.b true,.b true,.r (rD l),.i 0,.i (i:Int),.i (j:Int),.i side,.s (tQ p.fx),.s (tQ p.fy),.s (tQ p.ax),.s (tQ p.ay),.s (tQ p.h)]):Nat×List PV)) l.length with⟨s1,s2⟩|⟨k,hk,s2,s1⟩
  ·rw[s1] at key
   have hall:(l.all fun d=>decide (q1n d p))=true:=(qA1 l _).2 s2
   simp only[Option.getD_none] at key
   simp only[STD,h2,hall]
   have key':=key
   simp only[show ((0:Nat):Int)=0 from rfl] at key'
   simp only[STD,key',qW key',show ieq 0 0=true from rfl]
  ·rw[s1] at key
   have hall:=qAJ (p:=fun d=>decide (q1n d p)) hk s2
   simp only[Option.getD_some] at key
   simp only[STD,h2,hall]
   have key':=key
   simp only[show ((0:Nat):Int)=0 from rfl] at key'
   simp only[STD,key',qW key',show ¬(1=0) by omega,show (0:Int)≤(k:Int) by omega]
end Go.Eng

namespace Go.Eng
theorem q7G{S:List PV→TR}{α:Type}(st:Nat→List PV)(f:Nat→Option α)(g:α→List PV)(fin:List PV)(n:Nat)(hn:n<9223372036854775808)
  (h:∀i,i<n→(S (st i)).run=(f i).elim (some (0,st (i+1))) (fun a=>some (2,g a))) (h3:(S (st n)).run=some (1,fin)) :
  (qj S (st 0)).run=some ((uz f 0 n).elim (0,fin) (fun a=>(1,g a))):=by
 have key:=q76 st (fun i=>(f i).map fun a=>(1,g a)) (0,fin) n hn (fun i hi hf=>by
  rw[h i hi]
  cases hfi:f i with
  | none=>rfl
  | some a=>rw[hfi] at hf;cases hf) (fun i r hi hf=>by
  rw[h i hi]
  cases hfi:f i with
  | none=>rw[hfi] at hf;cases hf
  | some a=>rw[hfi] at hf;simp at hf;rw[←hf];rfl) h3
 rw[key,qj6]
 cases uz f 0 n<;>rfl
def sd(s:Nat):Int:=cI [[.i 0],[.i 1],[.i (-1)]] (s:Int) 0
theorem qvQ(l:List DQ)(i j:Nat):uz (fun s=>qmC l i j (sd s)) 0 3=qdv l i j:=by
 have e0:sd 0=0:=rfl
 have e1:sd 1=1:=rfl
 have e2:sd 2=-1:=rfl
 simp only[uz,e0,e1,e2]
 unfold qdv
 cases qmC l i j 0
 ·cases qmC l i j 1
  ·cases qmC l i j (-1)<;>rfl
  ·rfl
 ·rfl
def dex(l:List DQ)(w:Nat×Nat×Int):List PV:=[.i 0,.r (rD l),.i (w.1:Int),.i (w.2.1:Int),.i w.2.2,.b true,.i (l.length:Int)]
def fW(o:Option (Nat×Nat×Int)):List PV:=o.elim [.i 0,.i 0,.i 0,.b false] (fun w=>[.i (w.1:Int),.i (w.2.1:Int),.i w.2.2,.b true])
theorem n3:qf [[U.i 0],[U.i 1],[U.i (-1)]]=3:=rfl
set_option maxHeartbeats 600000 in
theorem qtk{l:List DQ}(hl:GDs l)(hn:l.length<1000000):(qz [.r (rD l),.i 0]).run=some (0,fW (kd l)++[.i 0]):=by
 rw[qhs]
 have big:l.length<9223372036854775808:=by omega
 have A:=q7G (S:=vr) (fun k=>[.i (l.length:Int),.i (k:Int),.i 0,.r (rD l),.i 0,.i 0,.i 0,.b false,.i (l.length:Int)]) (fun k=>qmC l k k 0) (dex l)
  [.i 0,.r (rD l),.i 0,.i 0,.i 0,.b false,.i (l.length:Int)] l.length big
  (fun k hk=>by
   rw[q3Y]
   have hp:=quT hl hn hk hk 0
   unfold qmC
   by_cases c:q4v l k k 0=true
   ·rw[if_pos c]
    simp only[STD,hp,c,show (k:Int)<(l.length:Int) by omega,dex]
   ·rw[if_neg c]
    simp only[STD,hp,c,show (k:Int)<(l.length:Int) by omega,q1o hk big]
    rfl)
  (by rw[q3Y];simp only[STD,show ¬(l.length:Int)<(l.length:Int) by omega])
 have B:=fun i j (hi:i<l.length) (hj:j<l.length)=>q7G (S:=wP) (fun s=>[.i (i:Int),.i (j:Int),.i (l.length:Int),.i (i:Int),.i 3,.i (s:Int),.i 0,.r (rD l),.i 0,.i 0,.i 0,.b false,.i (l.length:Int),.r [[.i 0],[.i 1],[.i (-1)]]]) (fun s=>qmC l i j (sd s)) (dex l)
  [.i (i:Int),.i (j:Int),.i (l.length:Int),.i (i:Int),.i 0,.r (rD l),.i 0,.i 0,.i 0,.b false,.i (l.length:Int)] 3 (by omega)
  (fun s hs=>by
   rw[q3k]
   have hp:=quT hl hn hi hj (sd s)
   have esd:cI [[.i 0],[.i 1],[.i (-1)]] (s:Int) 0=sd s:=rfl
   unfold qmC
   by_cases c:q4v l i j (sd s)=true
   ·rw[if_pos c]
    simp only[STD,hp,c,esd,n3,show (s:Int)<3 by omega,show (0:Int)≤(s:Int) by omega,and_self,dex]
   ·rw[if_neg c]
    simp only[STD,hp,c,esd,n3,show (s:Int)<3 by omega,show (0:Int)≤(s:Int) by omega,and_self,q1o hs (show 3<9223372036854775808 by omega)]
    rfl)
  (by rw[q3k];simp only[STD,show ((3:Nat):Int)=3 from rfl,show ¬(3:Int)<3 by omega])
 have C:=fun i (hi:i<l.length)=>q7G (S:=wH) (fun k=>[.i (i:Int),.i ((i+1+k:Nat):Int),.i (l.length:Int),.i (i:Int),.i 0,.r (rD l),.i 0,.i 0,.i 0,.b false,.i (l.length:Int)]) (fun k=>qdv l i (i+1+k)) (dex l)
  [.i (l.length:Int),.i (i:Int),.i 0,.r (rD l),.i 0,.i 0,.i 0,.b false,.i (l.length:Int)] (l.length-(i+1)) (by omega)
  (fun k hk=>by
   rw[q3j]
   have hj:i+1+k<l.length:=by omega
   have b:=B i (i+1+k) hi hj
   rw[qvQ] at b
   simp only[show ((0:Nat):Int)=0 from rfl] at b
   have w:=q1o hj big
   cases hs:qdv l i (i+1+k) with
   | none=>
    rw[hs] at b
    simp only[Option.elim] at b ⊢
    simp only[STD,b,qW b,n3,show ((i+1+k:Nat):Int)<(l.length:Int) by omega,w]
    rfl
   | some v=>
    rw[hs] at b
    simp only[Option.elim,dex] at b ⊢
    simp only[STD,b,qW b,n3,show ((i+1+k:Nat):Int)<(l.length:Int) by omega,show ¬(1=0) by omega])
  (by rw[q3j];simp only[STD,show ¬((i+1+(l.length-(i+1)):Nat):Int)<(l.length:Int) by omega])
 have D:=q7G (S:=vb) (fun i=>[.i (l.length:Int),.i (i:Int),.i 0,.r (rD l),.i 0,.i 0,.i 0,.b false,.i (l.length:Int)]) (fun i=>uz (fun k=>qdv l i (i+1+k)) 0 (l.length-(i+1))) (dex l)
  [.i 0,.r (rD l),.i 0,.i 0,.i 0,.b false,.i (l.length:Int)] l.length big
  (fun i hi=>by
   rw[q3M]
   have c:=C i hi
   simp only[Nat.add_zero] at c
   have w:=q1o hi big
   cases hs:uz (fun k=>qdv l i (i+1+k)) 0 (l.length-(i+1)) with
   | none=>
    rw[hs] at c
    simp only[Option.elim] at c ⊢
    simp only[STD,w,c,qW c,show (i:Int)<(l.length:Int) by omega]
   | some v=>
    rw[hs] at c
    simp only[Option.elim,dex] at c ⊢
    simp only[STD,w,c,qW c,show (i:Int)<(l.length:Int) by omega,show ¬(1=0) by omega])
  (by rw[q3M];simp only[STD,show ¬(l.length:Int)<(l.length:Int) by omega])
 simp only[show ((0:Nat):Int)=0 from rfl] at A D
 unfold kd
 cases hs:uz (fun i=>qmC l i i 0) 0 l.length with
 | some v=>
  rw[hs] at A
  simp only[Option.elim,dex] at A
  simp only[STD,wu,A,qW A,show ¬(1=0) by omega,fW,Option.elim]
  rfl
 | none=>
  rw[hs] at A
  simp only[Option.elim] at A
  simp only[]
  cases hs':uz (fun i=>uz (fun k=>qdv l i (i+1+k)) 0 (l.length-(i+1))) 0 l.length with
  | none=>
   rw[hs'] at D
   simp only[Option.elim] at D
   simp only[STD,wu,A,qW A,D,qW D,fW,Option.elim]
   rfl
  | some v=>
   rw[hs'] at D
   simp only[Option.elim,dex] at D
   simp only[STD,wu,A,qW A,D,qW D,fW,Option.elim,show ¬(1=0) by omega]
   rfl
end Go.Eng

namespace Go.Eng
theorem qCa{d:DQ}(h:GD d):qAH (tQ d.x) (tQ d.y) (tQ d.s)=0:=
 qB1 ((vC h.x).ok (by omega) (by omega)) ((vC h.y).ok (by omega) (by omega)) ((q8k h.s).ok (by omega) (by omega)) h.nn
end Go.Eng

namespace Go.Eng
noncomputable def cD(x:R)(i:Nat):Int:=qAH (cS x (i:Int) 0) (cS x (i:Int) 1) (cS x (i:Int) 2)
noncomputable def lE(x:R):Int:=if 64<x.length then 5 else if q42 (cD x) x.length=0 then (if x.length=0 then 13 else 0) else q42 (cD x) x.length
theorem qse(x:R)(h:64<x.length∨∀i,i<x.length→∀j,(cS x (i:Int) j).length≤1000000):(wg [.r x]).run=some (0,[.i (lE x)]):=by
 rw[qq3]
 unfold lE
 by_cases hn:64<x.length
 ·have:(64:Int)<qf x:=by unfold qf;omega
  simp only[STD,this,hn]
 ·have h':∀i,i<x.length→∀j,(cS x (i:Int) j).length≤1000000:=by
   rcases h with h|h
   ·omega
   ·exact h
  have hn':¬(64:Int)<qf x:=by unfold qf;omega
  have L:=qa6 (S:=q3O) (fun k=>[.r x,.r x,.i (qf x),.i (k:Int)]) (cD x) [] [.r x] x.length (by omega)
   (fun i hi=>by
    rw[qem]
    have c:=qpT _ _ _ (h' i hi 0) (h' i hi 1) (h' i hi 2)
    have w:=q1o hi (show x.length<9223372036854775808 by omega)
    by_cases e:qAH (cS x (i:Int) 0) (cS x (i:Int) 1) (cS x (i:Int) 2)=0
    ·simp only[STD,c,e,w,qcb hi,jT,and_self,cD]
    ·simp only[STD,c,e,qcb hi,jT,and_self,cD])
   (by rw[qem];simp only[STD,qjP])
  simp only[show ((0:Nat):Int)=0 from rfl] at L
  by_cases e:q42 (cD x) x.length=0
  ·rw[if_pos e] at L
   by_cases z:x.length=0
   ·have:qf x=0:=by unfold qf;omega
    rw[if_neg hn,if_pos e,if_pos z]
    have L':=L
    rw[this] at L'
    simp only[STD,this,show ¬(64:Int)<0 by omega,L',qW L']
   ·have:¬qf x=0:=by unfold qf;omega
    simp only[STD,hn',L,qW L,hn,e,z,this]
  ·rw[if_neg e] at L
   simp only[STD,hn',L,qW L,hn,e,show ¬(1=0) by omega]
instance (s:List UInt8):Decidable (shT s):=by unfold shT;infer_instance
theorem qAZ(x:R)(i:Nat)(j:Nat):cS x (i:Int) j=((x.getD i []).getD j (.i 0)).toS:=rfl
theorem qCB{l:List DQ}(hl:GDs l)(h0:l≠[])(hn:l.length≤64):lE (rD l)=0:=by
 have hlen:(rD l).length=l.length:=by simp[rD]
 have hz:l.length≠0:=fun h=>h0 (List.length_eq_zero_iff.1 h)
 unfold lE
 rw[hlen,if_neg (by omega),if_neg hz,if_pos]
 refine qmp fun i hi=>?_
 obtain⟨x1,x2,x3⟩:=qrT hi
 unfold cD
 rw[x1,x2,x3]
 exact qCa (hl.ix hi)
theorem qAu{l:List DQ}(hl:GDs l):∀i,i<(rD l).length→∀j,(cS (rD l) (i:Int) j).length≤1000000:=by
 intro i hi j
 have hi':i<l.length:=by simpa[rD] using hi
 obtain⟨x1,x2,x3⟩:=qrT hi'
 have g:=hl.ix hi'
 match j with
 | 0=>rw[x1];have:=qnG ((vC g.x).ok (by omega) (by omega));omega
 | 1=>rw[x2];have:=qnG ((vC g.y).ok (by omega) (by omega));omega
 | 2=>rw[x3];have:=qnG ((q8k g.s).ok (by omega) (by omega));omega
 | j+3=>
  rw[qAZ]
  have e:(rD l).getD i []=qe9 (ix l i):=by
   unfold rD ix
   simp[List.getD_eq_getElem?_getD,hi']
  rw[e];simp[qe9,List.getD_eq_getElem?_getD,U.toS]
theorem qrz{l:List DQ}(hl:GDs l)(h0:l≠[])(hn:l.length≤64):(wg [.r (rD l)]).run=some (0,[.i 0]):=by
 rw[qse _ (.inr (qAu hl)),qCB hl h0 hn]
def cW(o:Option (Nat×Nat×Int)):List PV:=o.elim [.b false,.i 0,.i 0,.i 0,.i 0] (fun w=>[.b true,.i (w.1:Int),.i (w.2.1:Int),.i w.2.2,.i 0])
theorem qul{l:List DQ}(hl:GDs l)(h0:l≠[])(hn:l.length≤64):(q41 [.r (rD l)]).run=some (0,cW (kd l)):=by
 rw[qn5]
 have a:=qrz hl h0 hn
 have b:=qtk hl (by omega)
 cases hf:kd l with
 | none=>
  rw[hf] at b
  simp only[fW,Option.elim,List.cons_append,List.nil_append] at b
  simp only[STD,a,b,cW,Option.elim]
 | some w=>
  rw[hf] at b
  simp only[fW,Option.elim,List.cons_append,List.nil_append] at b
  simp only[STD,a,b,cW,Option.elim]
end Go.Eng

namespace Go.Eng
theorem q0U(l:R)(h:l.length<9223372036854775808):(qF [.r l,.r l]).run=some (0,[.b true]):=by
 have e:(qj vo [.r l,.r l,.i (qf l),.i 0]).run=some (0,[]):=by
  refine wc (fun i=>[.r l,.r l,.i (qf l),.i (i:Int)]) (0,[]) l.length h (fun i hi=>?_) ?_
  ·have h1:(i:Int)<qf l:=by unfold qf;omega
   rw[q48]
   simp only[STD,h1,q1o hi h,show (0:Int)≤(i:Int) by omega,and_self]
  ·rw[q48]
   simp only[STD,show ¬((l.length:Int)<qf l) by unfold qf;omega]
 rw[qcE]
 simp only[STD,e,qW e]
end Go.Eng

namespace Go.Eng
def two(i j:Nat):R:=[[.i (i:Int)],[.i (j:Int)]]
def qoE(i j k:Nat):R:=[[.i (i:Int)],[.i (j:Int)],[.i (k:Int)]]
def qj3(l:List DQ)(i j:Nat):Option R:=if (kd [ix l i,ix l j]).isSome=true then none else some (two i j)
def qj0(l:List DQ)(i j k:Nat):Option R:=if (kd [ix l i,ix l j,ix l k]).isSome=true then none else some (qoE i j k)
def qAv(l:List DQ):Option R:=uz (fun i=>uz (fun k=>qj3 l i (i+1+k)) 0 (l.length-(i+1))) 0 l.length
def qBR(l:List DQ):Option R:=uz (fun i=>uz (fun k=>uz (fun m=>qj0 l i (i+1+k) (i+1+k+1+m)) 0 (l.length-(i+1+k+1))) 0 (l.length-(i+1))) 0 l.length
def qmG(l:List DQ):R:=(qAv l).elim ((qBR l).getD []) id
theorem qCV{a b:DQ}(ga:GD a)(gb:GD b):GDs [a,b]:=fun d hd=>by
 simp only[List.mem_cons,List.not_mem_nil,or_false] at hd
 rcases hd with rfl|rfl<;>assumption
theorem qCT{a b c:DQ}(ga:GD a)(gb:GD b)(gc:GD c):GDs [a,b,c]:=fun d hd=>by
 simp only[List.mem_cons,List.not_mem_nil,or_false] at hd
 rcases hd with rfl|rfl|rfl<;>assumption
theorem qxN(o:Option (Nat×Nat×Int)):∃a b c,fW o=[.i a,.i b,.i c,.b o.isSome]:=by
 cases o with
 | none=>exact⟨_,_,_,rfl⟩
 | some w=>exact⟨_,_,_,rfl⟩
theorem qCD(l:List DQ)(i j k:Nat)(hk:k<2):∃m,(m=i∨m=j)∧cI (two i j) (k:Int) 0=(m:Int)∧[qe9 (ix l i),qe9 (ix l j)].take (k+1)=[qe9 (ix l i),qe9 (ix l j)].take k++[qe9 (ix l m)]:=by
 rcases (show k=0∨k=1 by omega) with rfl|rfl
 ·exact⟨i,.inl rfl,rfl,rfl⟩
 ·exact⟨j,.inr rfl,rfl,rfl⟩
theorem qCE(l:List DQ)(i j o k:Nat)(hk:k<3):∃m,(m=i∨m=j∨m=o)∧cI (qoE i j o) (k:Int) 0=(m:Int)∧[qe9 (ix l i),qe9 (ix l j),qe9 (ix l o)].take (k+1)=[qe9 (ix l i),qe9 (ix l j),qe9 (ix l o)].take k++[qe9 (ix l m)]:=by
 rcases (show k=0∨k=1∨k=2 by omega) with rfl|rfl|rfl
 ·exact⟨i,.inl rfl,rfl,rfl⟩
 ·exact⟨j,.inr (.inl rfl),rfl,rfl⟩
 ·exact⟨o,.inr (.inr rfl),rfl,rfl⟩
theorem qrJ{x:R}{k:Nat}:qf (x.take k)≤qf x:=by unfold qf;rw[List.length_take];omega
theorem quH(i j:Nat):qf (two i j)=2:=rfl
theorem qpm(i j k:Nat):qf (qoE i j k)=3:=rfl
theorem qxu{l:List DQ}(_:l.length<1000000){i j:Nat}(hi:i<l.length)(hj:j<l.length)(a b c d e f g h:Int) :
  (qj zb [.i (qf (two i j)),.i 0,.i a,.i b,.i c,.i d,.i e,.r (rD l),.i f,.i g,.i h,.r (rD l),.i 0,.r (two i j),.r []]).run=some (0,[.i a,.i b,.i c,.i d,.i e,.r (rD l),.i f,.i g,.i h,.r (rD l),.i 0,.r (two i j),.r (rD [ix l i,ix l j])]):=by
 have key:=wc (S:=zb) (fun k=>[.i (qf (two i j)),.i (k:Int),.i a,.i b,.i c,.i d,.i e,.r (rD l),.i f,.i g,.i h,.r (rD l),.i 0,.r (two i j),.r ([qe9 (ix l i),qe9 (ix l j)].take k)])
  (0,[.i a,.i b,.i c,.i d,.i e,.r (rD l),.i f,.i g,.i h,.r (rD l),.i 0,.r (two i j),.r (rD [ix l i,ix l j])]) 2 (by omega)
  (fun k hk=>by
   rw[q0O]
   obtain⟨m,hm,e1,e2⟩:=qCD l i j k hk
   have hml:m<l.length:=by rcases hm with rfl|rfl<;>assumption
   obtain⟨x1,x2,x3⟩:=qrT hml
   have w:=q1o hk (show 2<9223372036854775808 by omega)
   have t:=qrJ (x:=[qe9 (ix l i),qe9 (ix l j)]) (k:=k)
   have t2:qf [qe9 (ix l i),qe9 (ix l j)]=2:=rfl
   have t1:qf [[U.s (tQ (ix l m).x),U.s (tQ (ix l m).y),U.s (tQ (ix l m).s)]]=1:=rfl
   rw[e1,x1,x2,x3,e2]
   simp only[STD,quH,show (k:Int)<2 by omega,jT,wu,show (m:Int)<(l.length:Int) by omega,and_self,w,show qf ([qe9 (ix l i),qe9 (ix l j)].take k)+qf [[U.s (tQ (ix l m).x),U.s (tQ (ix l m).y),U.s (tQ (ix l m).s)]]≤2932031007402 by omega]
   rfl)
  (by rw[q0O];simp only[STD,quH,show ¬((2:Nat):Int)<2 by omega];rfl)
 exact key
theorem qxG{l:List DQ}(_:l.length<1000000){i j o:Nat}(hi:i<l.length)(hj:j<l.length)(ho:o<l.length)(a b c d e f g h p q:Int) :
  (qj z8 [.i (qf (qoE i j o)),.i 0,.i a,.i b,.i c,.i d,.i e,.i f,.r (rD l),.i g,.i h,.i p,.i q,.r (rD l),.i 0,.r (qoE i j o),.r []]).run=some (0,[.i a,.i b,.i c,.i d,.i e,.i f,.r (rD l),.i g,.i h,.i p,.i q,.r (rD l),.i 0,.r (qoE i j o),.r (rD [ix l i,ix l j,ix l o])]):=by
 have key:=wc (S:=z8) (fun k=>[.i (qf (qoE i j o)),.i (k:Int),.i a,.i b,.i c,.i d,.i e,.i f,.r (rD l),.i g,.i h,.i p,.i q,.r (rD l),.i 0,.r (qoE i j o),.r ([qe9 (ix l i),qe9 (ix l j),qe9 (ix l o)].take k)])
  (0,[.i a,.i b,.i c,.i d,.i e,.i f,.r (rD l),.i g,.i h,.i p,.i q,.r (rD l),.i 0,.r (qoE i j o),.r (rD [ix l i,ix l j,ix l o])]) 3 (by omega)
  (fun k hk=>by
   rw[q0Q]
   obtain⟨m,hm,e1,e2⟩:=qCE l i j o k hk
   have hml:m<l.length:=by rcases hm with rfl|rfl|rfl<;>assumption
   obtain⟨x1,x2,x3⟩:=qrT hml
   have w:=q1o hk (show 3<9223372036854775808 by omega)
   have t:=qrJ (x:=[qe9 (ix l i),qe9 (ix l j),qe9 (ix l o)]) (k:=k)
   have t2:qf [qe9 (ix l i),qe9 (ix l j),qe9 (ix l o)]=3:=rfl
   have t1:qf [[U.s (tQ (ix l m).x),U.s (tQ (ix l m).y),U.s (tQ (ix l m).s)]]=1:=rfl
   rw[e1,x1,x2,x3,e2]
   simp only[STD,qpm,show (k:Int)<3 by omega,jT,wu,show (m:Int)<(l.length:Int) by omega,and_self,w,show qf ([qe9 (ix l i),qe9 (ix l j),qe9 (ix l o)].take k)+qf [[U.s (tQ (ix l m).x),U.s (tQ (ix l m).y),U.s (tQ (ix l m).s)]]≤2932031007402 by omega]
   rfl)
  (by rw[q0Q];simp only[STD,qpm,show ¬((3:Nat):Int)<3 by omega];rfl)
 exact key
theorem qu9{l:List DQ}(hl:GDs l)(h0:l≠[])(hn:l.length≤64):(jH [.r (rD l)]).run=some (0,[.r (qmG l),.i 0]):=by
 rw[qe3]
 have a:=qrz hl h0 hn
 have big:l.length<9223372036854775808:=by omega
 have A:=fun i (hi:i<l.length)=>q7G (S:=vg) (fun k=>[.i (i:Int),.i ((i+1+k:Nat):Int),.i (l.length:Int),.i (i:Int),.r (rD l),.i 0]) (fun k=>qj3 l i (i+1+k)) (fun r=>[.i 0,.r r])
  [.i (l.length:Int),.i (i:Int),.r (rD l),.i 0] (l.length-(i+1)) (by omega)
  (fun k hk=>by
   rw[q3X]
   have hj:i+1+k<l.length:=by omega
   have g:=qxu (l:=l) (by omega) hi hj (i:Int) ((i+1+k:Nat):Int) (l.length:Int) (i:Int) ((i+1+k:Nat):Int) (l.length:Int) (i:Int) ((i+1+k:Nat):Int)
   have f:=qtk (qCV (hl.ix hi) (hl.ix hj)) (by simp)
   obtain⟨u,v,w,hfw⟩:=qxN (kd [ix l i,ix l (i+1+k)])
   rw[hfw] at f
   simp only[List.cons_append,List.nil_append] at f
   have ws:=q1o hj big
   have tw:[[U.i (i:Int)],[U.i ((i+1+k:Nat):Int)]]=two i (i+1+k):=rfl
   rw[tw]
   unfold qj3
   cases hs:(kd [ix l i,ix l (i+1+k)]).isSome
   ·rw[hs] at f
    simp only[STD,wu,g,f,show ((i+1+k:Nat):Int)<(l.length:Int) by omega,show ieq 0 0=true from rfl,Option.elim,tw]
   ·rw[hs] at f
    simp only[STD,wu,g,f,show ((i+1+k:Nat):Int)<(l.length:Int) by omega,Option.elim,ws]
    rfl)
  (by rw[q3X];simp only[STD,wu,show ¬((i+1+(l.length-(i+1)):Nat):Int)<(l.length:Int) by omega])
 have B:=q7G (S:=vH) (fun i=>[.i (l.length:Int),.i (i:Int),.r (rD l),.i 0]) (fun i=>uz (fun k=>qj3 l i (i+1+k)) 0 (l.length-(i+1))) (fun r=>[.i 0,.r r])
  [.r (rD l),.i 0] l.length big
  (fun i hi=>by
   rw[q4Q]
   have c:=A i hi
   simp only[Nat.add_zero] at c
   have w:=q1o hi big
   cases hs:uz (fun k=>qj3 l i (i+1+k)) 0 (l.length-(i+1)) with
   | none=>
    rw[hs] at c
    simp only[Option.elim] at c ⊢
    simp only[STD,w,c,qW c,show (i:Int)<(l.length:Int) by omega]
   | some v=>
    rw[hs] at c
    simp only[Option.elim] at c ⊢
    simp only[STD,w,c,qW c,show (i:Int)<(l.length:Int) by omega,show ¬(1=0) by omega])
  (by rw[q4Q];simp only[STD,show ¬(l.length:Int)<(l.length:Int) by omega])
 have C:=fun i j (hi:i<l.length) (hj:j<l.length)=>q7G (S:=vt) (fun k=>[.i (i:Int),.i (j:Int),.i ((j+1+k:Nat):Int),.i (l.length:Int),.i (i:Int),.r (rD l),.i 0]) (fun k=>qj0 l i j (j+1+k)) (fun r=>[.i 0,.r r])
  [.i (i:Int),.i (j:Int),.i (l.length:Int),.i (i:Int),.r (rD l),.i 0] (l.length-(j+1)) (by omega)
  (fun k hk=>by
   rw[q3J]
   have ho:j+1+k<l.length:=by omega
   have g:=qxG (l:=l) (by omega) hi hj ho (i:Int) (j:Int) ((j+1+k:Nat):Int) (l.length:Int) (i:Int) ((j+1+k:Nat):Int) (l.length:Int) (i:Int) (j:Int) ((j+1+k:Nat):Int)
   have f:=qtk (qCT (hl.ix hi) (hl.ix hj) (hl.ix ho)) (by simp)
   obtain⟨u,v,w,hfw⟩:=qxN (kd [ix l i,ix l j,ix l (j+1+k)])
   rw[hfw] at f
   simp only[List.cons_append,List.nil_append] at f
   have ws:=q1o ho big
   have tw:[[U.i (i:Int)],[U.i (j:Int)],[U.i ((j+1+k:Nat):Int)]]=qoE i j (j+1+k):=rfl
   rw[tw]
   unfold qj0
   cases hs:(kd [ix l i,ix l j,ix l (j+1+k)]).isSome
   ·rw[hs] at f
    simp only[STD,wu,g,f,show ((j+1+k:Nat):Int)<(l.length:Int) by omega,show ieq 0 0=true from rfl,Option.elim,tw]
   ·rw[hs] at f
    simp only[STD,wu,g,f,show ((j+1+k:Nat):Int)<(l.length:Int) by omega,Option.elim,ws]
    rfl)
  (by rw[q3J];simp only[STD,wu,show ¬((j+1+(l.length-(j+1)):Nat):Int)<(l.length:Int) by omega])
 have D:=fun i (hi:i<l.length)=>q7G (S:=vu) (fun k=>[.i (i:Int),.i ((i+1+k:Nat):Int),.i (l.length:Int),.i (i:Int),.r (rD l),.i 0]) (fun k=>uz (fun m=>qj0 l i (i+1+k) (i+1+k+1+m)) 0 (l.length-(i+1+k+1))) (fun r=>[.i 0,.r r])
  [.i (l.length:Int),.i (i:Int),.r (rD l),.i 0] (l.length-(i+1)) (by omega)
  (fun k hk=>by
   rw[q3K]
   have hj:i+1+k<l.length:=by omega
   have c:=C i (i+1+k) hi hj
   simp only[Nat.add_zero] at c
   have w:=q1o hj big
   cases hs:uz (fun m=>qj0 l i (i+1+k) (i+1+k+1+m)) 0 (l.length-(i+1+k+1)) with
   | none=>
    rw[hs] at c
    simp only[Option.elim] at c ⊢
    simp only[STD,w,c,qW c,wu,show ((i+1+k:Nat):Int)<(l.length:Int) by omega]
    rfl
   | some v=>
    rw[hs] at c
    simp only[Option.elim] at c ⊢
    simp only[STD,w,c,qW c,wu,show ((i+1+k:Nat):Int)<(l.length:Int) by omega,show ¬(1=0) by omega])
  (by rw[q3K];simp only[STD,wu,show ¬((i+1+(l.length-(i+1)):Nat):Int)<(l.length:Int) by omega])
 have E:=q7G (S:=vl) (fun i=>[.i (l.length:Int),.i (i:Int),.r (rD l),.i 0]) (fun i=>uz (fun k=>uz (fun m=>qj0 l i (i+1+k) (i+1+k+1+m)) 0 (l.length-(i+1+k+1))) 0 (l.length-(i+1))) (fun r=>[.i 0,.r r])
  [.i 0] l.length big
  (fun i hi=>by
   rw[q49]
   have c:=D i hi
   simp only[Nat.add_zero] at c
   have w:=q1o hi big
   cases hs:uz (fun k=>uz (fun m=>qj0 l i (i+1+k) (i+1+k+1+m)) 0 (l.length-(i+1+k+1))) 0 (l.length-(i+1)) with
   | none=>
    rw[hs] at c
    simp only[Option.elim] at c ⊢
    simp only[STD,w,c,qW c,show (i:Int)<(l.length:Int) by omega]
   | some v=>
    rw[hs] at c
    simp only[Option.elim] at c ⊢
    simp only[STD,w,c,qW c,show (i:Int)<(l.length:Int) by omega,show ¬(1=0) by omega])
  (by rw[q49];simp only[STD,show ¬(l.length:Int)<(l.length:Int) by omega])
 simp only[show ((0:Nat):Int)=0 from rfl] at B E
 unfold qmG
 cases hp:qAv l with
 | some r=>
  rw[show uz (fun i=>uz (fun k=>qj3 l i (i+1+k)) 0 (l.length-(i+1))) 0 l.length=some r from hp] at B
  simp only[Option.elim] at B
  simp only[STD,a,wu,B,qW B,Option.elim,id,show ¬(1=0) by omega]
 | none=>
  rw[show uz (fun i=>uz (fun k=>qj3 l i (i+1+k)) 0 (l.length-(i+1))) 0 l.length=none from hp] at B
  simp only[Option.elim] at B
  cases ht:qBR l with
  | some r=>
   rw[show uz (fun i=>uz (fun k=>uz (fun m=>qj0 l i (i+1+k) (i+1+k+1+m)) 0 (l.length-(i+1+k+1))) 0 (l.length-(i+1))) 0 l.length=some r from ht] at E
   simp only[Option.elim] at E
   simp only[STD,a,wu,B,qW B,E,qW E,Option.elim,Option.getD_some,show ¬(1=0) by omega]
  | none=>
   rw[show uz (fun i=>uz (fun k=>uz (fun m=>qj0 l i (i+1+k) (i+1+k+1+m)) 0 (l.length-(i+1+k+1))) 0 (l.length-(i+1))) 0 l.length=none from ht] at E
   simp only[Option.elim] at E
   simp only[STD,a,wu,B,qW B,E,qW E,Option.elim,Option.getD_none]
end Go.Eng

namespace Go.Eng
def chk(x0 x1 x2 x3 x4 x5:Int)(x6:Bool):Int:=
 if ¬(-100000≤x0∧x0≤100000∧-100000≤x1∧x1≤100000∧1≤x2∧x2≤100000∧1≤x3∧x3≤100000) then 2
 else if x3<x2 then 9
 else if x4<0∨100000<x4∨(x6=false∧x2≤x4) then 2
 else if x5<0∨2<x5 then 1 else 0
theorem qka(x:Int):(uc [.i x]).run=some (0,[.b (decide (-100000≤x∧x≤100000))]):=by
 rw[qt5];simp only[qdG,q4a,q8A];by_cases h:-100000≤x<;>simp[h,ile]
theorem qpe(x:Int):(q4R [.i x]).run=some (0,[.b (decide (-100000≤x∧x≤100000))]):=by
 rw[qtN];simp only[qdG,q4a,q8A];by_cases h:-100000≤x<;>simp[h,ile]
theorem qfv(x:Int):(jJ [.i x]).run=some (0,[.b (decide (1≤x∧x≤100000))]):=by
 rw[qqY];simp only[qdG,q4a,q8A];by_cases h:1≤x<;>simp[h,ile]
theorem qfq(x:Int):(jO [.i x]).run=some (0,[.b (decide (1≤x∧x≤100000))]):=by
 rw[qqn];simp only[qdG,q4a,q8A];by_cases h:1≤x<;>simp[h,ile]
theorem qci(x y:Int):(yS [.i x,.i y]).run=some (0,[.b (decide (-100000≤x∧x≤100000∧-100000≤y∧y≤100000))]):=by
 rw[qo2];simp only[qdG,q4a,qkK (qpe _),gB,qsN (qpe _),List.getD_cons_zero,PV.toB,if_true,decide_eq_true_eq]
 by_cases h:-100000≤x<;>by_cases h2:x≤100000<;>simp[h,h2]
theorem q3b(x0 x1 x2 x3 x4 x5:Int)(x6:Bool):(zY [.i x0,.i x1,.i x2,.i x3,.i x4,.i x5,.b x6]).run=some (0,[.i (chk x0 x1 x2 x3 x4 x5 x6)]):=by
 rw[qon]
 simp only[qdG,q4a,qkK (qka _),gB,qsN (qka _),qkK (qfv _),qsN (qfv _),List.getD_cons_zero,PV.toB,if_true,Bool.not_eq_true',decide_eq_false_iff_not,qhT,q8A]
 unfold chk
 cases x6<;>simp only[reduceCtorEq,if_true,if_false,false_and,true_and,or_false]<;>repeat' split
 all_goals first|rfl|omega
theorem qcl(x0 x1 x2 x3 x4 x5:Int)(x6:Bool):(q2U [.i x0,.i x1,.i x2,.i x3,.i x4,.i x5,.b x6]).run=some (0,[.i (chk x0 x1 x2 x3 x4 x5 x6)]):=by
 rw[qo9]
 simp only[qdG,q4a,qkK (qci _ _),gB,qsN (qci _ _),qkK (qfq _),qsN (qfq _),List.getD_cons_zero,PV.toB,if_true,Bool.not_eq_true',decide_eq_false_iff_not,qhT,q8A]
 unfold chk
 cases x6<;>simp only[reduceCtorEq,if_true,if_false,false_and,true_and,or_false]<;>repeat' split
 all_goals first|rfl|omega
theorem qax{x0 x1 x2 x3 x4 x5:Int}{x6:Bool}(h:chk x0 x1 x2 x3 x4 x5 x6=0):-100000≤x0∧x0≤100000∧-100000≤x1∧x1≤100000∧1≤x2∧x2≤100000∧1≤x3∧x3≤100000∧x2≤x3∧0≤x4∧x4≤100000∧(x6=false→x4<x2)∧0≤x5∧x5≤2:=by
 unfold chk at h
 repeat' split at h
 all_goals first|omega|skip
 rename_i h1 h2 h3 h4
 cases x6<;>simp at h3 ⊢<;>omega
def side(x5:Int)(x6:Bool):Int:=if (x5=2)=(x6=true) then -1 else 1
theorem qpn(x0 x1 x2 x3 x4 x5:Int)(x6:Bool)(h:0≤x5∧x5≤2):(q5T [.i x0,.i x1,.i x2,.i x3,.i x4,.i x5,.b x6]).run=some (0,[.i x0,.i x1,.i x2,.i x3,.i x4,.i x5,.b x6,.i (side x5 x6)]):=by
 rw[qtv]
 have h012:x5=0∨x5=1∨x5=2:=by omega
 cases x6<;>rcases h012 with rfl|rfl|rfl<;>rfl
theorem q2f(x0 x1 x2 x3 x4 x5:Int)(x6:Bool)(x7 x8:Int):(wh [.i x0,.i x1,.i x2,.i x3,.i x4,.i x5,.b x6,.i x7,.i x8]).run=some (0,[.i (if x8<0 then x2 else x3)]):=by
 rw[qe4]
 simp only[qdG,q4a,qhT]
 split<;>rfl
theorem qpX(x0 x1 x2 x3 x4 x5:Int)(x6:Bool):(kh [.i x0,.i x1,.i x2,.i x3,.i x4,.i x5,.b x6]).run=some (0,[.i (if (x5=2)=(x6=true) then qB .i64 x2 x4 else qk .i64 x3 x4)]):=by
 rw[qob]
 simp only[qdG,q4a,qns]
 by_cases h:x5=2<;>cases x6<;>simp[h,ieq]
theorem qmh(x0 x1 x2 x3 x4 x5:Int)(x6:Bool):(jL [.i x0,.i x1,.i x2,.i x3,.i x4,.i x5,.b x6]).run=some (0,if chk x0 x1 x2 x3 x4 x5 x6=0 then [.i (if (x5=2)=(x6=true) then x2-x4 else x3+x4),.i 0] else [.i 0,.i (chk x0 x1 x2 x3 x4 x5 x6)]):=by
 rw[qlq]
 simp only[qdG,q4a,gB,gI,List.getD_cons_zero,PV.toB,PV.toI,if_true,qmi,qkK (q3b _ _ _ _ _ _ _),qsN (q3b _ _ _ _ _ _ _)]
 by_cases hc:chk x0 x1 x2 x3 x4 x5 x6=0
 ·obtain⟨h1,h2,h3,h4,h5,h6,h7,h8,h9,h10,h11,h12,h13,h14⟩:=qax hc
  have e:=qpn x0 x1 x2 x3 x4 x5 x6 ⟨h13,h14⟩
  simp only[hc,ne_eq,not_true_eq_false,if_false,qkK e,qsN e,List.getD_cons_zero,List.getD_cons_succ,if_true,qkK (q2f _ _ _ _ _ _ _ _ _),qsN (q2f _ _ _ _ _ _ _ _ _)]
  clear e hc
  congr 4
  unfold side
  split
  ·have e1:jF .i64 (-1) x4=-1*x4:=yP (by omega)
   have e2:qk .i64 x2 (-1*x4)=x2+-1*x4:=wv (by omega)
   rw[if_pos (show (-1:Int)<0 by decide),e1,e2];omega
  ·have e1:jF .i64 1 x4=1*x4:=yP (by omega)
   have e2:qk .i64 x3 (1*x4)=x3+1*x4:=wv (by omega)
   rw[if_neg (show ¬(1:Int)<0 by decide),e1,e2];omega
 ·simp[hc]
end Go.Eng

namespace Go.Eng
def ext(x2 x3 x5:Int)(x6:Bool)(n:Int):Int:=if x5=0 then 0 else if (x5=1)=(x6=true) then x3-n else n-x2
theorem qoA(x0 x1 x2 x3 x4 x5:Int)(x6:Bool)(n:Int):(q3V [.i x0,.i x1,.i x2,.i x3,.i x4,.i x5,.b x6,.i n]).run=some (0,[.b (decide (x2≤n∧n≤x3))]):=by
 rw[qn6];simp only[STD];by_cases h:x2≤n<;>simp[h,ile]
theorem qok(x0 x1 x2 x3 x4 x5:Int)(x6:Bool)(n:Int):(kP [.i x0,.i x1,.i x2,.i x3,.i x4,.i x5,.b x6,.i n]).run=some (0,[.b (decide (x2≤n∧n≤x3))]):=by
 rw[qmq];simp only[STD];by_cases h:x2≤n<;>simp[h,ile]
theorem qqe(x0 x1 x2 x3 x4 x5:Int)(x6:Bool)(n:Int)(h:1≤x2∧x2≤100000∧1≤x3∧x3≤100000∧0≤x5∧x5≤2)(hn:1≤n∧n≤100000) :
  (vJ [.i x0,.i x1,.i x2,.i x3,.i x4,.i x5,.b x6,.i (side x5 x6),.i n]).run=some (0,[.i (ext x2 x3 x5 x6 n)]):=by
 rw[qbE]
 simp only[STD,q2f]
 have e1:qB .i64 x2 n=x2-n:=wA (by omega)
 have e2:qB .i64 x3 n=x3-n:=wA (by omega)
 have e3:jF .i64 (-1) (x2-n)=-1*(x2-n):=yP (by omega)
 have e4:jF .i64 1 (x3-n)=1*(x3-n):=yP (by omega)
 unfold ext side
 by_cases h0:x5=0
 ·simp[h0]
 ·have h12:x5=1∨x5=2:=by omega
  rcases h12 with rfl|rfl<;>cases x6<;>simp[e1,e2,e3,e4]<;>omega
theorem qyf{x2 x3 x5:Int}{x6:Bool}{n:Int}(h:1≤x2∧x2≤100000∧1≤x3∧x3≤100000)(hn:1≤n∧n≤100000):-100000≤ext x2 x3 x5 x6 n∧ext x2 x3 x5 x6 n≤100000:=by
 unfold ext;split
 ·omega
 ·split<;>omega
end Go.Eng

namespace Go.Eng
def qlv(a b c:Int):Int:=if -100000≤a∧a≤100000∧-100000≤b∧b≤100000∧1≤c∧c≤100000 then 0 else 2
theorem qg5{a b c:Int}(h:qlv a b c=0):-100000≤a∧a≤100000∧-100000≤b∧b≤100000∧1≤c∧c≤100000:=by
 unfold qlv at h;split at h
 ·assumption
 ·omega
theorem qfi(a b c:Int):(uY [.i a,.i b,.i c]).run=some (0,[.i (qlv a b c)]):=by
 rw[qq6];simp only[STD,qka,qfv];unfold qlv
 repeat' split
 all_goals first|rfl|omega
theorem qrh(a b c:Int):(q2y [.i a,.i b,.i c]).run=some (0,[.i (qlv a b c)]):=by
 rw[qpR];simp only[STD,qci,qfq];unfold qlv
 repeat' split
 all_goals first|rfl|omega
def qpU(x0 x1 x2 x3 x4 x5:Int)(x6:Bool)(a b c:Int):Int:=if chk x0 x1 x2 x3 x4 x5 x6=0 then qlv a b c else chk x0 x1 x2 x3 x4 x5 x6
theorem qwf{x0 x1 x2 x3 x4 x5:Int}{x6:Bool}{a b c:Int}(h:qpU x0 x1 x2 x3 x4 x5 x6 a b c=0):chk x0 x1 x2 x3 x4 x5 x6=0∧qlv a b c=0:=by
 unfold qpU at h;split at h
 ·exact⟨by assumption,h⟩
 ·exact absurd h (by assumption)
theorem qkB(x0 x1 x2 x3 x4 x5:Int)(x6:Bool)(a b c:Int):(q6J [.i x0,.i x1,.i x2,.i x3,.i x4,.i x5,.b x6,.i a,.i b,.i c]).run=some (0,[.i (qpU x0 x1 x2 x3 x4 x5 x6 a b c)]):=by
 rw[qpQ];simp only[STD,q3b,qfi];unfold qpU
 by_cases hc:chk x0 x1 x2 x3 x4 x5 x6=0<;>simp[hc]
def sq2(u v:Int):Int:=u*u+v*v
theorem qu8(x0 x1 a b:Int)(h:-100000≤x0∧x0≤100000∧-100000≤x1∧x1≤100000)(k:-100000≤a∧a≤100000∧-100000≤b∧b≤100000) :
  (q9g [.i x0,.i x1,.i a,.i b]).run=some (0,[.i (sq2 (x0-a) (x1-b))]):=by
 rw[qsB]
 have e1:qB .i64 x0 a=x0-a:=wA (by omega)
 have e2:qB .i64 x1 b=x1-b:=wA (by omega)
 have b1:=qu4 (a:=x0-a) (b:=x0-a) (A:=200000) (B:=200000) (by omega) (by omega) (by omega) (by omega)
 have b2:=qu4 (a:=x1-b) (b:=x1-b) (A:=200000) (B:=200000) (by omega) (by omega) (by omega) (by omega)
 have e3:jF .i64 (x0-a) (x0-a)=(x0-a)*(x0-a):=yP (by omega)
 have e4:jF .i64 (x1-b) (x1-b)=(x1-b)*(x1-b):=yP (by omega)
 have e5:qk .i64 ((x0-a)*(x0-a)) ((x1-b)*(x1-b))=sq2 (x0-a) (x1-b):=wv (by omega)
 simp only[STD,qoc,qoh,e1,e2,e3,e4,e5]
theorem qlw(x0 x1 x2 x3 x4 x5:Int)(x6:Bool)(a b c:Int):(vZ [.i x0,.i x1,.i x2,.i x3,.i x4,.i x5,.b x6,.i a,.i b,.i c]).run =
  some (0,if qpU x0 x1 x2 x3 x4 x5 x6 a b c=0 then [.i (sq2 (a-x0) (b-x1)),.i 0] else [.i 0,.i (qpU x0 x1 x2 x3 x4 x5 x6 a b c)]):=by
 rw[qkm]
 by_cases hc:qpU x0 x1 x2 x3 x4 x5 x6 a b c=0
 ·obtain⟨c1,c2⟩:=qwf hc
  obtain⟨h1,h2,h3,h4,_⟩:=qax c1
  obtain⟨k1,k2,k3,k4,_⟩:=qg5 c2
  have e1:qB .i64 a x0=a-x0:=wA (by omega)
  have e2:qB .i64 b x1=b-x1:=wA (by omega)
  have b1:=qu4 (a:=a-x0) (b:=a-x0) (A:=200000) (B:=200000) (by omega) (by omega) (by omega) (by omega)
  have b2:=qu4 (a:=b-x1) (b:=b-x1) (A:=200000) (B:=200000) (by omega) (by omega) (by omega) (by omega)
  have e3:jF .i64 (a-x0) (a-x0)=(a-x0)*(a-x0):=yP (by omega)
  have e4:jF .i64 (b-x1) (b-x1)=(b-x1)*(b-x1):=yP (by omega)
  have e5:qk .i64 ((a-x0)*(a-x0)) ((b-x1)*(b-x1))=sq2 (a-x0) (b-x1):=wv (by omega)
  simp only[STD,qkB,hc,qkC,e1,e2,e3,e4,e5]
 ·simp[qkB,hc,STD]
def qyR(x0 x1 x2 x3 x4 x5:Int)(x6:Bool)(a b c:Int):Bool:=decide (x2≤c∧c≤x3∧4*sq2 (a-x0) (b-x1)≤(x4+ext x2 x3 x5 x6 c)*(x4+ext x2 x3 x5 x6 c))
theorem qrg(x0 x1 x2 x3 x4 x5:Int)(x6:Bool)(a b c:Int)(hc:chk x0 x1 x2 x3 x4 x5 x6=0)(hr:qlv a b c=0) :
  (q4F [.i x0,.i x1,.i x2,.i x3,.i x4,.i x5,.b x6,.i a,.i b,.i c]).run=some (0,[.b (qyR x0 x1 x2 x3 x4 x5 x6 a b c)]):=by
 rw[qqQ]
 obtain⟨h1,h2,h3,h4,h5,h6,h7,h8,h9,h10,h11,h12,h13,h14⟩:=qax hc
 obtain⟨k1,k2,k3,k4,k5,k6⟩:=qg5 hr
 have e1:qB .i64 a x0=a-x0:=wA (by omega)
 have e2:qB .i64 b x1=b-x1:=wA (by omega)
 have b1:=qu4 (a:=a-x0) (b:=a-x0) (A:=200000) (B:=200000) (by omega) (by omega) (by omega) (by omega)
 have b2:=qu4 (a:=b-x1) (b:=b-x1) (A:=200000) (B:=200000) (by omega) (by omega) (by omega) (by omega)
 have e3:jF .i64 (a-x0) (a-x0)=(a-x0)*(a-x0):=yP (by omega)
 have e4:jF .i64 (b-x1) (b-x1)=(b-x1)*(b-x1):=yP (by omega)
 have e5:qk .i64 ((a-x0)*(a-x0)) ((b-x1)*(b-x1))=sq2 (a-x0) (b-x1):=wv (by omega)
 have e6:jF .i64 4 (sq2 (a-x0) (b-x1))=4*sq2 (a-x0) (b-x1):=yP (by unfold sq2;omega)
 have hb:=qyf (x5:=x5) (x6:=x6) (n:=c) ⟨h5,h6,h7,h8⟩ ⟨k5,k6⟩
 have e7:qk .i64 x4 (ext x2 x3 x5 x6 c)=x4+ext x2 x3 x5 x6 c:=wv (by omega)
 have b3:=qu4 (a:=x4+ext x2 x3 x5 x6 c) (b:=x4+ext x2 x3 x5 x6 c) (A:=200000) (B:=200000) (by omega) (by omega) (by omega) (by omega)
 have e8:jF .i64 (x4+ext x2 x3 x5 x6 c) (x4+ext x2 x3 x5 x6 c)=(x4+ext x2 x3 x5 x6 c)*(x4+ext x2 x3 x5 x6 c):=yP (by omega)
 simp only[STD,qpn _ _ _ _ _ _ _ ⟨h13,h14⟩,qqe x0 x1 x2 x3 x4 x5 x6 c ⟨h5,h6,h7,h8,h13,h14⟩ ⟨k5,k6⟩,qkC,qoA,e1,e2,e3,e4,e5,e6,e7,e8]
 unfold qyR
 by_cases hw:x2≤c∧c≤x3
 ·simp[hw,ile]
 ·simp[hw]<;>(intro q1 q2;exact absurd ⟨q1,q2⟩ hw)
end Go.Eng

namespace Go.Eng
def qqF(l:R)(i:Nat):Int:=chk (cI l i 0) (cI l i 1) (cI l i 2) (cI l i 3) (cI l i 4) (cI l i 5) (cB l i 6)
def qpj(l:R)(i:Nat):Int:=qlv (cI l i 0) (cI l i 1) (cI l i 2)
def qeR(x0 x1:R):Int:=
 if 16<qf x0 then 5 else match uz (q7S (qqF x0)) 0 x0.length with
 | some e=>e
 | none=>if qf x1≠qf x0 then 8 else match uz (q7S (qpj x1)) 0 x1.length with
  | some e=>e
  | none=>0
theorem qpo{f:Nat→Int}{i:Nat}(h:(q7S f i).map (fun e=>(1,[PV.i e]))=none):f i=0:=by
 unfold q7S at h;split at h
 ·assumption
 ·simp at h
theorem qoM{f:Nat→Int}{i:Nat}{r:Nat×List PV}(h:(q7S f i).map (fun e=>(1,[PV.i e]))=some r):f i≠0∧r=(1,[.i (f i)]):=by
 unfold q7S at h;split at h
 ·simp at h
 ·simp at h;exact⟨by assumption,h.symm⟩
theorem qf6(x0 x1:R)(h:x0.length<9223372036854775808):(qj yB [.r x0,.r x1,.r x0,.i (qf x0),.i 0]).run =
  some (((uz (q7S (qqF x0)) 0 x0.length).map fun e=>(1,[PV.i e])).getD (0,[.r x0,.r x1])):=by
 rw[←qj6]
 refine q76 (fun i=>[.r x0,.r x1,.r x0,.i (qf x0),.i (i:Int)]) _ (0,[.r x0,.r x1]) x0.length h (fun i hi hf=>?_) (fun i r hi hf=>?_) ?_
 ·have h1:(i:Int)<qf x0:=by unfold qf;omega
  have h2:=qpo hf
  unfold qqF at h2
  rw[q2C]
  simp only[STD,h1,q3b,h2,q1o hi h,show (0:Int)≤(i:Int) by omega,and_self]
 ·have h1:(i:Int)<qf x0:=by unfold qf;omega
  obtain⟨h2,rfl⟩:=qoM hf
  unfold qqF at h2 ⊢
  rw[q2C]
  simp only[STD,h1,q3b,h2,show (0:Int)≤(i:Int) by omega,and_self]
 ·rw[q2C]
  simp only[STD,show ¬((x0.length:Int)<qf x0) by unfold qf;omega]
theorem qe0(x1:R)(h:x1.length<9223372036854775808):(qj jM [.r x1,.i (qf x1),.i 0]).run =
  some (((uz (q7S (qpj x1)) 0 x1.length).map fun e=>(1,[PV.i e])).getD (0,[])):=by
 rw[←qj6]
 refine q76 (fun i=>[.r x1,.i (qf x1),.i (i:Int)]) _ (0,[]) x1.length h (fun i hi hf=>?_) (fun i r hi hf=>?_) ?_
 ·have h1:(i:Int)<qf x1:=by unfold qf;omega
  have h2:=qpo hf
  unfold qpj at h2
  rw[q1M]
  simp only[STD,h1,qfi,h2,q1o hi h,show (0:Int)≤(i:Int) by omega,and_self]
 ·have h1:(i:Int)<qf x1:=by unfold qf;omega
  obtain⟨h2,rfl⟩:=qoM hf
  unfold qpj at h2 ⊢
  rw[q1M]
  simp only[STD,h1,qfi,h2,show (0:Int)≤(i:Int) by omega,and_self]
 ·rw[q1M]
  simp only[STD,show ¬((x1.length:Int)<qf x1) by unfold qf;omega]
theorem qan(x0 x1:R)(h:x0.length<9223372036854775808)(k:x1.length<9223372036854775808):(yh [.r x0,.r x1]).run=some (0,[.i (qeR x0 x1)]):=by
 rw[qhH]
 unfold qeR
 have e1:=qf6 x0 x1 h
 have e2:=qe0 x1 k
 by_cases h16:16<qf x0
 ·simp[h16,STD]
 ·cases hs:uz (q7S (qqF x0)) 0 x0.length with
  | some e=>
   rw[hs] at e1
   simp only[Option.map_some,Option.getD_some] at e1
   simp[h16,STD,e1,qW e1]
  | none=>
   rw[hs] at e1
   simp only[Option.map_none,Option.getD_none] at e1
   by_cases hl:qf x1=qf x0
   ·cases ht:uz (q7S (qpj x1)) 0 x1.length with
    | some e=>
     rw[ht] at e2
     simp only[Option.map_some,Option.getD_some] at e2
     rw[hl] at e2
     simp[h16,STD,e1,qW e1,hl,e2,qW e2]
    | none=>
     rw[ht] at e2
     simp only[Option.map_none,Option.getD_none] at e2
     rw[hl] at e2
     simp[h16,STD,e1,qW e1,hl,e2,qW e2]
   ·simp[h16,STD,e1,qW e1,hl]
theorem qtX{x0 x1:R}(h:qeR x0 x1=0):x0.length≤16∧x1.length=x0.length∧(∀i,i<x0.length→qqF x0 i=0)∧(∀i,i<x1.length→qpj x1 i=0):=by
 unfold qeR at h
 split at h
 ·omega
 ·rename_i h16
  split at h
  ·rename_i e he;exact absurd h (qjh he)
  ·rename_i he
   split at h
   ·omega
   ·rename_i hl
    split at h
    ·rename_i e hf;exact absurd h (qjh hf)
    ·rename_i hf
     unfold qf at hl h16
     exact⟨by omega,by omega,qmO he,qmO hf⟩
def qdI(x0 x1:R)(i:Nat):Bool:=!qyR (cI x0 i 0) (cI x0 i 1) (cI x0 i 2) (cI x0 i 3) (cI x0 i 4) (cI x0 i 5) (cB x0 i 6) (cI x1 i 0) (cI x1 i 1) (cI x1 i 2)
def qAO(x0 x1:R):List PV:=if qeR x0 x1=0 then [.r (pick (qdI x0 x1) x0.length),.i 0] else [.r [],.i (qeR x0 x1)]
theorem qdq(x0 x1:R)(h:x0.length<9223372036854775808)(k:x1.length<9223372036854775808):(uJ [.r x0,.r x1]).run=some (0,qAO x0 x1):=by
 rw[qkj]
 unfold qAO
 by_cases hp:qeR x0 x1=0
 ·obtain⟨h16,hl,ht,hr⟩:=qtX hp
  have e:(qj uX [.r x1,.r x0,.i (qf x0),.i 0,.r []]).run=some (0,[.r (pick (qdI x0 x1) x0.length)]):=by
   refine wc (fun i=>[.r x1,.r x0,.i (qf x0),.i (i:Int),.r (pick (qdI x0 x1) i)]) (0,[.r (pick (qdI x0 x1) x0.length)]) x0.length h (fun i hi=>?_) ?_
   ·have h1:(i:Int)<qf x0:=by unfold qf;omega
    have h2:(i:Int)<qf x1:=by unfold qf;omega
    have h3:qf (pick (qdI x0 x1) i)+qf [[U.i (i:Int)]]≤17592186044416:=by
     have:=qcI (qdI x0 x1) i
     rw[quK];unfold qf;omega
    rw[q93]
    have hg:=qrg (cI x0 i 0) (cI x0 i 1) (cI x0 i 2) (cI x0 i 3) (cI x0 i 4) (cI x0 i 5) (cB x0 i 6) (cI x1 i 0) (cI x1 i 1) (cI x1 i 2) (ht i hi) (hr i (by omega))
    simp only[STD,h1,h2,h3,hg,q1o hi h,show (0:Int)≤(i:Int) by omega,and_self,pick]
    unfold qdI
    cases qyR (cI x0 i 0) (cI x0 i 1) (cI x0 i 2) (cI x0 i 3) (cI x0 i 4) (cI x0 i 5) (cB x0 i 6) (cI x1 i 0) (cI x1 i 1) (cI x1 i 2)<;>simp
   ·rw[q93]
    simp only[STD,show ¬((x0.length:Int)<qf x0) by unfold qf;omega]
  simp only[STD,qan x0 x1 h k,hp,e]
 ·simp[STD,qan x0 x1 h k,hp]
end Go.Eng

namespace Go.Eng
def zD(x y n:Int):DQ:=⟨(x:Rat),(y:Rat),Rat.divInt n 2*Rat.divInt n 2⟩
theorem qCy(n:Int):Rat.divInt (n*n) 4=Rat.divInt n 2*Rat.divInt n 2:=by
 rw[Rat.divInt_mul_divInt];rfl
theorem quN{x:Int}(h:-999999≤x∧x≤999999):nl x≤6:=by
 have:=qer (m:=x) (n:=999999) (by omega)
 have e:nl 999999=6:=by decide
 omega
theorem qCm{x:Int}(h:-999999999999≤x∧x≤999999999999):nl x≤12:=by
 have:=qer (m:=x) (n:=999999999999) (by omega)
 have e:nl 999999999999=12:=by decide
 omega
theorem qzQ{n:Int}(h:-999999≤n∧n≤999999):0≤n*n∧n*n≤999998000001:=by
 have b:=qu4 (a:=n) (b:=n) (A:=999999) (B:=999999) (by omega) (by omega) (by omega) (by omega)
 refine⟨?_,by omega⟩
 rcases Int.le_total 0 n with h0|h0
 ·exact Int.mul_nonneg h0 h0
 ·exact Int.mul_nonneg_of_nonpos_of_nonpos h0 h0
theorem qyQ{x:Int}(h:-999999≤x∧x≤999999):cls (x:Rat):=by
 refine .inl ⟨?_,by simp⟩
 have:=quN h
 unfold qn;simp;omega
theorem qsr{n:Int}(h:-999999≤n∧n≤999999):qC4 (Rat.divInt n 2*Rat.divInt n 2):=by
 rw[←qCy]
 have r:=qzQ h
 have e:Rat.divInt (n*n) 4=mkRat (n*n) 4:=rfl
 rw[e]
 have m:=q9T (n*n) 4
 have l:=qCm (x:=n*n) (by omega)
 have d:dl 4=1:=by decide
 unfold qC4 qn qd
 omega
theorem qCM{x y n:Int}(hx:-999999≤x∧x≤999999)(hy:-999999≤y∧y≤999999)(hn:-999999≤n∧n≤999999):GD (zD x y n):=
 ⟨qyQ hx,qyQ hy,qsr hn,qjO _⟩
end Go.Eng

namespace Go.Eng
theorem qr8{m n:Int}(hn0:n≠0)(hm:okL m)(hn:okL n):(q6W [.s (tI m),.s (tI n)]).run=some (0,[.s (tQ (Rat.divInt m n)),.i 0]):=by
 rw[qqi]
 have key:=wc (S:=q1E) (fun i=>[.s (tI m),.s (tI n),.i 2,.i (i:Int),.r [[.s (tI m)],[.s (tI n)]]]) (0,[.s (tI m),.s (tI n)]) 2 (by omega) (fun i hi=>by
  rw[qeZ]
  rcases (show i=0∨i=1 by omega) with rfl|rfl
  ·have e:cS [[.s (tI m)],[.s (tI n)]] ((0:Nat):Int) 0=tI m:=rfl
   simp only[e,STD,qdd hm,show qf [[U.s (tI m)],[.s (tI n)]]=2 from rfl]
   rfl
  ·have e:cS [[.s (tI m)],[.s (tI n)]] ((1:Nat):Int) 0=tI n:=rfl
   simp only[e,STD,qdd hn,show qf [[U.s (tI m)],[.s (tI n)]]=2 from rfl]
   rfl) (by rw[qeZ];simp only[STD,show ((2:Nat):Int)=2 from rfl,show ¬(2:Int)<2 by omega])
 have key':(qj q1E [.s (tI m),.s (tI n),.i (qf [[U.s (tI m)],[.s (tI n)]]),.i 0,.r [[.s (tI m)],[.s (tI n)]]]).run=some (0,[.s (tI m),.s (tI n)]):=key
 have z:(seq (tI n) [48]=true)=False:=by rw[yN,q5Y];exact eq_false hn0
 simp only[STD,key',qW key',z,(qjl hn0 hm hn).1]
theorem qvY{m n:Int}(hn0:n≠0)(hm:-999999999999999≤m∧m≤999999999999999)(hn:-999999999999999≤n∧n≤999999999999999):(q8s [.i m,.i n]).run=some (0,[.s (tQ (Rat.divInt m n)),.i 0]):=by
 have ok:∀k:Int,-999999999999999≤k∧k≤999999999999999→okL k:=fun k hk=>by
  have:=qer (m:=k) (n:=999999999999999) (by omega)
  have e:nl 999999999999999=15:=by decide
  unfold okL;omega
 rw[qtZ]
 simp only[STD,q6a m (by omega),q6a n (by omega),qr8 hn0 (ok m hm) (ok n hn)]
theorem qj4{m:Int}(hm:-999999999999999≤m∧m≤999999999999999):(q0S [.i m]).run=some (0,[.s (tQ (m:Rat))]):=by
 rw[qol,qxy]
 simp only[STD,q6a m (by omega)]
def inR(x:Int):Prop:=-999999≤x∧x≤999999
theorem j9(l:R):(qf l=0)=(l.length=0):=by unfold qf;exact propext ⟨fun h=>by omega,fun h=>by omega⟩
structure Rt (x0 x1:R):Prop where
 n:x0.length≤16
 e:x1.length=x0.length
 ne:x0.length≠0
 t:∀i,i<x0.length→qqF x0 i=0
 r:∀i,i<x0.length→qpj x1 i=0
 i:∀i:Nat,i<x0.length→cI x0 i 2≤cI x1 i 2∧cI x1 i 2≤cI x0 i 3
end Go.Eng

namespace Go.Eng
theorem qiN(a:Int):0≤a*a:=by
 rcases Int.le_total 0 a with h|h
 ·exact Int.mul_nonneg h h
 ·exact Int.mul_nonneg_of_nonpos_of_nonpos h h
theorem qri{a b:Int}(hb:0≤b)(h:a*a≤b*b):a≤b:=by
 apply Classical.byContradiction
 intro hh
 have h1:b+1≤a:=by omega
 have:=Int.mul_le_mul h1 h1 (by omega) (by omega)
 grind
theorem qrr{ux uy vx vy a b n:Int}(ha:0≤a)(hb:0≤b)(h1:4*(ux*ux+uy*uy)≤a*a)(h2:4*(vx*vx+vy*vy)≤b*b)(hn:a+b≤n) :
  4*((ux-vx)*(ux-vx)+(uy-vy)*(uy-vy))≤n*n:=by
 have hab:=Int.mul_nonneg ha hb
 have c:(4*-(ux*vx+uy*vy))*(4*-(ux*vx+uy*vy))≤(a*b)*(a*b):=by
  have g:=qiN (ux*vy-uy*vx)
  have p1:=Int.mul_le_mul h1 h2 (by have:=qiN vx;have:=qiN vy;omega) (qiN a)
  grind
 have d:=qri hab c
 have e:=Int.mul_le_mul hn hn (by omega) (by omega)
 grind
end Go.Eng

namespace Go.Eng
def qj2(x0 x1:R)(i:Nat):Int:=
 if qqF x0 i=0 then (if qqF x1 i=0 then (if cI x0 i 5=1∧cI x1 i 5=1 then (if (cI x0 i 0=cI x1 i 0∧cI x0 i 1=cI x1 i 1)∧cB x0 i 6≠cB x1 i 6 then 0 else 16) else 14) else qqF x1 i) else qqF x0 i
theorem qoQ{x0 x1:R}{i:Nat}(h:qj2 x0 x1 i=0):qqF x0 i=0∧qqF x1 i=0∧(cI x0 i 5=1∧cI x1 i 5=1)∧(cI x0 i 0=cI x1 i 0∧cI x0 i 1=cI x1 i 1)∧cB x0 i 6≠cB x1 i 6:=by
 unfold qj2 at h
 split at h
 ·rename_i h1
  split at h
  ·rename_i h2
   split at h
   ·rename_i h3
    split at h
    ·rename_i h4;exact⟨h1,h2,h3,h4.1,h4.2⟩
    ·omega
   ·omega
  ·rename_i h2;exact absurd h h2
 ·rename_i h1;exact absurd h h1
def q3Z(x0 x1:R):Int:=if x0.length=0 then 13 else if 16<x0.length then 5 else if x1.length=x0.length then q42 (qj2 x0 x1) x0.length else 8
structure Jt (x0 x1:R):Prop where
 n:x0.length≤16
 ne:x0.length≠0
 e:x1.length=x0.length
 p:∀i,i<x0.length→qj2 x0 x1 i=0
theorem q4r{x0 x1:R}(h:q3Z x0 x1=0):Jt x0 x1:=by
 unfold q3Z at h
 split at h
 ·omega
 ·rename_i h1
  split at h
  ·omega
  ·rename_i h2
   split at h
   ·rename_i h3;exact⟨by omega,h1,h3,fun i hi=>qhz h i hi⟩
   ·omega
theorem qro{x0 x1:R}(h:Jt x0 x1):q3Z x0 x1=0:=by
 unfold q3Z
 rw[if_neg h.ne,if_neg (by have:=h.n;omega),if_pos h.e,qmp h.p]
def gau(l:R)(i:Nat):Int:=if cB l i 6=true then cI l i 3+cI l i 4 else cI l i 2-cI l i 4
theorem qA9{l:R}{i:Nat}(h:cI l i 5=1):(if (cI l i 5=2)=(cB l i 6=true) then cI l i 2-cI l i 4 else cI l i 3+cI l i 4)=gau l i:=by
 unfold gau
 rw[h]
 cases cB l i 6<;>simp
def mgA(x0 x1:R)(i:Nat):Int:=if cB x0 i 6=true then gau x1 i-gau x0 i else gau x0 i-gau x1 i
def mgL(x0 x1:R)(n:Nat):R:=qhn (fun i=>[.i (mgA x0 x1 i)]) n
def qmm(x0 x1:R):Bool:=decide (∀i,i<x0.length→0≤mgA x0 x1 i)
def qyD(l c:R)(i:Nat):Prop:=cI l i 2≤cI c i 2∧cI c i 2≤cI l i 3
instance (l c:R) (i:Nat):Decidable (qyD l c i):=inferInstanceAs (Decidable (_∧_))
def qyT(x0 x1 x2 x3:R)(i:Nat):Int:=if qpj x2 i=0 then (if qpj x3 i=0 then (if qyD x0 x2 i∧qyD x1 x3 i then 0 else 14) else qpj x3 i) else qpj x2 i
theorem qnv{x0 x1 x2 x3:R}{i:Nat}(h:qyT x0 x1 x2 x3 i=0):qpj x2 i=0∧qpj x3 i=0∧qyD x0 x2 i∧qyD x1 x3 i:=by
 unfold qyT at h
 split at h
 ·rename_i h1
  split at h
  ·rename_i h2
   split at h
   ·rename_i h3;exact⟨h1,h2,h3⟩
   ·omega
  ·rename_i h2;exact absurd h h2
 ·rename_i h1;exact absurd h h1
def qoG(x0 x1 x2 x3:R):Int:=if q3Z x0 x1=0 then (if x2.length=x0.length∧x3.length=x1.length then q42 (qyT x0 x1 x2 x3) x0.length else 8) else q3Z x0 x1
structure Gv (x0 x1 x2 x3:R):Prop where
 j:Jt x0 x1
 e2:x2.length=x0.length
 e3:x3.length=x0.length
 g:∀i,i<x0.length→qyT x0 x1 x2 x3 i=0
theorem qew{x0 x1 x2 x3:R}(h:qoG x0 x1 x2 x3=0):Gv x0 x1 x2 x3:=by
 unfold qoG at h
 split at h
 ·rename_i h1
  have j:=q4r h1
  split at h
  ·rename_i h2;exact⟨j,h2.1,h2.2.trans j.e,fun i hi=>qhz h i hi⟩
  ·omega
 ·rename_i h1;exact absurd h h1
theorem qye{x0 x1 x2 x3:R}(h:Gv x0 x1 x2 x3):qoG x0 x1 x2 x3=0:=by
 unfold qoG
 rw[if_pos (qro h.j),if_pos ⟨h.e2,h.e3.trans h.j.e.symm⟩,qmp h.g]
def q3L(x0 x2 x3:R)(i:Nat):Int:=if cB x0 i 6=true then cI x3 i 2-cI x2 i 2 else cI x2 i 2-cI x3 i 2
def qvt(x0 x2 x3:R)(i:Nat):Bool:=decide (0≤q3L x0 x2 x3 i∧4*sq2 (cI x2 i 0-cI x3 i 0) (cI x2 i 1-cI x3 i 1)≤q3L x0 x2 x3 i*q3L x0 x2 x3 i)
def zA(x0 x2 x3:R)(i:Nat):DQ:=zD (cI x3 i 0-cI x2 i 0) (cI x3 i 1-cI x2 i 1) (q3L x0 x2 x3 i)
def zAT(x0 x2 x3:R)(k:Nat):List DQ:=(List.range k).map (zA x0 x2 x3)
theorem qzM(x0 x2 x3:R)(k:Nat):zAT x0 x2 x3 (k+1)=zAT x0 x2 x3 k++[zA x0 x2 x3 k]:=by unfold zAT;rw[List.range_succ,List.map_append];rfl
theorem qnn(x0 x2 x3:R)(k:Nat):(zAT x0 x2 x3 k).length=k:=by simp[zAT]
def qab(x0 x2 x3:R):Option Nat:=uz (fun i=>if q3L x0 x2 x3 i<0 then some i else none) 0 x0.length
structure GvN (x0 x2 x3:R) (i:Nat):Prop where
 ax:-100000≤cI x2 i 0∧cI x2 i 0≤100000
 ay:-100000≤cI x2 i 1∧cI x2 i 1≤100000
 sa:1≤cI x2 i 2∧cI x2 i 2≤100000
 bx:-100000≤cI x3 i 0∧cI x3 i 0≤100000
 by_:-100000≤cI x3 i 1∧cI x3 i 1≤100000
 sb:1≤cI x3 i 2∧cI x3 i 2≤100000
 pl:-100000≤q3L x0 x2 x3 i∧q3L x0 x2 x3 i≤100000
theorem Gv.num{x0 x1 x2 x3:R}(h:Gv x0 x1 x2 x3){i:Nat}(hi:i<x0.length):GvN x0 x2 x3 i:=by
 obtain⟨h1,h2,_,_⟩:=qnv (h.g i hi)
 obtain⟨a1,a2,a3,a4,a5,a6⟩:=qg5 h1
 obtain⟨b1,b2,b3,b4,b5,b6⟩:=qg5 h2
 refine⟨⟨a1,a2⟩,⟨a3,a4⟩,⟨a5,a6⟩,⟨b1,b2⟩,⟨b3,b4⟩,⟨b5,b6⟩,?_⟩
 unfold q3L;split<;>omega
theorem Gv.gd{x0 x1 x2 x3:R}(h:Gv x0 x1 x2 x3){i:Nat}(hi:i<x0.length):GD (zA x0 x2 x3 i):=by
 have n:=h.num hi
 obtain⟨n1,n2,n3,n4,n5,n6,n7⟩:=n
 exact qCM (by omega) (by omega) (by omega)
theorem Gv.gds{x0 x1 x2 x3:R}(h:Gv x0 x1 x2 x3):GDs (zAT x0 x2 x3 x0.length):=fun d hd=>by
 obtain⟨i,hi,rfl⟩:=List.mem_map.1 hd
 exact h.gd (List.mem_range.1 hi)
theorem Gv.nez{x0 x1 x2 x3:R}(h:Gv x0 x1 x2 x3):zAT x0 x2 x3 x0.length≠[]:=by
 intro e
 have:=congrArg List.length e
 rw[qnn] at this
 exact h.j.ne this
theorem Gv.nn{x0 x1 x2 x3:R}(h:Gv x0 x1 x2 x3):∀d∈zAT x0 x2 x3 x0.length,0≤d.s:=fun d hd=>(h.gds d hd).nn
theorem qCU(u v a:Int):((u:Rat)*u+(v:Rat)*v≤Rat.divInt a 2*Rat.divInt a 2)↔4*sq2 u v≤a*a:=by
 have e:Rat.divInt a 2=(a:Rat)/2:=by rw[Rat.divInt_eq_div];rfl
 rw[e]
 unfold sq2
 have c:(4*(u*u+v*v)≤a*a)↔((4*((u:Rat)*u+(v:Rat)*v))≤(a:Rat)*a):=by
  rw[←Rat.intCast_le_intCast];simp
 rw[c]
 constructor<;>intro h<;>grind
theorem qvU{x0 x2 x3:R}{n:Nat}(h:∀i,i<n→qvt x0 x2 x3 i=true):qzv (zAT x0 x2 x3 n):=by
 refine⟨0,0,fun d hd=>?_⟩
 obtain⟨i,hi,rfl⟩:=List.mem_map.1 hd
 have e:=h i (List.mem_range.1 hi)
 unfold qvt at e
 rw[decide_eq_true_iff] at e
 have t:=(qCU (cI x2 i 0-cI x3 i 0) (cI x2 i 1-cI x3 i 1) (q3L x0 x2 x3 i)).2 e.2
 unfold pw zA zD
 simp only[Rat.intCast_sub] at t ⊢
 grind
theorem qvD{x0 x2 x3:R}:qab x0 x2 x3=none↔∀i,i<x0.length→0≤q3L x0 x2 x3 i:=by
 unfold qab
 constructor
 ·intro h i hi
  have:=q5i h i (by omega) (by omega)
  split at this
  ·cases this
  ·omega
 ·intro h
  rw[q6m (g:=fun _=>none) (fun j _ hj=>by rw[if_neg (by have:=h j (by omega);omega)]),qec]
theorem qtg{x0 x2 x3:R}(h:∀i,i<x0.length→qvt x0 x2 x3 i=true):qab x0 x2 x3=none:=
 qvD.2 fun i hi=>by
  have e:=h i hi
  unfold qvt at e
  rw[decide_eq_true_iff] at e
  exact e.1
theorem qAV{x0 x1 x2 x3:R}(h:Gv x0 x1 x2 x3){i:Nat}(hi:i<x0.length)(ka:qdI x0 x2 i=false)(kb:qdI x1 x3 i=false)(hm:0≤mgA x0 x1 i):qvt x0 x2 x3 i=true:=by
 obtain⟨t0,t1,⟨m0,m1⟩,⟨p0,p1⟩,pin⟩:=qoQ (h.j.p i hi)
 obtain⟨r2,r3,i2,i3⟩:=qnv (h.g i hi)
 unfold qyD at i2 i3
 obtain⟨a1,a2,a3,a4,a5,a6,a7,a8,a9,a10,a11,a12,a13,a14⟩:=qax t0
 obtain⟨b1,b2,b3,b4,b5,b6,b7,b8,b9,b10,b11,b12,b13,b14⟩:=qax t1
 unfold qdI qyR at ka kb
 simp only[Bool.not_eq_false',decide_eq_true_eq] at ka kb
 obtain⟨_,_,ka⟩:=ka
 obtain⟨_,_,kb⟩:=kb
 unfold ext at ka kb
 rw[m0] at ka
 rw[m1] at kb
 rw[←p0,←p1] at kb
 unfold sq2 at ka kb
 unfold qvt q3L sq2
 unfold mgA gau at hm
 rw[decide_eq_true_iff]
 cases q0:cB x0 i 6 with
 | false=>
  have q1:cB x1 i 6=true:=by cases h':cB x1 i 6 with|true=>rfl|false=>rw[q0,h'] at pin;exact absurd rfl pin
  rw[q0] at ka hm
  rw[q1] at kb hm
  simp only[Bool.false_eq_true,if_false,if_true,show ¬((1:Int)=0) by omega] at ka kb hm ⊢
  have key:=qrr (n:=cI x2 i 2-cI x3 i 2) (show 0≤cI x0 i 4+(cI x2 i 2-cI x0 i 2) by omega) (show 0≤cI x1 i 4+(cI x1 i 3-cI x3 i 2) by omega) (by simpa using ka) (by simpa using kb) (by omega)
  refine⟨by omega,?_⟩
  have e1:cI x2 i 0-cI x0 i 0-(cI x3 i 0-cI x0 i 0)=cI x2 i 0-cI x3 i 0:=by omega
  have e2:cI x2 i 1-cI x0 i 1-(cI x3 i 1-cI x0 i 1)=cI x2 i 1-cI x3 i 1:=by omega
  rw[e1,e2] at key
  exact key
 | true=>
  have q1:cB x1 i 6=false:=by cases h':cB x1 i 6 with|false=>rfl|true=>rw[q0,h'] at pin;exact absurd rfl pin
  rw[q0] at ka hm
  rw[q1] at kb hm
  simp only[Bool.false_eq_true,if_false,if_true,show ¬((1:Int)=0) by omega] at ka kb hm ⊢
  have key:=qrr (n:=cI x3 i 2-cI x2 i 2) (show 0≤cI x0 i 4+(cI x0 i 3-cI x2 i 2) by omega) (show 0≤cI x1 i 4+(cI x3 i 2-cI x1 i 2) by omega) (by simpa using ka) (by simpa using kb) (by omega)
  refine⟨by omega,?_⟩
  have e1:cI x2 i 0-cI x0 i 0-(cI x3 i 0-cI x0 i 0)=cI x2 i 0-cI x3 i 0:=by omega
  have e2:cI x2 i 1-cI x0 i 1-(cI x3 i 1-cI x0 i 1)=cI x2 i 1-cI x3 i 1:=by omega
  rw[e1,e2] at key
  exact key
end Go.Eng

namespace Go.Eng
theorem q8D{p:Nat→Bool}:∀{n:Nat},(qf (pick p n)=0)↔∀i,i<n→p i=false
 | 0=>by simp[pick,qf]
 | n+1=>by
  have ih:=q8D (p:=p) (n:=n)
  unfold pick
  by_cases hp:p n=true
  ·rw[if_pos hp]
   constructor
   ·intro h;unfold qf q3F at h;simp at h;omega
   ·intro h;rw[h n (by omega)] at hp;cases hp
  ·have hp':p n=false:=by simpa using hp
   rw[if_neg hp,ih]
   constructor
   ·intro h i hi
    rcases Nat.lt_or_ge i n with h'|h'
    ·exact h i h'
    ·obtain rfl:i=n:=by omega
     exact hp'
   ·intro h i hi;exact h i (by omega)
def qz7(a0 a1 a2 a3 a4 a5:Int)(a6:Bool)(b0 b1 b2 b3 b4 b5:Int)(b6:Bool):Int:=
 if chk a0 a1 a2 a3 a4 a5 a6=0 then (if chk b0 b1 b2 b3 b4 b5 b6=0 then (if a5=1∧b5=1 then (if (a0=b0∧a1=b1)∧a6≠b6 then 0 else 16) else 14) else chk b0 b1 b2 b3 b4 b5 b6) else chk a0 a1 a2 a3 a4 a5 a6
theorem qvS(e:Nat→Int):q42 e 2=if e 0=0 then e 1 else e 0:=by
 unfold q42 uz uz uz q7S
 by_cases h0:e 0=0
 ·by_cases h1:e 1=0<;>simp[h0,h1]
 ·simp[h0]
theorem qmn(a0 a1 a2 a3 a4 a5:Int)(a6:Bool)(b0 b1 b2 b3 b4 b5:Int)(b6:Bool) :
  (q0F [.i a0,.i a1,.i a2,.i a3,.i a4,.i a5,.b a6,.i b0,.i b1,.i b2,.i b3,.i b4,.i b5,.b b6]).run=some (0,[.i (qz7 a0 a1 a2 a3 a4 a5 a6 b0 b1 b2 b3 b4 b5 b6)]):=by
 rw[qlb]
 have key:=qa6 (S:=ue) (fun i=>[.i 2,.i (i:Int),.i a0,.i a1,.i a2,.i a3,.i a4,.i a5,.b a6,.i b0,.i b1,.i b2,.i b3,.i b4,.i b5,.b b6,.r [[.i a0,.i a1,.i a2,.i a3,.i a4,.i a5,.b a6],[.i b0,.i b1,.i b2,.i b3,.i b4,.i b5,.b b6]]])
  (fun i=>if i=0 then chk a0 a1 a2 a3 a4 a5 a6 else chk b0 b1 b2 b3 b4 b5 b6) [] [.i a0,.i a1,.i a2,.i a3,.i a4,.i a5,.b a6,.i b0,.i b1,.i b2,.i b3,.i b4,.i b5,.b b6] 2 (by omega) (fun i hi=>by
  rw[qaB]
  simp only[q3b,STD]
  rcases (show i=0∨i=1 by omega) with rfl|rfl
  ·rw[if_pos (show ((0:Nat):Int)<2 by omega),if_pos (show (0:Int)≤((0:Nat):Int)∧((0:Nat):Int)<qf [[U.i a0,.i a1,.i a2,.i a3,.i a4,.i a5,.b a6],[.i b0,.i b1,.i b2,.i b3,.i b4,.i b5,.b b6]] from⟨by omega,by show (0:Int)<2;omega⟩)]
   by_cases hc:chk a0 a1 a2 a3 a4 a5 a6=0
   ·rw[if_pos (show (if (0:Nat)=0 then chk a0 a1 a2 a3 a4 a5 a6 else chk b0 b1 b2 b3 b4 b5 b6)=0 from hc)]
    exact if_neg (fun h=>h hc)
   ·rw[if_neg (show ¬(if (0:Nat)=0 then chk a0 a1 a2 a3 a4 a5 a6 else chk b0 b1 b2 b3 b4 b5 b6)=0 from hc)]
    exact if_pos hc
  ·rw[if_pos (show ((1:Nat):Int)<2 by omega),if_pos (show (0:Int)≤((1:Nat):Int)∧((1:Nat):Int)<qf [[U.i a0,.i a1,.i a2,.i a3,.i a4,.i a5,.b a6],[.i b0,.i b1,.i b2,.i b3,.i b4,.i b5,.b b6]] from⟨by omega,by show (1:Int)<2;omega⟩)]
   by_cases hc:chk b0 b1 b2 b3 b4 b5 b6=0
   ·rw[if_pos (show (if (1:Nat)=0 then chk a0 a1 a2 a3 a4 a5 a6 else chk b0 b1 b2 b3 b4 b5 b6)=0 from hc)]
    exact if_neg (fun h=>h hc)
   ·rw[if_neg (show ¬(if (1:Nat)=0 then chk a0 a1 a2 a3 a4 a5 a6 else chk b0 b1 b2 b3 b4 b5 b6)=0 from hc)]
    exact if_pos hc) (by rw[qaB];simp only[STD,show ¬(((2:Nat):Int)<2) by omega])
 rw[qvS] at key
 simp only[show ((1:Nat)=0)=False by simp,if_true,if_false] at key
 have key':(qj ue [.i (qf [[U.i a0,.i a1,.i a2,.i a3,.i a4,.i a5,.b a6],[.i b0,.i b1,.i b2,.i b3,.i b4,.i b5,.b b6]]),.i 0,.i a0,.i a1,.i a2,.i a3,.i a4,.i a5,.b a6,.i b0,.i b1,.i b2,.i b3,.i b4,.i b5,.b b6,.r [[.i a0,.i a1,.i a2,.i a3,.i a4,.i a5,.b a6],[.i b0,.i b1,.i b2,.i b3,.i b4,.i b5,.b b6]]]).run=_:=key
 unfold qz7
 by_cases ha:chk a0 a1 a2 a3 a4 a5 a6=0
 ·by_cases hb:chk b0 b1 b2 b3 b4 b5 b6=0
  ·simp only[ha,hb,if_true] at key'
   simp only[STD,key',qW key',ha,hb]
   by_cases c1:a5=1<;>by_cases c2:b5=1<;>by_cases c3:a0=b0<;>by_cases c4:a1=b1<;>by_cases c5:a6=b6<;>simp[c1,c2,c3,c4,c5]
  ·simp only[ha,hb,if_true,if_false] at key'
   simp only[STD,key',qW key',ha,hb]
   rfl
 ·simp only[ha,if_false] at key'
  simp only[STD,key',qW key',ha]
  rfl
theorem qsk(a0 a1 a2 a3 a4 a5:Int)(a6:Bool)(b0 b1 b2 b3 b4 b5:Int)(b6:Bool) :
  (q4P [.i a0,.i a1,.i a2,.i a3,.i a4,.i a5,.b a6,.i b0,.i b1,.i b2,.i b3,.i b4,.i b5,.b b6]).run=some (0,[.i (qz7 a0 a1 a2 a3 a4 a5 a6 b0 b1 b2 b3 b4 b5 b6)]):=by
 rw[qqL]
 unfold qz7
 by_cases ha:chk a0 a1 a2 a3 a4 a5 a6=0
 ·by_cases hb:chk b0 b1 b2 b3 b4 b5 b6=0
  ·simp only[STD,qcl,ha,hb]
   by_cases c1:a5=1<;>by_cases c2:b5=1<;>by_cases c3:a0=b0<;>by_cases c4:a1=b1<;>by_cases c5:a6=b6<;>simp[c1,c2,c3,c4,c5]
  ·simp only[STD,qcl,ha,hb]
 ·simp only[STD,qcl,ha]
theorem q0G(l m:R):(qf l=qf m)=(l.length=m.length):=by unfold qf;exact propext ⟨fun h=>by omega,fun h=>by omega⟩
theorem qpM(l:R)(n:Nat):((n:Int)<qf l)=(n<l.length):=by unfold qf;exact propext ⟨fun h=>by omega,fun h=>by omega⟩
theorem j0(x0 x1:R)(h:x0.length<9223372036854775808):(zM [.r x0,.r x1]).run=some (0,[.i (q3Z x0 x1)]):=by
 rw[qjF]
 unfold q3Z
 have g:=qpM x0 16
 simp only[show ((16:Nat):Int)=16 from rfl] at g
 by_cases h0:x0.length=0
 ·simp only[STD,j9,h0]
 by_cases h1:16<x0.length
 ·simp only[STD,j9,h0,g,h1]
 by_cases h2:x1.length=x0.length
 ·have key:=qa6 (S:=ut) (fun i=>[.i (qf x0),.i (i:Int),.r x0,.r x1]) (qj2 x0 x1) [] [] x0.length h (fun i hi=>by
   rw[q7D]
   have a1:(i:Int)<qf x0:=by unfold qf;omega
   have a2:(i:Int)<qf x1:=by unfold qf;omega
   simp only[STD,a1,a2,jT,and_self,q1o hi h,qmn]
   show (if ¬qj2 x0 x1 i=0 then some (2,[PV.i (qj2 x0 x1 i)]) else _)=_
   by_cases c:qj2 x0 x1 i=0
   ·rw[if_neg (fun z=>z c),if_pos c]
   ·rw[if_pos c,if_neg c]) (by
   rw[q7D]
   simp only[STD,show ¬((x0.length:Int)<qf x0) by unfold qf;omega])
  simp only[show (((0:Nat)):Int)=0 from rfl] at key
  by_cases c:q42 (qj2 x0 x1) x0.length=0
  ·rw[if_pos c] at key
   simp only[STD,j9,h0,g,h1,q0G,h2,key,qW key,c]
  ·rw[if_neg c] at key
   simp only[STD,j9,h0,g,h1,q0G,h2,key,qW key]
   rfl
 ·simp only[STD,j9,h0,g,h1,q0G,h2,show ¬(x0.length=x1.length) from fun e=>h2 e.symm]
theorem jz(x0 x1:R)(h:x0.length<9223372036854775808):(wU [.r x0,.r x1]).run=some (0,[.i (q3Z x0 x1)]):=by
 rw[qot]
 unfold q3Z
 have g:=qpM x0 16
 simp only[show ((16:Nat):Int)=16 from rfl] at g
 by_cases h0:x0.length=0
 ·simp only[STD,j9,h0]
 by_cases h1:16<x0.length
 ·simp only[STD,j9,h0,g,h1]
 by_cases h2:x1.length=x0.length
 ·have key:=qa6 (S:=q1z) (fun i=>[.i (i:Int),.r x0,.r x1]) (qj2 x0 x1) [] [] x0.length h (fun i hi=>by
   rw[qbX]
   have a1:(i:Int)<qf x0:=by unfold qf;omega
   have a2:(i:Int)<qf x1:=by unfold qf;omega
   simp only[STD,a1,a2,jT,and_self,q1o hi h,qsk]
   show (if ¬qj2 x0 x1 i=0 then some (2,[PV.i (qj2 x0 x1 i)]) else _)=_
   by_cases c:qj2 x0 x1 i=0
   ·rw[if_neg (fun z=>z c),if_pos c]
   ·rw[if_pos c,if_neg c]) (by
   rw[qbX]
   simp only[STD,show ¬((x0.length:Int)<qf x0) by unfold qf;omega])
  simp only[show (((0:Nat)):Int)=0 from rfl] at key
  by_cases c:q42 (qj2 x0 x1) x0.length=0
  ·rw[if_pos c] at key
   simp only[STD,j9,h0,g,h1,q0G,h2,key,qW key,c]
  ·rw[if_neg c] at key
   simp only[STD,j9,h0,g,h1,q0G,h2,key,qW key]
   rfl
 ·simp only[STD,j9,h0,g,h1,q0G,h2]
structure JtN (x0 x1:R) (i:Nat):Prop where
 ga:-100000≤gau x0 i∧gau x0 i≤200000
 gb:-100000≤gau x1 i∧gau x1 i≤200000
 t0:qqF x0 i=0
 t1:qqF x1 i=0
 m0:cI x0 i 5=1
 m1:cI x1 i 5=1
theorem Jt.num{x0 x1:R}(h:Jt x0 x1){i:Nat}(hi:i<x0.length):JtN x0 x1 i:=by
 obtain⟨t0,t1,⟨m0,m1⟩,_,_⟩:=qoQ (h.p i hi)
 obtain⟨a1,a2,a3,a4,a5,a6,a7,a8,a9,a10,a11,_⟩:=qax t0
 obtain⟨b1,b2,b3,b4,b5,b6,b7,b8,b9,b10,b11,_⟩:=qax t1
 refine⟨?_,?_,t0,t1,m0,m1⟩<;>unfold gau<;>split<;>omega
def ql4(x0 x1:R):List PV:=if q3Z x0 x1=0 then [.r (mgL x0 x1 x0.length),.i 0] else [.r [],.i (q3Z x0 x1)]
theorem qru{l:R}{i:Nat}(ht:qqF l i=0)(hm:cI l i 5=1):(jL [.i (cI l i 0),.i (cI l i 1),.i (cI l i 2),.i (cI l i 3),.i (cI l i 4),.i (cI l i 5),.b (cB l i 6)]).run=some (0,[.i (gau l i),.i 0]):=by
 rw[qmh]
 have t:chk (cI l i 0) (cI l i 1) (cI l i 2) (cI l i 3) (cI l i 4) (cI l i 5) (cB l i 6)=0:=ht
 rw[if_pos t,qA9 hm]
theorem qxW{l:R}{i:Nat}(ht:qqF l i=0)(hm:cI l i 5=1):(kh [.i (cI l i 0),.i (cI l i 1),.i (cI l i 2),.i (cI l i 3),.i (cI l i 4),.i (cI l i 5),.b (cB l i 6)]).run=some (0,[.i (gau l i)]):=by
 obtain⟨a1,a2,a3,a4,a5,a6,a7,a8,a9,a10,a11,_⟩:=qax ht
 rw[qpX,wA (by omega),wv (by omega),qA9 hm]
theorem qcg{l:R}{n:Nat}(h:l.length≤n)(hn:n≤1000000)(x:U):qf l+qf [[x]]≤17592186044416:=by
 rw[quK];unfold qf;omega
theorem q5c(x0 x1:R)(h:x0.length<9223372036854775808):(zZ [.r x0,.r x1]).run=some (0,ql4 x0 x1):=by
 rw[qh6]
 unfold ql4
 by_cases hc:q3Z x0 x1=0
 ·have j:=q4r hc
  have hn:=j.n
  have key:=wc (S:=vY) (fun i=>[.r x0,.i (qf x0),.i (i:Int),.r x0,.r x1,.r (mgL x0 x1 i)]) (0,[.r (mgL x0 x1 x0.length)]) x0.length h (fun i hi=>by
   rw[q71]
   have a1:(i:Int)<qf x0:=by unfold qf;omega
   have a2:(i:Int)<qf x1:=by unfold qf;have:=j.e;omega
   have n:=j.num hi
   obtain⟨n1,n2,n3,n4,n5,n6⟩:=n
   have v0:=qru n3 n5
   have v1:=qru n4 n6
   have w0:qk .i64 0 0=0:=by decide
   have w1:qB .i64 (gau x0 i) (gau x1 i)=gau x0 i-gau x1 i:=wA (by omega)
   have w2:qB .i64 (gau x1 i) (gau x0 i)=gau x1 i-gau x0 i:=wA (by omega)
   have room:=fun x=>qcg (l:=mgL x0 x1 i) (n:=16) (by unfold mgL;rw[qfQ];omega) (by omega) x
   simp only[STD,a1,a2,jT,and_self,v0,v1,w0,w1,w2,q1o hi h,room]
   have m:q3F (mgL x0 x1 i) [[.i (mgA x0 x1 i)]]=mgL x0 x1 (i+1):=qbW _ i
   rw[←m]
   unfold mgA
   cases cB x0 i 6<;>rfl) (by
   rw[q71]
   simp only[STD,show ¬((x0.length:Int)<qf x0) by unfold qf;omega])
  have key':(qj vY [.r x0,.i (qf x0),.i 0,.r x0,.r x1,.r []]).run=some (0,[.r (mgL x0 x1 x0.length)]):=key
  simp only[STD,j0 x0 x1 h,hc,key',qW key']
 ·simp only[STD,j0 x0 x1 h,hc]
theorem qgS(l:R)(h:l.length≤1000000):(qh [.r l]).run=some (0,[.r (pick (fun i=>decide (cI l i 0<0)) l.length)]):=by
 rw[q1m]
 have key:=wc (S:=qv) (fun i=>[.r l,.i (qf l),.i (i:Int),.r (pick (fun i=>decide (cI l i 0<0)) i)]) (0,[.r (pick (fun i=>decide (cI l i 0<0)) l.length)]) l.length (by omega) (fun i hi=>by
  rw[vD]
  have a1:(i:Int)<qf l:=by unfold qf;omega
  have pl:=qcI (fun i=>decide (cI l i 0<0)) i
  have room:=qcg (l:=pick (fun i=>decide (cI l i 0<0)) i) (n:=i) pl (by omega) (.i (i:Int))
  simp only[STD,a1,jT,and_self,qgq,q1o hi (by omega),room,pick]
  by_cases c:cI l i 0<0
  ·simp only[c,if_true]
  ·simp only[c,if_false]) (by
  rw[vD]
  simp only[STD,show ¬((l.length:Int)<qf l) by unfold qf;omega])
 have key':(qj qv [.r l,.i (qf l),.i 0,.r []]).run=some (0,[.r (pick (fun i=>decide (cI l i 0<0)) l.length)]):=key
 simp only[STD,key']
def qr6(x0 x1:R):List PV:=if q3Z x0 x1=0 then [.b (qmm x0 x1),.i 0] else [.b false,.i (q3Z x0 x1)]
theorem qhR(x0 x1:R)(n:Nat):(mgL x0 x1 n).length=n:=by unfold mgL;exact qfQ _ _
theorem quB(x0 x1:R){n i:Nat}(h:i<n):cI (mgL x0 x1 n) i 0=mgA x0 x1 i:=by unfold mgL;rw[qsU _ h];rfl
theorem qxB(x0 x1:R):ieq (qf (pick (fun i=>decide (cI (mgL x0 x1 x0.length) i 0<0)) x0.length)) 0=qmm x0 x1:=by
 unfold ieq qmm
 rw[Bool.eq_iff_iff,beq_iff_eq,q8D,decide_eq_true_iff]
 constructor
 ·intro hh i hi
  have:=hh i hi
  rw[decide_eq_false_iff_not,quB x0 x1 hi] at this
  omega
 ·intro hh i hi
  have:=hh i hi
  rw[decide_eq_false_iff_not,quB x0 x1 hi]
  omega
theorem q8N(x0 x1:R)(h:x0.length<9223372036854775808):(vQ [.r x0,.r x1]).run=some (0,qr6 x0 x1):=by
 rw[qln]
 unfold qr6
 have m:=q5c x0 x1 h
 unfold ql4 at m
 by_cases hc:q3Z x0 x1=0
 ·have j:=q4r hc
  rw[if_pos hc] at m
  have f:=qgS (mgL x0 x1 x0.length) (by rw[qhR];have:=j.n;omega)
  rw[qhR] at f
  simp only[STD,m,hc,f]
  rw[qxB]
 ·rw[if_neg hc] at m
  simp only[STD,m,hc]
theorem qho{x0 x1:R}(j:Jt x0 x1):(q2F [.r x0,.r x1]).run=some (0,[.r (mgL x0 x1 x0.length)]):=by
 rw[qr5]
 have hn:=j.n
 have key:=wc (S:=q2N) (fun i=>[.i (i:Int),.r x0,.r x1,.r (mgL x0 x1 i)]) (0,[.r (mgL x0 x1 x0.length)]) x0.length (by omega) (fun i hi=>by
  rw[qgx]
  have a1:(i:Int)<qf x0:=by unfold qf;omega
  have a2:(i:Int)<qf x1:=by unfold qf;have:=j.e;omega
  have n:=j.num hi
  obtain⟨n1,n2,n3,n4,n5,n6⟩:=n
  have v0:=qxW n3 n5
  have v1:=qxW n4 n6
  have w1:qB .i64 (gau x0 i) (gau x1 i)=gau x0 i-gau x1 i:=wA (by omega)
  have w2:qB .i64 0 (gau x0 i-gau x1 i)=gau x1 i-gau x0 i:=by rw[qtb (by omega)];omega
  have room:=fun x=>qcg (l:=mgL x0 x1 i) (n:=16) (by rw[qhR];omega) (by omega) x
  simp only[STD,a1,a2,jT,and_self,v0,v1,w1,w2,q1o hi (show x0.length<9223372036854775808 by omega),room]
  have m:q3F (mgL x0 x1 i) [[.i (mgA x0 x1 i)]]=mgL x0 x1 (i+1):=qbW _ i
  rw[←m]
  unfold mgA
  cases cB x0 i 6<;>rfl) (by
  rw[qgx]
  simp only[STD,show ¬((x0.length:Int)<qf x0) by unfold qf;omega])
 have key':(qj q2N [.i 0,.r x0,.r x1,.r []]).run=some (0,[.r (mgL x0 x1 x0.length)]):=key
 simp only[STD,key']
theorem qmD(x0 x1:R)(h:x0.length<9223372036854775808):(q2k [.r x0,.r x1]).run=some (0,ql4 x0 x1):=by
 rw[qlh]
 unfold ql4
 by_cases hc:q3Z x0 x1=0
 ·simp only[STD,jz x0 x1 h,hc,qho (q4r hc)]
 ·simp only[STD,jz x0 x1 h,hc]
theorem qrc{x0 x1:R}(j:Jt x0 x1):(q6L [.r x0,.r x1]).run=some (0,[.b (qmm x0 x1)]):=by
 rw[qqa]
 have hn:=j.n
 have L:=q76 (S:=kz) (fun i=>[.r (mgL x0 x1 x0.length),.i (i:Int)]) (fun i=>if mgA x0 x1 i<0 then some (1,[PV.b false]) else none) (0,[]) x0.length (by omega) (fun i hi hf=>by
  rw[q9A]
  have a1:(i:Int)<qf (mgL x0 x1 x0.length):=by unfold qf;rw[qhR];omega
  by_cases c:mgA x0 x1 i<0
  ·rw[if_pos c] at hf;cases hf
  ·simp only[STD,a1,jT,and_self,quB x0 x1 hi,c,q1o hi (show x0.length<9223372036854775808 by omega)]) (fun i r hi hf=>by
  rw[q9A]
  have a1:(i:Int)<qf (mgL x0 x1 x0.length):=by unfold qf;rw[qhR];omega
  by_cases c:mgA x0 x1 i<0
  ·rw[if_pos c] at hf
   cases hf
   simp only[STD,a1,jT,and_self,quB x0 x1 hi,c]
  ·rw[if_neg c] at hf;cases hf) (by
  rw[q9A]
  simp only[STD,show ¬((x0.length:Int)<qf (mgL x0 x1 x0.length)) by unfold qf;rw[qhR];omega])
 simp only[show (((0:Nat)):Int)=0 from rfl] at L
 cases hs:uz (fun i=>if mgA x0 x1 i<0 then some (1,[PV.b false]) else none) 0 x0.length with
 | none=>
  rw[hs] at L
  have e:qmm x0 x1=true:=by
   unfold qmm
   rw[decide_eq_true_iff]
   intro i hi
   have:=q5i hs i (by omega) (by omega)
   split at this
   ·cases this
   ·omega
  have L':(qj kz [.r (mgL x0 x1 x0.length),.i 0]).run=some (0,[]):=L
  simp only[STD,qho j,L',qW L',e]
 | some r=>
  rw[hs] at L
  obtain⟨i,_,hi,h1,_⟩:=q9j hs
  have c:mgA x0 x1 i<0:=by
   apply Classical.byContradiction
   intro c
   rw[if_neg c] at h1;cases h1
  rw[if_pos c] at h1
  cases h1
  have e:qmm x0 x1=false:=by
   unfold qmm
   rw[decide_eq_false_iff_not]
   intro hh
   have:=hh i (by omega)
   omega
  have L':(qj kz [.r (mgL x0 x1 x0.length),.i 0]).run=some (1,[.b false]):=L
  simp only[STD,qho j,L',qW L',e]
  rfl
theorem qrs(x0 x1:R)(h:x0.length<9223372036854775808):(q6K [.r x0,.r x1]).run=some (0,qr6 x0 x1):=by
 rw[qpK]
 unfold qr6
 by_cases hc:q3Z x0 x1=0
 ·simp only[STD,jz x0 x1 h,hc,qrc (q4r hc)]
 ·simp only[STD,jz x0 x1 h,hc]
end Go.Eng

namespace Go.Eng
theorem qzf(l c:R)(i:Nat)(x y:Int):(jo [.i (cI l i 0),.i (cI l i 1),.i (cI l i 2),.i (cI l i 3),.i (cI l i 4),.i (cI l i 5),.b (cB l i 6),.i x,.i y,.i (cI c i 2)]).run=some (0,[.b (decide (qyD l c i))]):=by
 rw[qig]
 unfold qyD
 by_cases h1:cI l i 2≤cI c i 2
 ·by_cases h2:cI c i 2≤cI l i 3
  ·simp only[STD,h1,h2,and_self,decide_true]
   rw[show ile (cI c i 2) (cI l i 3)=true from by simp[ile,h2]]
  ·simp only[STD,h1,h2,and_false,decide_false]
   rw[show ile (cI c i 2) (cI l i 3)=false from by simp[ile];omega]
 ·simp only[STD,h1,false_and,decide_false]
theorem qzV{l c:R}{i:Nat}(ht:qqF l i=0):∃d,(vZ [.i (cI l i 0),.i (cI l i 1),.i (cI l i 2),.i (cI l i 3),.i (cI l i 4),.i (cI l i 5),.b (cB l i 6),.i (cI c i 0),.i (cI c i 1),.i (cI c i 2)]).run=some (0,[.i d,.i (qpj c i)]):=by
 rw[qlw]
 have t:chk (cI l i 0) (cI l i 1) (cI l i 2) (cI l i 3) (cI l i 4) (cI l i 5) (cB l i 6)=0:=ht
 have e:qpU (cI l i 0) (cI l i 1) (cI l i 2) (cI l i 3) (cI l i 4) (cI l i 5) (cB l i 6) (cI c i 0) (cI c i 1) (cI c i 2)=qpj c i:=by unfold qpU;rw[if_pos t];rfl
 rw[e]
 by_cases hr:qpj c i=0
 ·rw[if_pos hr];exact⟨_,by rw[hr]⟩
 ·rw[if_neg hr];exact⟨_,rfl⟩
theorem vh(x0 x1 x2 x3 : R)(h : x0.length < 9223372036854775808) : (wt [.r x0, .r x1, .r x2, .r x3]).run = some (0, [.i (qoG x0 x1 x2 x3)]) := by
  rw[qii]
  unfold qoG
  by_cases hc:q3Z x0 x1=0
  · have j:=q4r hc
    have je:=j.e
    by_cases h2:x2.length=x0.length
    · by_cases h3:x3.length=x1.length
      · have key:=qa6 (S:=yI) (fun i=>[.i (qf x0),.i (i:Int),.r x0,.r x1,.r x2,.r x3]) (qyT x0 x1 x2 x3) [] [] x0.length h (fun i hi=>by
          rw[q6Z]
          have a0:(i:Int)<qf x0:=by unfold qf;omega
          have a1:(i:Int)<qf x1:=by unfold qf;omega
          have a2:(i:Int)<qf x2:=by unfold qf;omega
          have a3:(i:Int)<qf x3:=by unfold qf;omega
          have n:=j.num hi
          obtain⟨d0,v0⟩:=qzV (c:=x2) n.t0
          obtain⟨d1,v1⟩:=qzV (c:=x3) n.t1
          simp only[STD,a0,a1,a2,a3,jT,and_self,v0,v1,qzf,q1o hi h]
          unfold qyT
          by_cases c1:qpj x2 i=0
          · by_cases c2:qpj x3 i=0
            · by_cases c3:qyD x0 x2 i
              · by_cases c4:qyD x1 x3 i<;>simp[c1,c2,c3,c4]
              · simp[c1,c2,c3]
            · simp[c1,c2]
          · simp[c1]) (by
          rw[q6Z]
          simp only[STD,show ¬((x0.length:Int)<qf x0) by unfold qf;omega])
        simp only[show (((0:Nat)):Int)=0 from rfl] at key
        by_cases c:q42 (qyT x0 x1 x2 x3) x0.length=0
        · rw[if_pos c] at key
          simp only[STD,j0 x0 x1 h,hc,q0G,h2,h3,key,qW key,c,and_self]
        · rw[if_neg c] at key
          simp only[STD,j0 x0 x1 h,hc,q0G,h2,h3,key,qW key,and_self]
          rfl
      · simp only[STD,j0 x0 x1 h,hc,q0G,h2,h3,and_false]
    · simp only[STD,j0 x0 x1 h,hc,q0G,h2,false_and]
  · simp only[STD,j0 x0 x1 h,hc]
theorem q8r(x0 x1 x2 x3:R)(h:x0.length<9223372036854775808):(jC [.r x0,.r x1,.r x2,.r x3]).run=some (0,[.i (qoG x0 x1 x2 x3)]):=by
 rw[qnV]
 unfold qoG
 by_cases hc:q3Z x0 x1=0
 ·have j:=q4r hc
  have je:=j.e
  by_cases h2:x2.length=x0.length
  ·by_cases h3:x3.length=x1.length
   ·have key:=qa6 (S:=q1C) (fun i=>[.i (i:Int),.r x0,.r x1,.r x2,.r x3]) (qyT x0 x1 x2 x3) [] [] x0.length h (fun i hi=>by
     rw[qbC]
     have a0:(i:Int)<qf x0:=by unfold qf;omega
     have a1:(i:Int)<qf x1:=by unfold qf;omega
     have a2:(i:Int)<qf x2:=by unfold qf;omega
     have a3:(i:Int)<qf x3:=by unfold qf;omega
     simp only[STD,a0,a1,a2,a3,jT,and_self,qrh,qok,q1o hi h]
     unfold qyT qyD qpj
     by_cases c1:qlv (cI x2 i 0) (cI x2 i 1) (cI x2 i 2)=0
     ·by_cases c2:qlv (cI x3 i 0) (cI x3 i 1) (cI x3 i 2)=0
      ·by_cases c3:cI x0 i 2≤cI x2 i 2∧cI x2 i 2≤cI x0 i 3
       ·by_cases c4:cI x1 i 2≤cI x3 i 2∧cI x3 i 2≤cI x1 i 3
        ·simp only[c1,c2,c3,c4,and_self,not_true_eq_false,if_false,if_true]
        ·simp only[c1,c2,c3,c4,and_self,and_false,not_true_eq_false,not_false_eq_true,if_false,if_true];rfl
       ·simp only[c1,c2,c3,false_and,not_true_eq_false,not_false_eq_true,if_false,if_true];rfl
      ·simp only[c1,c2,not_true_eq_false,not_false_eq_true,if_false,if_true]
     ·simp only[c1,not_false_eq_true,if_false,if_true]) (by
     rw[qbC]
     simp only[STD,show ¬((x0.length:Int)<qf x2) by unfold qf;omega])
    simp only[show (((0:Nat)):Int)=0 from rfl] at key
    by_cases c:q42 (qyT x0 x1 x2 x3) x0.length=0
    ·rw[if_pos c] at key
     simp only[STD,jz x0 x1 h,hc,q0G,h2,h3,key,qW key,c,and_self]
    ·rw[if_neg c] at key
     simp only[STD,jz x0 x1 h,hc,q0G,h2,h3,key,qW key,and_self]
     rfl
   ·simp only[STD,jz x0 x1 h,hc,q0G,h2,h3,and_false]
  ·simp only[STD,jz x0 x1 h,hc,q0G,h2,false_and]
 ·simp only[STD,jz x0 x1 h,hc]
def plL(x0 x2 x3:R)(n:Nat):R:=qhn (fun i=>[.i (q3L x0 x2 x3 i)]) n
theorem qhb(x0 x2 x3:R)(n:Nat):(plL x0 x2 x3 n).length=n:=by unfold plL;exact qfQ _ _
theorem qxq(x0 x2 x3:R){n i:Nat}(h:i<n):cI (plL x0 x2 x3 n) i 0=q3L x0 x2 x3 i:=by unfold plL;rw[qsU _ h];rfl
theorem qkA{x0 x1 x2 x3:R}(g:Gv x0 x1 x2 x3):(zq [.r x0,.r x1,.r x2,.r x3]).run=some (0,[.r (plL x0 x2 x3 x0.length)]):=by
 rw[qk8]
 have hn:=g.j.n
 have key:=wc (S:=jW) (fun i=>[.r x0,.i (qf x0),.i (i:Int),.r x2,.r x3,.r (plL x0 x2 x3 i)]) (0,[.r (plL x0 x2 x3 x0.length)]) x0.length (by omega) (fun i hi=>by
  rw[q8L]
  have a0:(i:Int)<qf x0:=by unfold qf;omega
  have a2:(i:Int)<qf x2:=by unfold qf;have:=g.e2;omega
  have a3:(i:Int)<qf x3:=by unfold qf;have:=g.e3;omega
  obtain⟨_,_,n3,_,_,n6,_⟩:=g.num hi
  have w1:qB .i64 (cI x2 i 2) (cI x3 i 2)=cI x2 i 2-cI x3 i 2:=wA (by omega)
  have w2:qB .i64 0 (cI x2 i 2-cI x3 i 2)=cI x3 i 2-cI x2 i 2:=by rw[qtb (by omega)];omega
  have room:=fun x=>qcg (l:=plL x0 x2 x3 i) (n:=16) (by rw[qhb];omega) (by omega) x
  simp only[STD,a0,a2,a3,jT,and_self,w1,w2,q1o hi (show x0.length<9223372036854775808 by omega),room]
  have m:q3F (plL x0 x2 x3 i) [[.i (q3L x0 x2 x3 i)]]=plL x0 x2 x3 (i+1):=qbW _ i
  rw[←m]
  unfold q3L
  cases cB x0 i 6<;>rfl) (by
  rw[q8L]
  simp only[STD,show ¬((x0.length:Int)<qf x0) by unfold qf;omega])
 have key':(qj jW [.r x0,.i (qf x0),.i 0,.r x2,.r x3,.r []]).run=some (0,[.r (plL x0 x2 x3 x0.length)]):=key
 simp only[STD,key']
theorem qxU{x0 x2 x3:R}{i:Nat}(n:GvN x0 x2 x3 i):qk .i64 (jF .i64 (qB .i64 (cI x2 i 0) (cI x3 i 0)) (qB .i64 (cI x2 i 0) (cI x3 i 0))) (jF .i64 (qB .i64 (cI x2 i 1) (cI x3 i 1)) (qB .i64 (cI x2 i 1) (cI x3 i 1)))=sq2 (cI x2 i 0-cI x3 i 0) (cI x2 i 1-cI x3 i 1) ∧
  jF .i64 4 (sq2 (cI x2 i 0-cI x3 i 0) (cI x2 i 1-cI x3 i 1))=4*sq2 (cI x2 i 0-cI x3 i 0) (cI x2 i 1-cI x3 i 1) ∧
  jF .i64 (q3L x0 x2 x3 i) (q3L x0 x2 x3 i)=q3L x0 x2 x3 i*q3L x0 x2 x3 i:=by
 obtain⟨n1,n2,n3,n4,n5,n6,n7⟩:=n
 have e1:qB .i64 (cI x2 i 0) (cI x3 i 0)=cI x2 i 0-cI x3 i 0:=wA (by omega)
 have e2:qB .i64 (cI x2 i 1) (cI x3 i 1)=cI x2 i 1-cI x3 i 1:=wA (by omega)
 have b1:=qu4 (a:=cI x2 i 0-cI x3 i 0) (b:=cI x2 i 0-cI x3 i 0) (A:=200000) (B:=200000) (by omega) (by omega) (by omega) (by omega)
 have b2:=qu4 (a:=cI x2 i 1-cI x3 i 1) (b:=cI x2 i 1-cI x3 i 1) (A:=200000) (B:=200000) (by omega) (by omega) (by omega) (by omega)
 have b3:=qu4 (a:=q3L x0 x2 x3 i) (b:=q3L x0 x2 x3 i) (A:=100000) (B:=100000) (by omega) (by omega) (by omega) (by omega)
 unfold sq2
 rw[e1,e2]
 refine⟨?_,yP (by omega),yP (by omega)⟩
 rw[yP (x:=cI x2 i 0-cI x3 i 0) (by omega),yP (x:=cI x2 i 1-cI x3 i 1) (by omega),wv (by omega)]
def qlG(x0 x2 x3:R)(i:Nat):Bool:=!qvt x0 x2 x3 i
theorem qw9{x0 x1 x2 x3:R}(g:Gv x0 x1 x2 x3){i:Nat}(hi:i<x0.length):(wz [.i (i:Int),.i (q3L x0 x2 x3 i),.r x2,.r x3]).run=some (0,[.b (qlG x0 x2 x3 i),.r x2,.r x3]):=by
 rw[qf9]
 have a2:(i:Int)<qf x2:=by unfold qf;have:=g.e2;omega
 have a3:(i:Int)<qf x3:=by unfold qf;have:=g.e3;omega
 obtain⟨v1,v2,v3⟩:=qxU (g.num hi)
 unfold qlG qvt
 by_cases c:q3L x0 x2 x3 i<0
 ·simp only[STD,a2,a3,jT,and_self,c,show ¬(0≤q3L x0 x2 x3 i) by omega,false_and,decide_false,Bool.not_false]
 ·simp only[STD,a2,a3,jT,and_self,c,v1,v2,v3,show (0≤q3L x0 x2 x3 i) by omega,true_and]
  congr 4
  unfold ilt
  by_cases d:4*sq2 (cI x2 i 0-cI x3 i 0) (cI x2 i 1-cI x3 i 1)≤q3L x0 x2 x3 i*q3L x0 x2 x3 i
  ·rw[decide_eq_true d,decide_eq_false (by omega)];rfl
  ·rw[decide_eq_false d,decide_eq_true (by omega)];rfl
theorem qpV{x0 x1 x2 x3:R}(g:Gv x0 x1 x2 x3):(qD [.r (plL x0 x2 x3 x0.length),.r x2,.r x3]).run=some (0,[.r (pick (qlG x0 x2 x3) x0.length),.r x2,.r x3]):=by
 rw[q1j]
 have hn:=g.j.n
 have key:=wc (S:=qu) (fun i=>[.r (plL x0 x2 x3 x0.length),.i (qf (plL x0 x2 x3 x0.length)),.i (i:Int),.r x2,.r x3,.r (pick (qlG x0 x2 x3) i)]) (0,[.r x2,.r x3,.r (pick (qlG x0 x2 x3) x0.length)]) x0.length (by omega) (fun i hi=>by
  rw[ve]
  have a1:(i:Int)<qf (plL x0 x2 x3 x0.length):=by unfold qf;rw[qhb];omega
  have pl:=qcI (qlG x0 x2 x3) i
  have room:=qcg (l:=pick (qlG x0 x2 x3) i) (n:=i) pl (by omega) (.i (i:Int))
  simp only[STD,a1,jT,and_self,qxq x0 x2 x3 hi,qw9 g hi,q1o hi (show x0.length<9223372036854775808 by omega),room,pick]
  cases qlG x0 x2 x3 i<;>rfl) (by
  rw[ve]
  simp only[STD,show ¬((x0.length:Int)<qf (plL x0 x2 x3 x0.length)) by unfold qf;rw[qhb];omega])
 have key':(qj qu [.r (plL x0 x2 x3 x0.length),.i (qf (plL x0 x2 x3 x0.length)),.i 0,.r x2,.r x3,.r []]).run=some (0,[.r x2,.r x3,.r (pick (qlG x0 x2 x3) x0.length)]):=key
 simp only[STD,key']
def qA6(x0 x1 x2 x3:R):List PV:=if qoG x0 x1 x2 x3=0 then [.r (pick (qlG x0 x2 x3) x0.length),.i 0] else [.r [],.i (qoG x0 x1 x2 x3)]
theorem q1V(x0 x1 x2 x3:R)(h:x0.length<9223372036854775808):(zw [.r x0,.r x1,.r x2,.r x3]).run=some (0,qA6 x0 x1 x2 x3):=by
 rw[qhA]
 unfold qA6
 by_cases hc:qoG x0 x1 x2 x3=0
 ·have g:=qew hc
  simp only[STD,vh x0 x1 x2 x3 h,hc,qkA g,qpV g]
 ·simp only[STD,vh x0 x1 x2 x3 h,hc]
theorem qkJ{x0 x1 x2 x3:R}(g:Gv x0 x1 x2 x3){i:Nat}(hi:i<x0.length):(q72 [.r x0,.r x1,.r x2,.r x3,.i (i:Int)]).run=some (0,[.i (q3L x0 x2 x3 i)]):=by
 rw[qqh]
 have a0:(i:Int)<qf x0:=by unfold qf;omega
 have a2:(i:Int)<qf x2:=by unfold qf;have:=g.e2;omega
 have a3:(i:Int)<qf x3:=by unfold qf;have:=g.e3;omega
 obtain⟨_,_,n3,_,_,n6,_⟩:=g.num hi
 have w1:qB .i64 (cI x2 i 2) (cI x3 i 2)=cI x2 i 2-cI x3 i 2:=wA (by omega)
 have w2:qB .i64 (cI x3 i 2) (cI x2 i 2)=cI x3 i 2-cI x2 i 2:=wA (by omega)
 simp only[STD,a0,a2,a3,jT,and_self,w1,w2]
 unfold q3L
 cases cB x0 i 6<;>rfl
theorem qof{x0 x1 x2 x3:R}(g:Gv x0 x1 x2 x3){i:Nat}(hi:i<x0.length):(q1D [.r x0,.r x1,.r x2,.r x3,.i (i:Int)]).run=some (0,[.b (qvt x0 x2 x3 i)]):=by
 rw[qm6]
 have a2:(i:Int)<qf x2:=by unfold qf;have:=g.e2;omega
 have a3:(i:Int)<qf x3:=by unfold qf;have:=g.e3;omega
 have n:=g.num hi
 obtain⟨v1,v2,v3⟩:=qxU n
 obtain⟨n1,n2,n3,n4,n5,n6,n7⟩:=n
 have f:=qu8 (cI x2 i 0) (cI x2 i 1) (cI x3 i 0) (cI x3 i 1) ⟨n1.1,n1.2,n2.1,n2.2⟩ ⟨n4.1,n4.2,n5.1,n5.2⟩
 unfold qvt
 by_cases c:0≤q3L x0 x2 x3 i
 ·simp only[STD,qkJ g hi,c,a2,a3,jT,and_self,f,v2,v3,true_and]
  rfl
 ·simp only[STD,qkJ g hi,c,false_and,decide_false]
theorem qmH(x0 x1 x2 x3:R)(h:x0.length<9223372036854775808):(q2p [.r x0,.r x1,.r x2,.r x3]).run=some (0,qA6 x0 x1 x2 x3):=by
 rw[qls]
 unfold qA6
 by_cases hc:qoG x0 x1 x2 x3=0
 ·have g:=qew hc
  have hn:=g.j.n
  have key:=wc (S:=ug) (fun i=>[.i (i:Int),.r x0,.r x1,.r x2,.r x3,.r (pick (qlG x0 x2 x3) i)]) (0,[.r (pick (qlG x0 x2 x3) x0.length)]) x0.length h (fun i hi=>by
   rw[qav]
   have a2:(i:Int)<qf x2:=by unfold qf;have:=g.e2;omega
   have pl:=qcI (qlG x0 x2 x3) i
   have room:=qcg (l:=pick (qlG x0 x2 x3) i) (n:=i) pl (by omega) (.i (i:Int))
   simp only[STD,a2,qof g hi,q1o hi h,room,pick]
   unfold qlG
   cases qvt x0 x2 x3 i<;>rfl) (by
   rw[qav]
   simp only[STD,show ¬((x0.length:Int)<qf x2) by unfold qf;have:=g.e2;omega])
  have key':(qj ug [.i 0,.r x0,.r x1,.r x2,.r x3,.r []]).run=some (0,[.r (pick (qlG x0 x2 x3) x0.length)]):=key
  simp only[STD,q8r x0 x1 x2 x3 h,hc,key']
 ·simp only[STD,q8r x0 x1 x2 x3 h,hc]
end Go.Eng

namespace Go.Eng
theorem qAE(l m:List DQ):rD (l++m)=rD l++rD m:=List.map_append
theorem qyn(l:List DQ)(d:DQ):q3F (rD l) [[.s (tQ d.x),.s (tQ d.y),.s (tQ d.s)]]=rD (l++[d]):=by
 rw[qAE];rfl
theorem qAM(x0 x2 x3:R){i n:Nat}(hi:i<n)(hn:n≤16)(x:List U):qf (rD (zAT x0 x2 x3 i))+qf [x]≤2932031007402:=by
 rw[wu,qnn];unfold qf;simp;omega
theorem qzp{n:Int}(h:inR n):bnd 10 10 (Rat.divInt n 2):=by
 have m:=q9T n 2
 have l:=quN (x:=n) h
 have d:dl 2=1:=by decide
 have e:Rat.divInt n 2=mkRat n 2:=rfl
 rw[e];unfold bnd qn qd;omega
theorem qdQ{x0 x1 x2 x3:R}(g:Gv x0 x1 x2 x3):(yq [.r x0,.r x1,.r x2,.r x3]).run=some (0,[.r (rD (zAT x0 x2 x3 x0.length))]):=by
 rw[qkp]
 have hn:=g.j.n
 have key:=wc (S:=jY) (fun i=>[.r (plL x0 x2 x3 x0.length),.i (qf (plL x0 x2 x3 x0.length)),.i (i:Int),.r x2,.r x3,.r (rD (zAT x0 x2 x3 i))]) (0,[.r (rD (zAT x0 x2 x3 x0.length))]) x0.length (by omega) (fun i hi=>by
  rw[q91]
  have a1:(i:Int)<qf (plL x0 x2 x3 x0.length):=by unfold qf;rw[qhb];omega
  have a2:(i:Int)<qf x2:=by unfold qf;have:=g.e2;omega
  have a3:(i:Int)<qf x3:=by unfold qf;have:=g.e3;omega
  obtain⟨n1,n2,n3,n4,n5,n6,n7⟩:=g.num hi
  have w1:qB .i64 (cI x3 i 0) (cI x2 i 0)=cI x3 i 0-cI x2 i 0:=wA (by omega)
  have w2:qB .i64 (cI x3 i 1) (cI x2 i 1)=cI x3 i 1-cI x2 i 1:=wA (by omega)
  have o:=qvY (m:=q3L x0 x2 x3 i) (n:=2) (by omega) (by omega) (by omega)
  have hb:=qzp (n:=q3L x0 x2 x3 i) (by unfold inR;omega)
  have m:=qn0 hb hb (by omega) (by omega)
  have u1:=qj4 (m:=cI x3 i 0-cI x2 i 0) (by omega)
  have u2:=qj4 (m:=cI x3 i 1-cI x2 i 1) (by omega)
  have room:=fun x=>qAM x0 x2 x3 hi hn x
  simp only[STD,a1,a2,a3,jT,and_self,qxq x0 x2 x3 hi,w1,w2,o,m,u1,u2,room,q1o hi (show x0.length<9223372036854775808 by omega)]
  have row:=qyn (zAT x0 x2 x3 i) (zA x0 x2 x3 i)
  rw[←qzM] at row
  rw[←row]
  rfl) (by
  rw[q91]
  simp only[STD,show ¬((x0.length:Int)<qf (plL x0 x2 x3 x0.length)) by unfold qf;rw[qhb];omega])
 have key':(qj jY [.r (plL x0 x2 x3 x0.length),.i (qf (plL x0 x2 x3 x0.length)),.i 0,.r x2,.r x3,.r []]).run=some (0,[.r (rD (zAT x0 x2 x3 x0.length))]):=key
 simp only[STD,qkA g,key']
theorem qpf{p:Nat→Bool}:∀{n:Nat},(uz (fun i=>if p i=true then some i else none) 0 n=none∧pick p n=[])∨∃i r,uz (fun i=>if p i=true then some i else none) 0 n=some i∧pick p n=[.i (i:Int)]::r
 | 0=>.inl ⟨rfl,rfl⟩
 | n+1=>by
  have split:uz (fun i=>if p i=true then some i else none) 0 (n+1)=(uz (fun i=>if p i=true then some i else none) 0 n).or (if p n=true then some n else none):=by
   have key:∀k i,uz (fun i=>if p i=true then some i else none) i (k+1)=(uz (fun i=>if p i=true then some i else none) i k).or (if p (i+k)=true then some (i+k) else none):=by
    intro k
    induction k with
    | zero=>intro i;simp only[uz,Nat.add_zero];by_cases c:p i=true<;>simp[c]
    | succ k ih=>
     intro i
     rw[uz]
     by_cases c:p i=true
     ·simp[uz,c]
     ·have c':p i=false:=by simpa using c
      simp only[c',Bool.false_eq_true,if_false]
      rw[ih (i+1)]
      simp only[uz,c',Bool.false_eq_true,if_false]
      rw[show i+1+k=i+(k+1) by omega]
   have:=key n 0
   rwa [Nat.zero_add] at this
  rcases qpf (p:=p) (n:=n) with⟨h1,h2⟩|⟨i,r,h1,h2⟩
  ·rw[split,h1]
   unfold pick
   by_cases c:p n=true
   ·rw[if_pos c,if_pos c,h2];exact .inr ⟨n,[],rfl,rfl⟩
   ·rw[if_neg c,if_neg c,h2];exact .inl ⟨rfl,rfl⟩
  ·rw[split,h1]
   unfold pick
   by_cases c:p n=true
   ·rw[if_pos c,if_pos c,h2];exact .inr ⟨i,r++[[.i (n:Int)]],rfl,rfl⟩
   ·rw[if_neg c,if_neg c,h2];exact .inr ⟨i,r,rfl,rfl⟩
theorem qps(x0 x2 x3:R):(qab x0 x2 x3=none∧pick (fun i=>decide (cI (plL x0 x2 x3 x0.length) i 0<0)) x0.length=[])∨∃i r,qab x0 x2 x3=some i∧pick (fun i=>decide (cI (plL x0 x2 x3 x0.length) i 0<0)) x0.length=[.i (i:Int)]::r:=by
 have e:qab x0 x2 x3=uz (fun i=>if decide (cI (plL x0 x2 x3 x0.length) (i:Int) 0<0)=true then some i else none) 0 x0.length:=by
  unfold qab
  refine q6m fun j _ hj=>?_
  rw[qxq x0 x2 x3 (show j<x0.length by omega)]
  simp only[decide_eq_true_eq]
 rw[e]
 exact qpf
def qC6(x0 x1 x2 x3:R):List PV:=if qoG x0 x1 x2 x3=0 then (qab x0 x2 x3).elim (cW (kd (zAT x0 x2 x3 x0.length))) (fun _=>[.b false,.i 0,.i 0,.i 0,.i 0]) else [.b false,.i 0,.i 0,.i 0,.i (qoG x0 x1 x2 x3)]
def qCv(x0 x1 x2 x3:R):List PV:=if qoG x0 x1 x2 x3=0 then (qab x0 x2 x3).elim [.r (qmG (zAT x0 x2 x3 x0.length)),.i 0] (fun i=>[.r [[.i (i:Int)]],.i 0]) else [.r [],.i (qoG x0 x1 x2 x3)]
theorem qcO{x0 x1 x2 x3:R}(g:Gv x0 x1 x2 x3):(qh [.r (plL x0 x2 x3 x0.length)]).run=some (0,[.r (pick (fun i=>decide (cI (plL x0 x2 x3 x0.length) i 0<0)) x0.length)]):=by
 have f:=qgS (plL x0 x2 x3 x0.length) (by rw[qhb];have:=g.j.n;omega)
 rwa [qhb] at f
theorem q4z(x0 x1 x2 x3:R)(h:x0.length<9223372036854775808):(zk [.r x0,.r x1,.r x2,.r x3]).run=some (0,qC6 x0 x1 x2 x3):=by
 rw[qg6]
 unfold qC6
 by_cases hc:qoG x0 x1 x2 x3=0
 ·have g:=qew hc
  have hn:=g.j.n
  have c:=qul g.gds g.nez (by rw[qnn];omega)
  rcases qps x0 x2 x3 with⟨t1,t2⟩|⟨i,r,t1,t2⟩
  ·simp only[STD,vh x0 x1 x2 x3 h,hc,qkA g,qcO g,t1,t2,show ¬((0:Int)<qf []) by unfold qf;simp,qdQ g,c]
   cases kd (zAT x0 x2 x3 x0.length)<;>rfl
  ·simp only[STD,vh x0 x1 x2 x3 h,hc,qkA g,qcO g,t1,t2,show ((0:Int)<qf ([U.i (i:Int)]::r)) by unfold qf;simp<;>omega]
 ·simp only[STD,vh x0 x1 x2 x3 h,hc]
theorem qll(x0 x1 x2 x3:R)(h:x0.length<9223372036854775808):(uI [.r x0,.r x1,.r x2,.r x3]).run=some (0,qCv x0 x1 x2 x3):=by
 rw[qjS]
 unfold qCv
 by_cases hc:qoG x0 x1 x2 x3=0
 ·have g:=qew hc
  have hn:=g.j.n
  have c:=qu9 g.gds g.nez (by rw[qnn];omega)
  rcases qps x0 x2 x3 with⟨t1,t2⟩|⟨i,r,t1,t2⟩
  ·simp only[STD,vh x0 x1 x2 x3 h,hc,qkA g,qcO g,t1,t2,show ¬((0:Int)<qf []) by unfold qf;simp,qdQ g,c]
   rfl
  ·have b1:qaF 1 (qf ([U.i (i:Int)]::r))=true:=by unfold qaF qf;simp;omega
   simp only[STD,vh x0 x1 x2 x3 h,hc,qkA g,qcO g,t1,t2,show ((0:Int)<qf ([U.i (i:Int)]::r)) by unfold qf;simp<;>omega,
    show (0:Int)≤1 by omega,show (1:Int)≤qf ([U.i (i:Int)]::r) by unfold qf;simp<;>omega,show (0:Int)≤0 by omega,and_self]
   rfl
 ·simp only[STD,vh x0 x1 x2 x3 h,hc]
end Go.Eng

namespace Go.Eng
def qwK(lo hi:Int):Int:=if (-100000≤lo∧lo≤100000)∧(-100000≤hi∧hi≤100000) then (if hi<lo then 9 else 0) else 2
def thE(l:R)(i:Nat):Int:=if qwK (cI l i 0) (cI l i 1)=0 then (if cI l i 0<1 then 2 else 0) else qwK (cI l i 0) (cI l i 1)
def thC(l:R):Int:=if l.length=0 then 13 else if 16<l.length then 5 else q42 (thE l) l.length
theorem qlK(x:Int):(wE [.i x]).run=some (0,[.b (decide (-100000≤x∧x≤100000))]):=by
 rw[qhW]
 by_cases h1:-100000≤x
 ·by_cases h2:x≤100000
  ·simp only[STD,h1,h2,and_self,decide_true]
   rw[show ile x 100000=true from by simp[ile,h2]]
  ·simp only[STD,h1,h2,and_false,decide_false]
   rw[show ile x 100000=false from by simp[ile];omega]
 ·simp only[STD,h1,false_and,decide_false]
theorem qkl(lo hi:Int):(ub [.i lo,.i hi]).run=some (0,[.i (qwK lo hi)]):=by
 rw[qjc]
 unfold qwK
 by_cases h1:-100000≤lo∧lo≤100000
 ·by_cases h2:-100000≤hi∧hi≤100000
  ·by_cases h3:hi<lo
   ·simp only[STD,qlK,h1,h2,h3,and_self]
   ·simp only[STD,qlK,h1,h2,h3,and_self]
  ·simp only[STD,qlK,h1,h2,and_self,and_false]
 ·simp only[STD,qlK,h1,false_and]
theorem qfY(x:Int):(q4K [.i x]).run=some (0,[.b (decide (-100000≤x∧x≤100000))]):=by
 rw[qtr]
 by_cases h1:-100000≤x
 ·by_cases h2:x≤100000
  ·simp only[STD,h1,h2,and_self,decide_true]
   rw[show ile x 100000=true from by simp[ile,h2]]
  ·simp only[STD,h1,h2,and_false,decide_false]
   rw[show ile x 100000=false from by simp[ile];omega]
 ·simp only[STD,h1,false_and,decide_false]
theorem qi5(lo hi:Int):(jE [.i lo,.i hi]).run=some (0,[.i (qwK lo hi)]):=by
 rw[qoq]
 unfold qwK
 by_cases h1:-100000≤lo∧lo≤100000
 ·by_cases h2:-100000≤hi∧hi≤100000
  ·by_cases h3:hi<lo
   ·simp only[STD,qfY,h1,h2,h3,and_self]
   ·simp only[STD,qfY,h1,h2,h3,and_self]
  ·simp only[STD,qfY,h1,h2,and_self,and_false]
 ·simp only[STD,qfY,h1,false_and]
def qe6(f:Nat→Int):Nat→Int
 | 0=>0
 | n+1=>qk .i64 (qe6 f n) (f n)
theorem qxV(l:R)(i:Nat):thE l i=if qwK (cI l i 0) (cI l i 1)=0 then (if cI l i 0<1 then 2 else 0) else qwK (cI l i 0) (cI l i 1):=rfl
theorem qkv(l:R)(h:l.length<9223372036854775808):(zm [.r l]).run=some (0,[.i (thC l)]):=by
 rw[qck]
 unfold thC
 have g:=qpM l 16
 simp only[show ((16:Nat):Int)=16 from rfl] at g
 by_cases h0:l.length=0
 ·simp only[STD,j9,h0]
 by_cases h1:16<l.length
 ·simp only[STD,j9,h0,g,h1]
 have key:=qa6 (S:=vk) (fun i=>[.r l,.i (qf l),.i (i:Int)]) (thE l) [] [] l.length h (fun i hi=>by
  rw[q3T]
  have a1:(i:Int)<qf l:=qcb hi
  simp only[STD,a1,jT,and_self,qkl,q1o hi h,qxV]
  by_cases c:qwK (cI l i 0) (cI l i 1)=0
  ·by_cases d:cI l i 0<1
   ·simp[c,d]
   ·simp[c,d]
  ·simp[c]) (by
  rw[q3T]
  simp only[STD,qjP])
 simp only[show (((0:Nat)):Int)=0 from rfl] at key
 by_cases c:q42 (thE l) l.length=0
 ·rw[if_pos c] at key
  simp only[STD,j9,h0,g,h1,key,qW key,c]
 ·rw[if_neg c] at key
  simp only[STD,j9,h0,g,h1,key,qW key,show ¬((1:Nat)=0) by omega]
theorem qcf(l:R)(h:l.length<9223372036854775808):(vL [.r l]).run=some (0,[.i (thC l)]):=by
 rw[qly]
 unfold thC
 have g:=qpM l 16
 simp only[show ((16:Nat):Int)=16 from rfl] at g
 by_cases h0:l.length=0
 ·simp only[STD,j9,h0]
 by_cases h1:16<l.length
 ·simp only[STD,j9,h0,g,h1]
 have key:=qa6 (S:=q0L) (fun i=>[.r l,.i (i:Int)]) (thE l) [] [] l.length h (fun i hi=>by
  rw[qat]
  have a1:(i:Int)<qf l:=qcb hi
  simp only[STD,a1,jT,and_self,qi5,q1o hi h,qxV]
  by_cases c:qwK (cI l i 0) (cI l i 1)=0
  ·by_cases d:cI l i 0<1
   ·simp[c,d]
   ·simp[c,d]
  ·simp[c]) (by
  rw[qat]
  simp only[STD,qjP])
 simp only[show (((0:Nat)):Int)=0 from rfl] at key
 by_cases c:q42 (thE l) l.length=0
 ·rw[if_pos c] at key
  simp only[STD,j9,h0,g,h1,key,qW key,c]
 ·rw[if_neg c] at key
  simp only[STD,j9,h0,g,h1,key,qW key,show ¬((1:Nat)=0) by omega]
def qt6(l:R)(n:Nat):Int:=qe6 (fun i=>cI l i 0) n
def qhf(l:R)(n:Nat):Int:=qe6 (fun i=>cI l i 1) n
def q81(l:R):List PV:=if thC l=0 then [.i (qt6 l l.length),.i (qhf l l.length),.i 0] else [.i 0,.i 0,.i (thC l)]
theorem q58(l:R)(h:l.length<9223372036854775808):(zv [.r l]).run=some (0,q81 l):=by
 rw[qhF]
 unfold q81
 by_cases hc:thC l=0
 ·have key:=wc (S:=vX) (fun i=>[.r l,.i (qf l),.i (i:Int),.i 0,.i 0,.i (qt6 l i),.i (qhf l i)]) (0,[.i 0,.i 0,.i (qt6 l l.length),.i (qhf l l.length)]) l.length h (fun i hi=>by
   rw[q6O]
   have a1:(i:Int)<qf l:=qcb hi
   simp only[STD,a1,jT,and_self,q1o hi h]
   rfl) (by
   rw[q6O]
   simp only[STD,qjP])
  have key':(qj vX [.r l,.i (qf l),.i 0,.i 0,.i 0,.i 0,.i 0]).run=some (0,[.i 0,.i 0,.i (qt6 l l.length),.i (qhf l l.length)]):=key
  simp only[STD,qkv l h,hc,key']
 ·simp only[STD,qkv l h,hc]
theorem qmK(l:R)(h:l.length<9223372036854775808):(q2q [.r l]).run=some (0,q81 l):=by
 rw[qlB]
 unfold q81
 by_cases hc:thC l=0
 ·have key:=wc (S:=uf) (fun i=>[.r l,.i (i:Int),.i 0,.i 0,.i (qt6 l i),.i (qhf l i)]) (0,[.i 0,.i 0,.i (qt6 l l.length),.i (qhf l l.length)]) l.length h (fun i hi=>by
   rw[q9X]
   have a1:(i:Int)<qf l:=qcb hi
   simp only[STD,a1,jT,and_self,q1o hi h]
   rfl) (by
   rw[q9X]
   simp only[STD,qjP])
  have key':(qj uf [.r l,.i 0,.i 0,.i 0,.i 0,.i 0]).run=some (0,[.i 0,.i 0,.i (qt6 l l.length),.i (qhf l l.length)]):=key
  simp only[STD,qcf l h,hc,key']
 ·simp only[STD,qcf l h,hc]
def qlM(l m:R)(i:Nat):Bool:=decide (cI m i 0<cI l i 0∨cI l i 1<cI m i 0)
def qlY(m:R)(n:Nat):Int:=qe6 (fun i=>cI m i 0) n
theorem qxQ(l m:R){i:Nat}(s:Int)(hi:i<l.length):(v6 [.i (i:Int),.i (cI m i 0),.i s,.r l]).run=some (0,[.b (qlM l m i),.i (qk .i64 s (cI m i 0)),.r l]):=by
 rw[qge]
 have a1:(i:Int)<qf l:=qcb hi
 unfold qlM
 by_cases c:cI m i 0<cI l i 0
 ·simp only[STD,a1,jT,and_self,c,true_or,decide_true]
 ·simp only[STD,a1,jT,and_self,c,false_or]
  rfl
theorem qkn(l m:R)(e:m.length=l.length)(hn:l.length≤1000000):(qG [.r m,.i 0,.r l]).run=some (0,[.r (pick (qlM l m) l.length),.i (qlY m l.length),.r l]):=by
 rw[q1v]
 have key:=wc (S:=qw) (fun i=>[.r m,.i (qf m),.i (i:Int),.i (qlY m i),.r l,.r (pick (qlM l m) i)]) (0,[.i (qlY m l.length),.r l,.r (pick (qlM l m) l.length)]) l.length (by omega) (fun i hi=>by
  rw[vE]
  have a1:(i:Int)<qf m:=qcb (by omega)
  have pl:=qcI (qlM l m) i
  have room:=qcg (l:=pick (qlM l m) i) (n:=i) pl (by omega) (.i (i:Int))
  simp only[STD,a1,jT,and_self,qxQ l m _ hi,q1o hi (show l.length<9223372036854775808 by omega),room,pick]
  cases qlM l m i<;>rfl) (by
  rw[vE]
  simp only[STD,show ¬((l.length:Int)<qf m) by unfold qf;omega])
 have key':(qj qw [.r m,.i (qf m),.i 0,.i 0,.r l,.r []]).run=some (0,[.i (qlY m l.length),.r l,.r (pick (qlM l m) l.length)]):=key
 simp only[STD,key']
def qBL(l m:R):Prop:=∀i,i<l.length→qlM l m i=false
instance (l m:R):Decidable (qBL l m):=inferInstanceAs (Decidable (∀i,i<l.length→_))
def qfn(l m:R):List PV:=if thC l=0 then (if m.length=l.length then (if qBL l m then [.i (qlY m l.length),.i 0] else [.i 0,.i 14]) else [.i 0,.i 8]) else [.i 0,.i (thC l)]
theorem qx9{l:R}(h:thC l=0):l.length≠0∧l.length≤16∧∀i,i<l.length→thE l i=0:=by
 unfold thC at h
 split at h
 ·omega
 ·rename_i h0
  split at h
  ·omega
  ·exact⟨h0,by omega,fun i hi=>qhz h i hi⟩
theorem q2P(l m:R)(h:l.length<9223372036854775808):(z7 [.r l,.r m]).run=some (0,qfn l m):=by
 rw[qjq]
 unfold qfn
 by_cases hc:thC l=0
 ·obtain⟨_,h16,_⟩:=qx9 hc
  by_cases he:m.length=l.length
  ·have f:=qkn l m he (by omega)
   by_cases ha:qBL l m
   ·have z:qf (pick (qlM l m) l.length)=0:=q8D.2 ha
    simp only[STD,qkv l h,hc,q0G,he,f,z,ha,show ¬((0:Int)<0) by omega]
   ·have z:(0:Int)<qf (pick (qlM l m) l.length):=by
     have:=qtG (pick (qlM l m) l.length)
     have:qf (pick (qlM l m) l.length)≠0:=fun e=>ha (q8D.1 e)
     omega
    simp only[STD,qkv l h,hc,q0G,he,f,z,ha]
  ·simp only[STD,qkv l h,hc,q0G,he]
 ·simp only[STD,qkv l h,hc]
theorem qhw(lo hi v:Int):(q1f [.i lo,.i hi,.i v]).run=some (0,[.b (decide (lo≤v∧v≤hi))]):=by
 rw[qrH]
 by_cases h1:lo≤v
 ·simp only[STD,h1,true_and];rfl
 ·simp only[STD,h1,false_and,decide_false]
theorem qx6(l m:R)(i:Nat):(¬(cI l i 0≤cI m i 0∧cI m i 0≤cI l i 1))=(qlM l m i=true):=by
 unfold qlM
 rw[decide_eq_true_iff]
 exact propext ⟨fun h=>by omega,fun h=>by omega⟩
theorem qo6(l m:R)(h:l.length<9223372036854775808):(q3U [.r l,.r m]).run=some (0,qfn l m):=by
 rw[qno]
 unfold qfn
 by_cases hc:thC l=0
 ·by_cases he:m.length=l.length
  ·have L:=q76 (S:=va) (fun i=>[.r l,.r m,.i (qlY m i),.i (i:Int)]) (fun i=>if qlM l m i=true then some (1,[PV.i 0,PV.i 14]) else none) (0,[.i (qlY m l.length)]) l.length h (fun i hi hf=>by
    rw[q5n]
    have a1:(i:Int)<qf m:=qcb (by omega)
    have a2:(i:Int)<qf l:=qcb hi
    by_cases c:qlM l m i=true
    ·rw[if_pos c] at hf;cases hf
    ·simp only[STD,a1,a2,jT,and_self,qhw,qx6,c,q1o hi h]
     rfl) (fun i r hi hf=>by
    rw[q5n]
    have a1:(i:Int)<qf m:=qcb (by omega)
    have a2:(i:Int)<qf l:=qcb hi
    by_cases c:qlM l m i=true
    ·rw[if_pos c] at hf
     cases hf
     simp only[STD,a1,a2,jT,and_self,qhw,qx6,c]
    ·rw[if_neg c] at hf;cases hf) (by
    rw[q5n]
    simp only[STD,show ¬((l.length:Int)<qf m) by unfold qf;omega])
   have L':(qj va [.r l,.r m,.i 0,.i 0]).run=some ((uz (fun i=>if qlM l m i=true then some (1,[PV.i 0,PV.i 14]) else none) 0 l.length).getD (0,[.i (qlY m l.length)])):=L
   by_cases ha:qBL l m
   ·have z:uz (fun i=>if qlM l m i=true then some (1,[PV.i 0,PV.i 14]) else none) 0 l.length=none:=by
     rw[q6m (g:=fun _=>none) (fun j _ hj=>by rw[ha j (by omega)];rfl),qec]
    rw[z] at L'
    have L2:(qj va [.r l,.r m,.i 0,.i 0]).run=some (0,[.i (qlY m l.length)]):=L'
    simp only[STD,qcf l h,hc,q0G,he,L2,qW L2,ha]
   ·have z:uz (fun i=>if qlM l m i=true then some (1,[PV.i 0,PV.i 14]) else none) 0 l.length=some (1,[.i 0,.i 14]):=by
     cases hs:uz (fun i=>if qlM l m i=true then some (1,[PV.i 0,PV.i 14]) else none) 0 l.length with
     | none=>
      exfalso;apply ha
      intro i hi
      have:=q5i hs i (by omega) (by omega)
      split at this
      ·cases this
      ·rename_i c;simpa using c
     | some r=>
      obtain⟨i,_,_,h1,_⟩:=q9j hs
      split at h1
      ·rw[←h1]
      ·cases h1
    rw[z] at L'
    have L2:(qj va [.r l,.r m,.i 0,.i 0]).run=some (1,[.i 0,.i 14]):=L'
    simp only[STD,qcf l h,hc,q0G,he,L2,qW L2,ha,show ¬((1:Nat)=0) by omega]
  ·simp only[STD,qcf l h,hc,q0G,he]
 ·simp only[STD,qcf l h,hc]
end Go.Eng

namespace Go.Eng
def jA:R:=[[.i 0,.i 0,.i 100,.i 104,.i 4,.i 1,.b false],[.i 1000,.i 0,.i 100,.i 104,.i 4,.i 1,.b false]]
def jB:R:=[[.i 0,.i 0,.i 90,.i 92,.i 4,.i 1,.b true],[.i 1000,.i 0,.i 90,.i 92,.i 4,.i 1,.b true]]
def mA:R:=[[.i 2,.i 0,.i 100],[.i 998,.i 0,.i 100]]
def mB(w:Int):R:=[[.i (-w),.i 0,.i 92],[.i (1000+w),.i 0,.i 92]]
theorem qAs:(q8J []).run=some (0,[.r jA,.r jB]):=by
 rw[qrB]
 have L:=wc (S:=q2L) (fun i=>[.i 2,.i (i:Int),.r [[.i 0],[.i 1000]],.r (jA.take i),.r (jB.take i)]) (0,[.r jA,.r jB]) 2 (by omega) (fun i hi=>by
  rw[qgH]
  rcases (show i=0∨i=1 by omega) with rfl|rfl<;>rfl) (by rw[qgH];rfl)
 have L':(qj q2L [.i (qf [[U.i 0],[.i 1000]]),.i 0,.r [[.i 0],[.i 1000]],.r [],.r []]).run=some (0,[.r jA,.r jB]):=L
 simp only[STD,L']
theorem qzZ(w:Int)(h:0≤w∧w≤1000):(uL [.i w]).run=some (0,[.r mA,.r (mB w)]):=by
 rw[qjM,wA (by omega),wv (by omega)]
 unfold mA mB
 rw[show (0:Int)-w=-w by omega];rfl
theorem ej:q3Z jA jB=0:=by decide +kernel
theorem es:qmm jA jB=true:=by decide +kernel
theorem eg2:qoG jA jB mA (mB 2)=0:=by decide +kernel
theorem eg3:qoG jA jB mA (mB 3)=0:=by decide +kernel
theorem et2:qab jA mA (mB 2)=none:=by decide +kernel
theorem et3:qab jA mA (mB 3)=none:=by decide +kernel
theorem ef2:(kd (zAT jA mA (mB 2) 2)).isSome=true:=by decide +kernel
theorem ef3:(kd (zAT jA mA (mB 3) 2)).isSome=false:=by decide +kernel
theorem eo(i:Nat)(h:i<2):qlG jA mA (mB 2) i=false∧qlG jA mA (mB 3) i=true:=by
 rcases (show i=0∨i=1 by omega) with rfl|rfl
 ·constructor<;>decide +kernel
 ·constructor<;>decide +kernel
theorem ep2:pick (qlG jA mA (mB 2)) 2=[]:=by
 unfold pick pick pick
 rw[(eo 1 (by omega)).1,(eo 0 (by omega)).1];rfl
theorem ep3:pick (qlG jA mA (mB 3)) 2=[[.i 0],[.i 1]]:=by
 unfold pick pick pick
 rw[(eo 1 (by omega)).2,(eo 0 (by omega)).2];rfl
theorem ec3:qmG (zAT jA mA (mB 3) 2)=[[.i 0],[.i 1]]:=by
 have z:qj3 (zAT jA mA (mB 3) 2) 0 1=some (two 0 1):=by
  unfold qj3
  have:(kd [ix (zAT jA mA (mB 3) 2) 0,ix (zAT jA mA (mB 3) 2) 1]).isSome=false:=by decide +kernel
  rw[this];rfl
 unfold qmG qAv
 simp only[show (zAT jA mA (mB 3) 2).length=2 from qnn _ _ _ _,uz,Nat.zero_add,Nat.add_zero,show 2-1=1 from rfl,z,Option.elim,id]
 rfl
theorem em:mgL jA jB 2=[[.i 0],[.i 0]]:=by
 have h0:mgA jA jB 0=0:=by decide +kernel
 have h1:mgA jA jB 1=0:=by decide +kernel
 unfold mgL qhn
 rw[show List.range 2=[0,1] from rfl]
 simp only[List.map_cons,List.map_nil,h0,h1]
theorem qmj:jA.length<9223372036854775808:=by show 2<_;omega
theorem eh:q81 [[.i 10,.i 12],[.i 20,.i 21]]=[.i 30,.i 33,.i 0]:=by
 have h1:thC [[.i 10,.i 12],[.i 20,.i 21]]=0:=by decide +kernel
 have h2:qt6 [[.i 10,.i 12],[.i 20,.i 21]] 2=30:=by decide +kernel
 have h3:qhf [[.i 10,.i 12],[.i 20,.i 21]] 2=33:=by decide +kernel
 unfold q81
 rw[if_pos h1]
 show [PV.i (qt6 _ 2),.i (qhf _ 2),.i 0]=_
 rw[h2,h3]
theorem yx:(qx []).run=some (0,[.b true]):=by
 rw[qo1]
 have M:=q5c jA jB qmj
 have S:=q8N jA jB qmj
 have P2:=q1V jA jB mA (mB 2) qmj
 have P3:=q1V jA jB mA (mB 3) qmj
 have K:=qll jA jB mA (mB 3) qmj
 have T2:=q4z jA jB mA (mB 2) qmj
 have T3:=q4z jA jB mA (mB 3) qmj
 have H:=q58 [[.i 10,.i 12],[.i 20,.i 21]] (by show 2<_;omega)
 unfold ql4 at M
 unfold qr6 at S
 unfold qA6 at P2 P3
 unfold qCv at K
 unfold qC6 at T2 T3
 have l2:jA.length=2:=rfl
 rw[if_pos ej,l2,em] at M
 rw[if_pos ej,es] at S
 rw[if_pos eg2,l2,ep2] at P2
 rw[if_pos eg3,l2,ep3] at P3
 rw[if_pos eg3,et3,l2,ec3] at K
 rw[if_pos eg2,et2,l2] at T2
 rw[if_pos eg3,et3,l2] at T3
 rw[eh] at H
 have f3:kd (zAT jA mA (mB 3) 2)=none:=by
  have:=ef3
  cases h:kd (zAT jA mA (mB 3) 2) with
  | none=>rfl
  | some x=>rw[h] at this;cases this
 obtain⟨w,f2⟩:∃w,kd (zAT jA mA (mB 2) 2)=some w:=Option.isSome_iff_exists.1 ef2
 rw[f2] at T2
 rw[f3] at T3
 have T2':(zk [.r jA,.r jB,.r mA,.r (mB 2)]).run=some (0,[.b true,.i (w.1:Int),.i (w.2.1:Int),.i w.2.2,.i 0]):=T2
 have T3':(zk [.r jA,.r jB,.r mA,.r (mB 3)]).run=some (0,[.b false,.i 0,.i 0,.i 0,.i 0]):=T3
 have K':(uI [.r jA,.r jB,.r mA,.r (mB 3)]).run=some (0,[.r [[.i 0],[.i 1]],.i 0]):=K
 have m2:=qzZ 2 (by omega)
 have m3:=qzZ 3 (by omega)
 have q0:=q0U [[.i 0],[.i 0]] (by show 2<_;omega)
 have q1:=q0U [[.i 0],[.i 1]] (by show 2<_;omega)
 have w0:qk .i64 0 0=0:=by decide
 simp only[STD,qAs,M,S,P2,P3,K',T2',T3',H,m2,m3,q0,q1,w0,show qf []=0 from rfl,and_self]
theorem qBj(x0 x1 x2 x3:R)(h:x0.length<9223372036854775808):∃b,(q9u [.r x0,.r x1,.r x2,.r x3]).run=some (0,[.b b]):=by
 rw[qsC]
 by_cases h0:(40:Int)<qf x0
 ·simp only[STD,h0];exact⟨_,rfl⟩
 by_cases h1:(40:Int)<qf x1
 ·simp only[STD,h0,h1];exact⟨_,rfl⟩
 by_cases h2:(40:Int)<qf x2
 ·simp only[STD,h0,h1,h2];exact⟨_,rfl⟩
 by_cases h3:(40:Int)<qf x3
 ·simp only[STD,h0,h1,h2,h3];exact⟨_,rfl⟩
 by_cases h4:qf x0≤4
 ·simp only[STD,h0,h1,h2,h3,h4];exact⟨_,rfl⟩
 ·simp only[STD,h0,h1,h2,h3,h4,q8r x0 x1 x2 x3 h];exact⟨_,rfl⟩
theorem qx2(x0 x1 x2 x3:R)(h:x0.length<9223372036854775808):∃b,(q4B [.r x0,.r x1,.r x2,.r x3]).run=some (0,[.b b]):=by
 rw[qsq]
 obtain⟨b,e⟩:=qBj x0 x1 x2 x3 h
 simp only[STD,e];exact⟨_,rfl⟩
theorem qxp(x0 x1 x2 x3:R)(h:x0.length<9223372036854775808):∃b,(q54 [.r x0,.r x1,.r x2,.r x3]).run=some (0,[.b b])∧(b=true→qoG x0 x1 x2 x3=0):=by
 rw[qoo]
 obtain⟨b,e⟩:=qx2 x0 x1 x2 x3 h
 have g:=q8r x0 x1 x2 x3 h
 cases b with
 | false=>simp only[STD,e];exact⟨_,rfl,fun h=>by cases h⟩
 | true=>simp only[STD,e,g];exact⟨_,rfl,fun h=>by simpa[ieq] using h⟩
theorem qeX{sh:List Sh}{x:R}(h:UFit (.sl sh) (.l x)):x.length<9223372036854775808:=by cases h with|sl _ _ h=>unfold maxLen at h;omega
theorem qq1(x:Int):ieq x x=true:=by simp[ieq]
theorem qhO(x0:R)(x1:R)(lex0:UFit (.sl [(.int .i64),(.int .i64),(.int .i64),(.int .i64),(.int .i64),(.int .i64),.bool]) (.l x0))(_:UFit (.sl [(.int .i64),(.int .i64),(.int .i64),(.int .i64),(.int .i64),(.int .i64),.bool]) (.l x1)):(jd [.r x0,.r x1]).run=some (0,[.b true]):=by
 have h:=qeX lex0
 rw[qcA]
 by_cases h0:(40:Int)<qf x0
 ·simp only[STD,h0,yx]
 by_cases h1:(40:Int)<qf x1
 ·simp only[STD,h0,h1,yx]
 have M:=q5c x0 x1 h
 have N:=qmD x0 x1 h
 have S:=q8N x0 x1 h
 have T:=qrs x0 x1 h
 obtain⟨l,e,hl,hm⟩:∃l e,ql4 x0 x1=[.r l,.i e]∧l.length<9223372036854775808:=by
  unfold ql4
  split
  ·exact⟨_,_,rfl,by rw[qhR];exact h⟩
  ·exact⟨_,_,rfl,by simp⟩
 obtain⟨b,f,hs⟩:∃b f,qr6 x0 x1=[.b b,.i f]:=by
  unfold qr6
  split<;>exact⟨_,_,rfl⟩
 rw[hl] at M N
 rw[hs] at S T
 have q:=q0U l hm
 simp only[STD,h0,h1,M,N,S,T,q,j0 x0 x1 h,jz x0 x1 h,yx,qq1]
theorem qhk(x0:R)(x1:R)(x2:R)(x3:R)(lex0:UFit (.sl [(.int .i64),(.int .i64),(.int .i64),(.int .i64),(.int .i64),(.int .i64),.bool]) (.l x0))(_:UFit (.sl [(.int .i64),(.int .i64),(.int .i64),(.int .i64),(.int .i64),(.int .i64),.bool]) (.l x1))(_:UFit (.sl [(.int .i64),(.int .i64),(.int .i64)]) (.l x2))(_:UFit (.sl [(.int .i64),(.int .i64),(.int .i64)]) (.l x3)):(j8 [.r x0,.r x1,.r x2,.r x3]).run=some (0,[.b true]):=by
 have h:=qeX lex0
 rw[qcZ]
 obtain⟨b,f⟩:=qx2 x0 x1 x2 x3 h
 cases b with
 | false=>simp only[STD,f,yx]
 | true=>
  have P:=q1V x0 x1 x2 x3 h
  have Q:=qmH x0 x1 x2 x3 h
  obtain⟨l,e,hl,hm⟩:∃l e,qA6 x0 x1 x2 x3=[.r l,.i e]∧l.length<9223372036854775808:=by
   unfold qA6
   split
   ·exact⟨_,_,rfl,by have:=qcI (qlG x0 x2 x3) x0.length;omega⟩
   ·exact⟨_,_,rfl,by simp⟩
  rw[hl] at P Q
  have q:=q0U l hm
  simp only[STD,f,P,Q,q,yx,qq1]
theorem qgo(x0:R)(x1:R)(lex0:UFit (.sl [(.int .i64),(.int .i64)]) (.l x0))(_:x0.length*16≤140737488351232)(_:UFit (.sl [(.int .i64)]) (.l x1))(_:x1.length*8≤140737488351232):(vG [.r x0,.r x1]).run=some (0,[.b true]):=by
 have h:=qeX lex0
 rw[qbV]
 by_cases h0:(60:Int)<qf x0
 ·simp only[STD,h0,yx]
 by_cases h1:(60:Int)<qf x1
 ·simp only[STD,h0,h1,yx]
 have A:=q2P x0 x1 h
 have B:=qo6 x0 x1 h
 have C:=q58 x0 h
 have D:=qmK x0 h
 obtain⟨a,b,e⟩:∃a b,qfn x0 x1=[.i a,.i b]:=by
  unfold qfn
  split
  ·split
   ·split<;>exact⟨_,_,rfl⟩
   ·exact⟨_,_,rfl⟩
  ·exact⟨_,_,rfl⟩
 obtain⟨c,d,f,e'⟩:∃c d f,q81 x0=[.i c,.i d,.i f]:=by
  unfold q81
  split<;>exact⟨_,_,_,rfl⟩
 rw[e] at A B
 rw[e'] at C D
 simp only[STD,h0,h1,A,B,C,D,yx,qq1,and_self]
end Go.Eng

namespace Go.Eng
theorem qtF{f:Nat→Int}:∀n:Nat,n≤16→(∀i,i<n→0≤f i∧f i≤100000)→0≤qe6 f n∧qe6 f n≤100000*(n:Int)
 | 0,_,_=>⟨by simp[qe6],by simp[qe6]⟩
 | n+1,hn,h=>by
  obtain⟨a,b⟩:=qtF n (by omega) fun i hi=>h i (by omega)
  have c:=h n (by omega)
  unfold qe6
  rw[wv (by omega)]
  constructor<;>omega
theorem quh{f g:Nat→Int}:∀n:Nat,n≤16→(∀i,i<n→0≤f i∧f i≤g i∧g i≤100000)→qe6 f n≤qe6 g n
 | 0,_,_=>Int.le_refl _
 | n+1,hn,h=>by
  have a:=qtF n (by omega) fun i hi=>(show 0≤f i∧f i≤100000 by have:=h i (by omega);omega)
  have b:=qtF n (by omega) fun i hi=>(show 0≤g i∧g i≤100000 by have:=h i (by omega);omega)
  have ih:=quh n (by omega) fun i hi=>h i (by omega)
  have c:=h n (by omega)
  unfold qe6
  rw[wv (by omega),wv (by omega)]
  omega
theorem qpb{f g:Nat→Int}:∀n:Nat,(∀i,i<n→f i=g i)→qe6 f n=qe6 g n
 | 0,_=>rfl
 | n+1,h=>by unfold qe6;rw[qpb n fun i hi=>h i (by omega),h n (by omega)]
structure ThN (l:R) (i:Nat):Prop where
 lo:1≤cI l i 0
 le:cI l i 0≤cI l i 1
 hi:cI l i 1≤100000
 c:qwK (cI l i 0) (cI l i 1)=0
theorem qzR{l:R}{i:Nat}(h:thE l i=0):ThN l i:=by
 unfold thE at h
 split at h
 ·rename_i c
  split at h
  ·omega
  ·have c':=c
   unfold qwK at c'
   split at c'
   ·split at c'
    ·omega
    ·exact⟨by omega,by omega,by omega,c⟩
   ·omega
 ·rename_i c;exact absurd h c
theorem qy9{x y:Int}(hx:0≤x)(hy:0<y):0≤x.tmod y∧x.tmod y<y:=⟨Int.tmod_nonneg _ hx,Int.tmod_lt_of_pos _ hy⟩
def qmw(l:R)(x:Int)(i:Nat):Int:=cI l i 0+x.tmod (cI l i 1-cI l i 0+1)
theorem qmL{l m:R}(hc:thC l=0)(he:m.length=l.length)(hi:∀i,i<l.length→cI l i 0≤cI m i 0∧cI m i 0≤cI l i 1):qfn l m=[.i (qlY m l.length),.i 0]:=by
 have ha:qBL l m:=fun i h=>by
  unfold qlM
  have:=hi i h
  rw[decide_eq_false_iff_not];omega
 unfold qfn
 rw[if_pos hc,if_pos he,if_pos ha]
theorem qgr(x0:R)(x1:Int)(lex0:UFit (.sl [(.int .i64),(.int .i64)]) (.l x0))(wex0:x0.length*16≤140737488351232)(lox1:IntKind.min .u16≤x1)(hix1:x1≤IntKind.max .u16):(vM [.r x0,.i x1]).run=some (0,[.b true]):=by
 have h:=qeX lex0
 have r1:(0:Int)≤x1∧x1≤65535:=⟨lox1,hix1⟩
 rw[qbH]
 by_cases h0:(60:Int)<qf x0
 ·simp only[STD,h0,yx]
 have C:=q58 x0 h
 unfold q81 at C
 by_cases hc:thC x0=0
 ·rw[if_pos hc] at C
  obtain⟨_,h16,hz⟩:=qx9 hc
  have N:=fun i (hi:i<x0.length)=>qzR (hz i hi)
  have L:=wc (S:=zC) (fun i=>[.r x0,.i x1,.r x0,.i (qf x0),.i (i:Int),.i (qt6 x0 x0.length),.i (qhf x0 x0.length),.r (qhn (fun k=>[.i (cI x0 k 0)]) i),.r (qhn (fun k=>[.i (cI x0 k 1)]) i),.r (qhn (fun k=>[.i (qmw x0 x1 k)]) i)])
   (0,[.r x0,.i (qt6 x0 x0.length),.i (qhf x0 x0.length),.r (qhn (fun k=>[.i (cI x0 k 0)]) x0.length),.r (qhn (fun k=>[.i (cI x0 k 1)]) x0.length),.r (qhn (fun k=>[.i (qmw x0 x1 k)]) x0.length)]) x0.length h (fun i hi=>by
   rw[q2m]
   have a1:(i:Int)<qf x0:=qcb hi
   obtain⟨n1,n2,n3,n4⟩:=N i hi
   have w1:qmU .i64 x1=x1:=qzB (by omega)
   have w2:qB .i64 (cI x0 i 1) (cI x0 i 0)=cI x0 i 1-cI x0 i 0:=wA (by omega)
   have w3:qk .i64 (cI x0 i 1-cI x0 i 0) 1=cI x0 i 1-cI x0 i 0+1:=wv (by omega)
   have t:=qy9 (x:=x1) (y:=cI x0 i 1-cI x0 i 0+1) (by omega) (by omega)
   have w4:qou x1 (cI x0 i 1-cI x0 i 0+1)=x1.tmod (cI x0 i 1-cI x0 i 0+1):=rfl
   have w5:qk .i64 (cI x0 i 0) (x1.tmod (cI x0 i 1-cI x0 i 0+1))=qmw x0 x1 i:=wv (by omega)
   have room:∀(g:Nat→List U) (a:List U),qf (qhn g i)+qf [a]≤17592186044416:=fun g a=>qwY hi (by omega) a
   simp only[STD,a1,jT,and_self,qi5,n4,w1,w2,w3,w4,w5,room,q1o hi h,show ¬(cI x0 i 1-cI x0 i 0+1=0) by omega]
   rw[qbW (fun k=>[U.i (cI x0 k 0)]),qbW (fun k=>[U.i (cI x0 k 1)]),qbW (fun k=>[U.i (qmw x0 x1 k)])]) (by
   rw[q2m]
   simp only[STD,qjP])
  have L':(qj zC [.r x0,.i x1,.r x0,.i (qf x0),.i 0,.i (qt6 x0 x0.length),.i (qhf x0 x0.length),.r [],.r [],.r []]).run=some (0,[.r x0,.i (qt6 x0 x0.length),.i (qhf x0 x0.length),.r (qhn (fun k=>[.i (cI x0 k 0)]) x0.length),.r (qhn (fun k=>[.i (cI x0 k 1)]) x0.length),.r (qhn (fun k=>[.i (qmw x0 x1 k)]) x0.length)]):=L
  have at_:∀(f:Nat→Int) (i:Nat),i<x0.length→cI (qhn (fun k=>[U.i (f k)]) x0.length) i 0=f i:=fun f i hi=>by rw[qsU _ hi];rfl
  have ms:∀f:Nat→Int,qlY (qhn (fun k=>[U.i (f k)]) x0.length) x0.length=qe6 f x0.length:=fun f=>qpb _ fun i hi=>at_ f i hi
  have sv:∀i,i<x0.length→cI x0 i 0≤qmw x0 x1 i∧qmw x0 x1 i≤cI x0 i 1:=fun i hi=>by
   obtain⟨n1,n2,n3,_⟩:=N i hi
   have t:=qy9 (x:=x1) (y:=cI x0 i 1-cI x0 i 0+1) (by omega) (by omega)
   unfold qmw;omega
  have A:=q2P x0 (qhn (fun k=>[.i (cI x0 k 0)]) x0.length) h
  have B:=q2P x0 (qhn (fun k=>[.i (cI x0 k 1)]) x0.length) h
  have D:=q2P x0 (qhn (fun k=>[.i (qmw x0 x1 k)]) x0.length) h
  rw[qmL hc (qfQ _ _) fun i hi=>by rw[at_ _ i hi];have:=N i hi;exact⟨Int.le_refl _,this.le⟩,ms] at A
  rw[qmL hc (qfQ _ _) fun i hi=>by rw[at_ _ i hi];have:=N i hi;exact⟨this.le,Int.le_refl _⟩,ms] at B
  rw[qmL hc (qfQ _ _) fun i hi=>by rw[at_ _ i hi];exact sv i hi,ms] at D
  have b1:qt6 x0 x0.length≤qe6 (qmw x0 x1) x0.length:=quh _ h16 fun i hi=>by
   have:=N i hi;have:=sv i hi;obtain⟨n1,n2,n3,_⟩:=N i hi;omega
  have b2:qe6 (qmw x0 x1) x0.length≤qhf x0 x0.length:=quh _ h16 fun i hi=>by
   have:=sv i hi;obtain⟨n1,n2,n3,_⟩:=N i hi;omega
  have w0:qk .i64 0 0=0:=by decide
  have A':(z7 [.r x0,.r (qhn (fun k=>[.i (cI x0 k 0)]) x0.length)]).run=some (0,[.i (qt6 x0 x0.length),.i 0]):=A
  have B':(z7 [.r x0,.r (qhn (fun k=>[.i (cI x0 k 1)]) x0.length)]).run=some (0,[.i (qhf x0 x0.length),.i 0]):=B
  simp only[STD,h0,C,L',qW L',A',B',D,w0,qhw,b1,b2,and_self,decide_true,yx]
 ·rw[if_neg hc] at C
  simp only[STD,h0,C,hc,yx]
theorem qr7{x0 x1:R}(h1:x0.length≤16)(h2:x1.length=x0.length)(h3:∀i,i<x0.length→qqF x0 i=0)(h4:∀i,i<x0.length→qpj x1 i=0):qeR x0 x1=0:=by
 unfold qeR
 rw[if_neg (by unfold qf;omega),q6m (g:=fun _=>none) (fun j _ hj=>by unfold q7S;rw[if_pos (h3 j (by omega))]),qec]
 simp only
 rw[if_neg (by unfold qf;omega),q6m (g:=fun _=>none) (fun j _ hj=>by unfold q7S;rw[if_pos (h4 j (by omega))]),qec]
theorem qBt{x0 x1 x2 x3:R}(g:Gv x0 x1 x2 x3):∃x y z,qC6 x0 x1 x2 x3=[.b (decide (qab x0 x2 x3=none)&&(kd (zAT x0 x2 x3 x0.length)).isSome),.i x,.i y,.i z,.i 0]:=by
 unfold qC6
 rw[if_pos (qye g)]
 cases qab x0 x2 x3 with
 | none=>
  show ∃x y z,cW (kd _)=_
  unfold cW
  cases kd (zAT x0 x2 x3 x0.length) with
  | none=>exact⟨_,_,_,rfl⟩
  | some w=>exact⟨_,_,_,rfl⟩
 | some i=>exact⟨_,_,_,rfl⟩
theorem qxR{x0 x1 x2 x3:R}(g:Gv x0 x1 x2 x3)(h:∀i,i<x0.length→qvt x0 x2 x3 i=true):(decide (qab x0 x2 x3=none)&&(kd (zAT x0 x2 x3 x0.length)).isSome)=true:=by
 rw[qtg h,(qwp g.nez g.nn).2 (qvU h)];rfl
theorem qAG{x0 x2 x3:R}:qf (pick (qlG x0 x2 x3) x0.length)=0↔∀i,i<x0.length→qvt x0 x2 x3 i=true:=by
 rw[q8D]
 constructor
 ·intro h i hi
  have:=h i hi
  unfold qlG at this
  simpa using this
 ·intro h i hi
  unfold qlG;rw[h i hi];rfl
theorem qeS(x0:R)(x1:R)(x2:R)(x3:R)(lex0:UFit (.sl [(.int .i64),(.int .i64),(.int .i64),(.int .i64),(.int .i64),(.int .i64),.bool]) (.l x0))(lex1:UFit (.sl [(.int .i64),(.int .i64),(.int .i64),(.int .i64),(.int .i64),(.int .i64),.bool]) (.l x1))(lex2:UFit (.sl [(.int .i64),(.int .i64),(.int .i64)]) (.l x2))(lex3:UFit (.sl [(.int .i64),(.int .i64),(.int .i64)]) (.l x3)):(vw [.r x0,.r x1,.r x2,.r x3]).run=some (0,[.b true]):=by
 have h:=qeX lex0
 rw[qbe]
 obtain⟨b,f,fr⟩:=qxp x0 x1 x2 x3 h
 cases b with
 | false=>simp only[STD,f,yx]
 | true=>
  have g:=qew (fr rfl)
  have hn:=g.j.n
  have he:=g.j.e
  have A:=qdq x0 x2 h (qeX lex2)
  have B:=qdq x1 x3 (qeX lex1) (qeX lex3)
  have S:=q8N x0 x1 h
  have I:=q1V x0 x1 x2 x3 h
  have T:=q4z x0 x1 x2 x3 h
  have tk:=fun i (hi:i<x0.length)=>g.j.num hi
  have gz:=fun i (hi:i<x0.length)=>qnv (g.g i hi)
  have pa:qeR x0 x2=0:=qr7 hn g.e2 (fun i hi=>(tk i hi).t0) (fun i hi=>(gz i hi).1)
  have pb:qeR x1 x3=0:=qr7 (by omega) (by rw[g.e3,he]) (fun i hi=>(tk i (by omega)).t1) (fun i hi=>(gz i (by omega)).2.1)
  unfold qAO at A B
  rw[if_pos pa] at A
  rw[if_pos pb,he] at B
  unfold qr6 at S
  rw[if_pos (qro g.j)] at S
  unfold qA6 at I
  rw[if_pos (qye g)] at I
  obtain⟨x,y,z,ht⟩:=qBt g
  rw[ht] at T
  have w0:qk .i64 0 0=0:=by decide
  by_cases ha:qf (pick (qdI x0 x2) x0.length)=0
  ·by_cases hb:qf (pick (qdI x1 x3) x0.length)=0
   ·cases hs:qmm x0 x1 with
    | false=>
     rw[hs] at S
     simp only[STD,f,A,B,S,I,T,w0,ha,hb,yx]
    | true=>
     rw[hs] at S
     have hm:∀i,i<x0.length→0≤mgA x0 x1 i:=by
      unfold qmm at hs
      exact of_decide_eq_true hs
     have en:∀i,i<x0.length→qvt x0 x2 x3 i=true:=fun i hi=>qAV g hi (q8D.1 ha i hi) (q8D.1 hb i hi) (hm i hi)
     rw[qxR g en] at T
     simp only[STD,f,A,B,S,I,T,w0,ha,hb,qAG.2 en,yx]
   ·simp only[STD,f,A,B,S,I,T,w0,ha,hb,yx]
  ·simp only[STD,f,A,B,S,I,T,w0,ha,yx]
end Go.Eng

