/- Texts of the proof, merged: what the code computes, and plain laws. No statement stands here. -/
import Derived.Test.YtcngjnijbegcmaaGreatDoorE6
namespace Go.Eng
variable {q:Rat}
theorem qAQ (a b:Rat):Rat.divInt (a.num*b.den+b.num*a.den) ((a.den:Int)*(b.den:Int))=a+b:=by rw[Rat.add_def',<-Rat.divInt_ofNat];simp
theorem qBq (a b:Rat):Rat.divInt (a.num*b.den-b.num*a.den) ((a.den:Int)*(b.den:Int))=a-b:=by rw[Rat.sub_def',<-Rat.divInt_ofNat];simp
theorem qB5 (a b:Rat):Rat.divInt (a.num*b.num) ((a.den:Int)*(b.den:Int))=a*b:=by rw[Rat.mul_def',<-Rat.divInt_ofNat];simp
theorem qBD (a b:Rat):Rat.divInt (a.num*b.den) ((a.den:Int)*b.num)=a/b:=by rw[Rat.div_def,Rat.inv_def,<-Rat.divInt_mul_divInt,Rat.num_divInt_den]
theorem qnc (a b:Rat):(a.den:Int)*(b.den:Int)≠0:=by have:=Int.mul_pos (qBM a) (qBM b);omega
theorem qKu {m:Int}(h:m≠0):¬tI m=[48]:=by rw[qbh];exact h
def bnd(N D:Nat)(q:Rat):Prop:=qn q<=N/\qd q<=D
theorem bnd.ok {N D:Nat}(h:bnd N D q)(hN:N<=1024)(hD:D<=1024):okQ q:=⟨qLu h.1 hN,qLu h.2 hD⟩
theorem bnd.sm {N D K:Nat}(h:bnd N D q)(hN:N<=K)(hD:D<=K):sm K q:=⟨qLu h.1 hN,qLu h.2 hD⟩
theorem bnd.mono {N D N' D':Nat}(h:bnd N D q)(hN:N<=N')(hD:D<=D'):bnd N' D' q:=⟨qLu h.1 hN,qLu h.2 hD⟩
theorem bnd.mul {N D N' D':Nat}{a b:Rat}(ha:bnd N D a)(hb:bnd N' D' b):bnd (N+N') (D+D') (a*b):=⟨qLu (qH0 a b) (Nat.add_le_add ha.1 hb.1),qLu (qHb a b) (Nat.add_le_add ha.2 hb.2)⟩
theorem bnd.add {N D N' D' K:Nat}{a b:Rat}(ha:bnd N D a)(hb:bnd N' D' b)(h1:N+D'+1<=K)(h2:N'+D+1<=K):bnd K (D+D') (a+b):=⟨by have:=qJx a b;have:=ha.1;have:=ha.2;have:=hb.1;have:=hb.2;omega,by have:=qKh a b;have:=ha.2;have:=hb.2;omega⟩
theorem bnd.sub {N D N' D' K:Nat}{a b:Rat}(ha:bnd N D a)(hb:bnd N' D' b)(h1:N+D'+1<=K)(h2:N'+D+1<=K):bnd K (D+D') (a-b):=⟨by have:=qIQ a b;have:=ha.1;have:=ha.2;have:=hb.1;have:=hb.2;omega,by have:=qKd a b;have:=ha.2;have:=hb.2;omega⟩
theorem bnd.div {N D N' D':Nat}{a b:Rat}(h0:b≠0)(ha:bnd N D a)(hb:bnd N' D' b):bnd (N+D') (D+N') (a/b):=⟨by have:=qJE a h0;have:=ha.1;have:=hb.2;omega,by have:=qJy a h0;have:=ha.2;have:=hb.1;omega⟩
theorem bnd.neg {N D:Nat}{a:Rat}(h:bnd N D a):bnd N D (-a):=⟨by rw[qJ7];exact h.1,h.2⟩
theorem q0q:bnd 1 1 0:=⟨by decide,by decide⟩
theorem qxA:bnd 1 1 1:=⟨by decide,by decide⟩
theorem qrH:bnd 1 1 2:=⟨by decide,by decide⟩
theorem qFU:bnd 1 1 (-2):=⟨by decide,by decide⟩
theorem q9a {m n:Int}{N M:Nat}(hm:nl m<=N)(hn:nl n<=M)(h:N+M<=1024):okL (m*n):=by have:=q3a m n;unfold okL;omega
theorem qfZ {N D N' D':Nat}{a b:Rat}(ha:bnd N D a)(hb:bnd N' D' b)(h1:N+N'<=1024)(h2:D+D'<=1024):(vt [.s (tQ a),.s (tQ b)]).run=some (0,[.s (tQ (a*b)),.i 0]):=by
 have oa:=ha.ok (by omega) (by omega);have ob:=hb.ok (by omega) (by omega);have k1:okL (a.num*b.num):=q9a ha.1 hb.1 h1;have k2:okL ((a.den:Int)*(b.den:Int)):=q9a ha.2 hb.2 h2;have m1:=qb6 (q2o oa) (q2o ob) k1;have m2:=qb6 (kd oa) (kd ob) k2;have hL:=(qpi (qnc a b) k1 k2).1;rw[qB5] at hL;rw[qwm];have key:(vB [.s (tQ a),.s (tQ b)]).run=some (0,[.s (tQ (a*b)),.i 0]):=by
  rw[qdc];have h1:(q3s [.s (tI a.num),.s (tI (a.den:Int)),.s (tI b.num),.s (tI (b.den:Int)),.i 0]).run=some (0,[.s (tI (a.num*b.num)),.s (tI ((a.den:Int)*(b.den:Int))),.i 0]):=by rw[qs3];simp only[STD,m1,m2]
  simp only[STD,qi2 oa ob,q7j oa,q7j ob,h1,zj,qKu (qnc a b),hL]
 simp only[STD,key]
theorem qf0 {N D N' D':Nat}{a b:Rat}(ha:bnd N D a)(hb:bnd N' D' b)(h1:N+D'<=1023)(h2:N'+D<=1023)(h3:D+D'<=1024):(je [.s (tQ a),.s (tQ b)]).run=some (0,[.s (tQ (a+b)),.i 0]):=by
 have p1:=qlj a;have p2:=qlj b;have p3:=qtw a;have p4:=qtw b;have oa:okQ a:=⟨by have:=ha.1;have:=hb.2;omega,by have:=ha.2;have:=hb.2;omega⟩;have ob:okQ b:=⟨by have:=hb.1;have:=ha.2;omega,by have:=ha.2;have:=hb.2;omega⟩;have k1:okL (a.num*(b.den:Int)):=q9a ha.1 hb.2 (by omega);have k2:okL (b.num*(a.den:Int)):=q9a hb.1 ha.2 (by omega);have k3:okL ((a.den:Int)*(b.den:Int)):=q9a ha.2 hb.2 h3;have k4:okL (a.num*(b.den:Int)+b.num*(a.den:Int)):=by have q1:=qwi (a.num*(b.den:Int)) (b.num*(a.den:Int));have q2:=q3a a.num (b.den:Int);have q3:=q3a b.num (a.den:Int);have q4:nl a.num<=N:=ha.1;have q5:nl (b.den:Int)<=D':=hb.2;have q6:nl b.num<=N':=hb.1;have q7:nl (a.den:Int)<=D:=ha.2;unfold okL;omega
 have m1:=qb6 (q2o oa) (kd ob) k1;have m2:=qb6 (q2o ob) (kd oa) k2;have m3:=qb6 (kd oa) (kd ob) k3;have hL:=(qpi (qnc a b) k4 k3).1;rw[qAQ] at hL;rw[qwQ];have key:(vM [.s (tQ a),.s (tQ b)]).run=some (0,[.s (tQ (a+b)),.i 0]):=by
  rw[qdU];have h1:(q3C [.s (tI a.num),.s (tI (a.den:Int)),.s (tI b.num),.s (tI (b.den:Int)),.i 0]).run=some (0,[.s (tI (a.num*b.den+b.num*a.den)),.s (tI ((a.den:Int)*(b.den:Int))),.i 0]):=by rw[qs8];simp only[STD,m1,m2,m3,qIk k1 k2 k4]
  simp only[STD,qi2 oa ob,q7j oa,q7j ob,h1,zj,qKu (qnc a b),hL]
 simp only[STD,key]
theorem q7V {N D N' D':Nat}{a b:Rat}(ha:bnd N D a)(hb:bnd N' D' b)(h1:N+D'<=1023)(h2:N'+D<=1023)(h3:D+D'<=1024):(zJ [.s (tQ a),.s (tQ b)]).run=some (0,[.s (tQ (a-b)),.i 0]):=by
 have p1:=qlj a;have p2:=qlj b;have p3:=qtw a;have p4:=qtw b;have oa:okQ a:=⟨by have:=ha.1;have:=hb.2;omega,by have:=ha.2;have:=hb.2;omega⟩;have ob:okQ b:=⟨by have:=hb.1;have:=ha.2;omega,by have:=ha.2;have:=hb.2;omega⟩;have k1:okL (a.num*(b.den:Int)):=q9a ha.1 hb.2 (by omega);have k2:okL (b.num*(a.den:Int)):=q9a hb.1 ha.2 (by omega);have k3:okL ((a.den:Int)*(b.den:Int)):=q9a ha.2 hb.2 h3;have k4:okL (a.num*(b.den:Int)-b.num*(a.den:Int)):=by have q1:=qDi (a.num*(b.den:Int)) (b.num*(a.den:Int));have q2:=q3a a.num (b.den:Int);have q3:=q3a b.num (a.den:Int);have q4:nl a.num<=N:=ha.1;have q5:nl (b.den:Int)<=D':=hb.2;have q6:nl b.num<=N':=hb.1;have q7:nl (a.den:Int)<=D:=ha.2;unfold okL;omega
 have m1:=qb6 (q2o oa) (kd ob) k1;have m2:=qb6 (q2o ob) (kd oa) k2;have m3:=qb6 (kd oa) (kd ob) k3;have hL:=(qpi (qnc a b) k4 k3).1;rw[qBq] at hL;rw[qwC];have key:(vu [.s (tQ a),.s (tQ b)]).run=some (0,[.s (tQ (a-b)),.i 0]):=by
  rw[qdL];have h1:(q3i [.s (tI a.num),.s (tI (a.den:Int)),.s (tI b.num),.s (tI (b.den:Int)),.i 0]).run=some (0,[.s (tI (a.num*b.den-b.num*a.den)),.s (tI ((a.den:Int)*(b.den:Int))),.i 0]):=by rw[qrX];simp only[STD,m1,m2,m3,qyr k1 k2 k4]
  simp only[STD,qi2 oa ob,q7j oa,q7j ob,h1,zj,qKu (qnc a b),hL]
 simp only[STD,key]
theorem qeO (q:Rat):(tQ q=[48])=(q=0):=by have:([48]:qLp)=tQ 0:=rfl;rw[this,qBb]
theorem qqG {N D N' D':Nat}{a b:Rat}(hb0:b≠0)(ha:bnd N D a)(hb:bnd N' D' b)(h1:N+D'<=1024)(h2:D+N'<=1024):(kY [.s (tQ a),.s (tQ b)]).run=some (0,[.s (tQ (a/b)),.i 0]):=by
 have oa:okQ a:=⟨by have:=ha.1;omega,by have:=ha.2;omega⟩;have ob:okQ b:=⟨by have:=hb.1;omega,by have:=hb.2;omega⟩;have k1:okL (a.num*(b.den:Int)):=q9a ha.1 hb.2 h1;have k2:okL ((a.den:Int)*b.num):=q9a ha.2 hb.1 h2;have hbn:b.num≠0:=fun h=>hb0 (Rat.num_eq_zero.1 h);have hz:(a.den:Int)*b.num≠0:=by have:=qBM a;exact Int.mul_ne_zero (by omega) hbn
 have m1:=qb6 (q2o oa) (kd ob) k1;have m2:=qb6 (kd oa) (q2o ob) k2;have hL:=(qpi hz k1 k2).1;rw[qBD] at hL;rw[qvw];have key:(vN [.s (tQ a),.s (tQ b)]).run=some (0,[.s (tQ (a/b)),.i 0]):=by
  rw[qdC];have h1:(q3n [.s (tI a.num),.s (tI (a.den:Int)),.s (tI b.num),.s (tI (b.den:Int)),.i 0]).run=some (0,[.s (tI (a.num*b.den)),.s (tI ((a.den:Int)*b.num)),.i 0]):=by rw[qsh];simp only[STD,m1,m2]
  simp only[STD,qi2 oa ob,q7j oa,q7j ob,h1,zj,qKu hz,hL]
 simp only[STD,qi2 oa ob,zj,qeO,hb0,key]
theorem q9c {m:Int}(h:okL m):(zD [.s (tI m),.i 0]).run=some (0,[.i (sgn m),.i 0]):=by rw[qmr];simp only[STD,qoi h]
theorem qHl (m:Int):sgn m=sgq (m:Rat):=by unfold sgq;simp
theorem qye {q k:Rat}(hk:0<k):sgq (k*q)=sgq q:=by
 rcases qen q with⟨h,e⟩|⟨h,e⟩|⟨h,e⟩
 ·rw[e,qGE];have:=(Rat.mul_neg_iff_of_pos_left hk).2 h;exact this
 ·rw[e,h,Rat.mul_zero];rfl
 ·rw[e,qyD];exact qLU hk h
theorem q3U (a:Rat):(0:Rat)<(a.den:Rat):=by have:=a.den_nz;exact Rat.natCast_pos.2 (by omega)
theorem qg7 (a:Rat):(a.num:Rat)=a*(a.den:Rat):=by
 have h:a=(a.num:Rat)/(a.den:Rat):=by rw[<-Rat.mkRat_eq_div,Rat.mkRat_self]
 have h2:=Rat.div_mul_cancel (a:=(a.num:Rat)) (b:=(a.den:Rat)) (by have:=q3U a;grind);rw[<-h] at h2;exact h2.symm
def rX(a b c:Rat):Int:=a.num*b.den*c.den
def rY(a b:Rat):Int:=b.num*a.den
def rR(c:Rat):Int:=c.num*c.den
theorem qJM (a b c:Rat):sgn (rX a b c)=sgq a:=by unfold rX sgq;rw[qeL (qBM c),qeL (qBM b)]
theorem qIY (a b:Rat):sgn (rY a b)=sgq b:=by unfold rY sgq;rw[qeL (qBM a)]
theorem qJv (c:Rat):sgn (rR c)=sgq c:=by unfold rR sgq;rw[qeL (qBM c)]
theorem qJU (a b c:Rat):sgn (rX a b c*rX a b c-rY a b*rY a b*rR c)=sgq (a*a-b*b*c):=by
 rw[qHl];have h1:=q3U a;have h2:=q3U b;have h3:=q3U c;have hk:(0:Rat)<((a.den:Rat)*b.den*c.den)*((a.den:Rat)*b.den*c.den):=by have:=qLU (qLU h1 h2) h3;exact qLU this this
 rw[<-qye (q:=a*a-b*b*c) hk];congr 1;unfold rX rY rR;simp only[qM9,qLK,qg7,Rat.intCast_natCast];grind
theorem qDl (a b c:Rat):qeX a b c=if 0<=sgn (rX a b c)*(sgn (rY a b)*sgn (rR c)) then (if sgn (rX a b c)=0 then sgn (rY a b)*sgn (rR c) else sgn (rX a b c)) else sgn (rX a b c)*sgn (rX a b c*rX a b c-rY a b*rY a b*rR c):=by unfold qeX;rw[qJM,qIY,qJv,qJU]
theorem qHI {x y r:Int}(hx:okL x)(hy:okL y)(hr:okL r)(hxx:okL (x*x))(hyy:okL (y*y))(hyr:okL (y*y*r))(hd:okL (x*x-y*y*r)) :(ut [.s (tI x),.s (tI y),.s (tI r),.i 0]).run=some (0,[.i (if 0<=sgn x*(sgn y*sgn r) then (if sgn x=0 then sgn y*sgn r else sgn x) else sgn x*sgn (x*x-y*y*r)),.i 0]):=by
 rw[qmN];have bx:=qqO x;have bY:=qqO y;have br:=qqO r;have bd:=qqO (x*x-y*y*r);have m1:=qb6 hx hx hxx;have m2:=qxe [y,y,r] ⟨qbR,hy,by rw[qM3];exact hy,hy,by rw[qM3];exact hyy,hr,by rw[qM3];exact hyr⟩ (by simp);simp only[prd,qM3] at m2;have m2':(qg [.r [[.s (tI y)],[.s (tI y)],[.s (tI r)]],.i 0]).run=some (0,[.s (tI (y*y*r)),.i 0]):=m2;by_cases hc:0<=sgn x*(sgn y*sgn r)
 ·by_cases h0:sgn x=0
  ·have w0:vd .i64 0 (sgn y*sgn r)=0:=by rw[q35 (by rw[Int.zero_mul];omega),Int.zero_mul]
   simp only[STD,q9c hx,q9c hy,q9c hr,qo5 bY br,h0,w0,Int.zero_mul,qLG,eq_self]
  ·simp only[STD,q9c hx,q9c hy,q9c hr,qo5 bY br,qo5 bx (qJ1 bY br),hc,h0]
 ·simp only[STD,q9c hx,q9c hy,q9c hr,qo5 bY br,qo5 bx (qJ1 bY br),hc,m1,m2',qyr hxx hyr hd,q9c hd,qo5 bx bd]
theorem qz7 (m:Int):okL (0*m):=by rw[Int.zero_mul];exact q9M
theorem qIq {c:Rat}(h:0<=c):¬(tQ c).getD 0 0=45:=by
 have hn:¬c.num<0:=by have:=Rat.num_nonneg.2 h;omega
 have e:(tQ c).getD 0 0=(tI c.num).getD 0 0:=by
  by_cases hd:c.den=1
  ·rw[qbw hd]
  ·rw[q6b hd];obtain⟨x,t,ex⟩:∃x t,tI c.num=x::t:=List.exists_cons_of_ne_nil (qMQ.1 (qqt _));rw[ex];simp
 rw[e,qED];exact hn
theorem qK0 {c:Rat}(h:c<0):(tQ c).getD 0 0=45:=by
 have h1:¬0<=c:=by grind
 have hn:c.num<0:=by have h2:¬0<=c.num:=fun h=>h1 (Rat.num_nonneg.1 h);omega
 have e:(tQ c).getD 0 0=(tI c.num).getD 0 0:=by
  by_cases hd:c.den=1
  ·rw[qbw hd]
  ·rw[q6b hd];obtain⟨x,t,ex⟩:∃x t,tI c.num=x::t:=List.exists_cons_of_ne_nil (qMQ.1 (qqt _));rw[ex];simp
 rw[e,qED];exact hn
theorem ql7 (s:qLp):(sat s 0=45)=(s.getD 0 0=45):=by unfold sat;simp only[Int.toNat_zero,eq_iff_iff];exact⟨fun h=>qN6.1 (by show (s.getD 0 0).toNat=45;omega),fun h=>by rw[h];rfl⟩
structure RootOk (a b c:Rat):Prop where
 oa:okQ a
 ob:okQ b
 oc:okQ c
 x1:okL (a.num*b.den)
 x:okL (rX a b c)
 y:okL (rY a b)
 r:okL (rR c)
 xx:okL (rX a b c*rX a b c)
 yy:okL (rY a b*rY a b)
 yr:okL (rY a b*rY a b*rR c)
 d:okL (rX a b c*rX a b c-rY a b*rY a b*rR c)
theorem qAk {a b c:Rat}(h:RootOk a b c)(hc:0<=c):(q22 [.s (tQ a),.s (tQ b),.s (tQ c)]).run=some (0,[.i (qeX a b c),.i 0]):=by
 rw[qnh];have key:(q0C [.s (tQ a),.s (tQ b),.s (tQ c),.s [48],.s [48]]).run=some (0,[.i (qeX a b c),.i 0]):=by
  rw[qld];have o0:okQ 0:=q0q.ok (by omega) (by omega);have hz:=q1F o0;rw[show tQ 0=[48] from rfl] at hz;have hch:=qlW (l:=[tQ a,tQ b,tQ c,[48],[48]]) (by simp) (fun s hs=>by
   simp only[qLx,qNt,or_false] at hs;rcases hs with rfl|rfl|rfl|rfl|rfl
   ·exact q1F h.oa
   ·exact q1F h.ob
   ·exact q1F h.oc
   ·exact hz
   ·exact hz)
  have hch':(qE [.r [[.s (tQ a)],[.s (tQ b)],[.s (tQ c)],[.s [48]],[.s [48]]]]).run=some (0,[.i 0]):=hch;have c0:=q7j o0;rw[show tQ 0=[48] from rfl] at c0;replace c0:(qL [.s [48]]).run=some (0,[.s [48],.s [49],.b false]):=c0;have l1:(0:Int)<qw (tQ c):=by have h1:=qr5 c;have h2:=qlj c;unfold qw;omega
  have l2:(0:Int)<qw [48]:=by decide
  have n1:¬sat (tQ c) 0=45:=by rw[ql7];exact qIq hc
  have n2:¬sat [48] 0=45:=by decide
  have mx:=qxe [a.num,b.den,c.den,1,1] ⟨qbR,q2o h.oa,by rw[qM3];exact q2o h.oa,kd h.ob,by rw[qM3];exact h.x1,kd h.oc,by rw[qM3];exact h.x,qbR,by rw[qM3,Int.mul_one];exact h.x,qbR,by rw[qM3,Int.mul_one,Int.mul_one];exact h.x⟩ (by simp);have my:=qxe [b.num,a.den,1,1] ⟨qbR,q2o h.ob,by rw[qM3];exact q2o h.ob,kd h.oa,by rw[qM3];exact h.y,qbR,by rw[qM3,Int.mul_one];exact h.y,qbR,by rw[qM3,Int.mul_one,Int.mul_one];exact h.y⟩ (by simp);have mr:=qb6 (q2o h.oc) (kd h.oc) h.r;have mz:=qxe [0,a.den,b.den,c.den] ⟨qbR,q9M,by rw[qMH];exact q9M,kd h.oa,by simp only[qMH];exact qz7 _,kd h.ob,by simp only[qMH,Int.zero_mul];exact q9M,kd h.oc,by simp only[qMH,Int.zero_mul];exact q9M⟩ (by simp);have mt:=qb6 (m:=0) (n:=1) q9M qbR (qz7 _);simp only[prd,qM3,Int.mul_one,Int.zero_mul] at mx my mz mt;have mx':(qg [.r [[.s (tI a.num)],[.s (tI (b.den:Int))],[.s (tI (c.den:Int))],[.s [49]],[.s [49]]],.i 0]).run=some (0,[.s (tI (rX a b c)),.i 0]):=mx;have my':(qg [.r [[.s (tI b.num)],[.s (tI (a.den:Int))],[.s [49]],[.s [49]]],.i 0]).run=some (0,[.s (tI (rY a b)),.i 0]):=my;have mr':(qg [.r [[.s (tI c.num)],[.s (tI (c.den:Int))]],.i 0]).run=some (0,[.s (tI (rR c)),.i 0]):=mr;have mz':(qg [.r [[.s [48]],[.s (tI (a.den:Int))],[.s (tI (b.den:Int))],[.s (tI (c.den:Int))]],.i 0]).run=some (0,[.s (tI 0),.i 0]):=mz;have mt':(qg [.r [[.s [48]],[.s [49]]],.i 0]).run=some (0,[.s (tI 0),.i 0]):=mt;have hR:=qHI h.x h.y h.r h.xx h.yy h.yr h.d;rw[<-qDl] at hR;have w1:vd .i64 (sgn 0) (sgn 0)=0:=by decide
  have w2:vd .i64 (qeX a b c) 0=0:=by rw[q35 (by rw[qMH];omega),qMH]
  by_cases h0:qeX a b c=0
  ·simp only[STD,hch',l1,l2,n1,n2,qLG,and_self,q7j h.oa,q7j h.ob,q7j h.oc,c0,mx',my',mr',mz',mt',hR,q9c q9M,w1,h0,show vd .i64 0 0=0 from rfl]
  ·simp only[STD,hch',l1,l2,n1,n2,qLG,and_self,q7j h.oa,q7j h.ob,q7j h.oc,c0,mx',my',mr',mz',mt',hR,q9c q9M,w1,w2,h0]
 simp only[STD,key]
theorem RootOk.of {N D N' D' R E:Nat}{a b c:Rat}(ha:bnd N D a)(hb:bnd N' D' b)(hc:bnd R E c)(h1:2*(N+D'+E)<=1023)(h2:2*(N'+D)+R+E<=1023):RootOk a b c:=by have q1:nl a.num<=N:=ha.1;have q2:nl (a.den:Int)<=D:=ha.2;have q3:nl b.num<=N':=hb.1;have q4:nl (b.den:Int)<=D':=hb.2;have q5:nl c.num<=R:=hc.1;have q6:nl (c.den:Int)<=E:=hc.2;have x1:=q3a a.num b.den;have x2:=q3a (a.num*b.den) c.den;have y1:=q3a b.num a.den;have r1:=q3a c.num c.den;have xx:=q3a (rX a b c) (rX a b c);have yy:=q3a (rY a b) (rY a b);have yr:=q3a (rY a b*rY a b) (rR c);have dd:=qDi (rX a b c*rX a b c) (rY a b*rY a b*rR c);have e1:nl (rX a b c)=nl (a.num*b.den*c.den):=rfl;have e2:nl (rY a b)=nl (b.num*a.den):=rfl;have e3:nl (rR c)=nl (c.num*c.den):=rfl;have p1:=qrg a.num;have p2:=qrg b.num;have p3:=qrg c.num;have p4:=qrg (a.den:Int);have p5:=qrg (b.den:Int);have p6:=qrg (c.den:Int);exact { oa:=⟨by show nl a.num<=1024;omega,by show nl (a.den:Int)<=1024;omega⟩,ob:=⟨by show nl b.num<=1024;omega,by show nl (b.den:Int)<=1024;omega⟩,oc:=⟨by show nl c.num<=1024;omega,by show nl (c.den:Int)<=1024;omega⟩,x1:=by unfold okL;omega,x:=by unfold okL;omega,y:=by unfold okL;omega,r:=by unfold okL;omega,xx:=by unfold okL;omega,yy:=by unfold okL;omega,yr:=by unfold okL;omega,d:=by unfold okL;omega }
end Go.Eng

namespace Go.Eng
variable {m:Int}
theorem q3w (hm:-999999999999999<=m/\m<=999999999999999):(jY [.i m]).run=some (0,[.s (tQ (m:Rat))]):=by rw[qsq,qtT];simp only[STD,qek m (by omega)]
theorem qlP (hm:-999999999999999<=m/\m<=999999999999999):(q3T [.i m]).run=some (0,[.s (tQ (m:Rat))]):=by rw[qrQ,qtT];simp only[STD,kj m (by omega) (by omega)]
def co(x:Int):Prop:=-100000<=x/\x<=100000
theorem qiN {x:Int}(h:co x):-999999999999999<=x/\x<=999999999999999:=by unfold co at h;omega
def qHD(l:R)(i:Nat):Prop:=co (cI l i 0)/\co (cI l i 1)/\co (cI l i 2)
def q9n(l:R):Prop:=l.length<=64/\∀i,i<l.length->qHD l i
theorem quy {k:Nat}(h:nl m<=k)(_:0<k):bnd k 1 (m:Rat):=by
 refine⟨?_,?_⟩
 ·unfold qn;rw[Rat.num_intCast];exact h
 ·unfold qd;rw[Rat.den_intCast];decide
theorem qKr {k:Nat}(h:m.natAbs<10^k)(hk:0<k):nl m<=k:=by obtain⟨j,rfl⟩:∃j,k=j+1:=⟨k-1,by omega⟩;exact q21 j _ h
theorem qvx {x:Int}(h:co x):bnd 6 1 (x:Rat):=quy (qKr (by unfold co at h;omega) (by omega)) (by omega)
end Go.Eng

namespace Go.Eng
structure RelM (Z:Mx) (N C:Nat) (M:Nat->Nat->Rat):Prop where
 dim:Dim Z N C
 ok:∀i j,i<N->j<C->q8c Z i j=tQ (M i j)
theorem RelM.congr{Z:Mx}{N C:Nat}{M M':Nat->Nat->Rat}(h:RelM Z N C M)(e:∀i j,i<N->j<C->M i j=M' i j):RelM Z N C M':=⟨h.dim,fun i j hi hj=>by rw[h.ok i j hi hj,e i j hi hj]⟩
theorem qBY{Z:Mx}{N C i c:Nat}(h:Dim Z N C)(hi:i<N)(hc:c<C)(v:Bs)(a b:Nat):q8c (qBI Z i c v) a b=if a=i/\b=c then v else q8c Z a b:=by
 unfold q8c qBI;by_cases ha:a=i
 ·subst ha;have hl:(Z.getD a []).length=C:=h.row hi;have h1:((Z.set a ((Z.getD a []).set c v)).getD a [])=(Z.getD a []).set c v:=by rw[qLr,qLL (by rw[h.n];exact hi)];rfl
  rw[h1];by_cases hb:b=c
  ·subst hb;rw[if_pos ⟨rfl,rfl⟩,qLr,qLL (by omega)];rfl
  ·rw[if_neg (fun x=>hb x.2),qLr,qLt (fun e=>hb e.symm),<-qLr]
 ·rw[if_neg (fun x=>ha x.1)];have h1:((Z.set i ((Z.getD i []).set c v)).getD a [])=Z.getD a []:=by rw[qLr,qLt (fun e=>ha e.symm),qLr]
  rw[h1]
theorem qAX{Z:Mx}{N C i j:Nat}(h:Dim Z N C)(hi:i<N)(hj:j<N)(a b:Nat):q8c (qbX Z i j) a b=q8c Z (swI j i a) b:=by
 unfold q8c qbX swI;have hn:=h.n;have g:∀(L:Mx) (x y:Nat) (r:List Bs),L.length=N->x<N->(L.set x r).getD y []=if y=x then r else L.getD y []:=fun L x y r hL hx=>by
  by_cases e:y=x
  ·subst e;rw[if_pos rfl,qLr,qLL (by omega)];rfl
  ·rw[if_neg e,qLr,qLt (fun z=>e z.symm),qLr]
 rw[g _ j a _ (by rw[qMS,hn]) hj];by_cases e1:a=j
 ·rw[if_pos e1,if_pos e1]
 ·rw[if_neg e1,if_neg e1,g _ i a _ hn hi];by_cases e2:a=i
  ·rw[if_pos e2,if_pos e2]
  ·rw[if_neg e2,if_neg e2]
theorem RelM.set{Z:Mx}{N C:Nat}{M:Nat->Nat->Rat}(h:RelM Z N C M){i c:Nat}(hi:i<N)(hc:c<C)(q:Rat):RelM (qBI Z i c (tQ q)) N C (fun a b=>if a=i/\b=c then q else M a b):=
 ⟨h.dim.set hi _,fun a b ha hb=>by
  rw[qBY h.dim hi hc];split
  ·rfl
  ·exact h.ok a b ha hb⟩
theorem RelM.swap{Z:Mx}{N C:Nat}{M:Nat->Nat->Rat}(h:RelM Z N C M){i j:Nat}(hi:i<N)(hj:j<N):RelM (qbX Z i j) N C (fun a b=>M (swI j i a) b):=⟨h.dim.swap hi hj,fun a b ha hb=>by rw[qAX h.dim hi hj];exact h.ok _ b (qvR hj hi ha) hb⟩
theorem qCq{dv:Op2}{N C p:Nat}{M:Nat->Nat->Rat}{f:Rat}(hp:p<N)(hd:∀j,j<C->dv (tQ (M p j)) (tQ f)=some (tQ (M p j/f))) :
  ∀(g m:Nat),m+g=C->∀Z,RelM Z N C (fun i j=>if i=p/\j<m then M p j/f else M i j)->∃Z',qsx dv p (tQ f) C g Z=some Z'/\RelM Z' N C (fun i j=>if i=p then M p j/f else M i j)
 | 0,m,hm,Z,hZ=>⟨Z,rfl,hZ.congr fun i j hi hj=>by
   by_cases e:i=p
   ·rw[if_pos ⟨e,by omega⟩,if_pos e]
   ·rw[if_neg (fun x=>e x.1),if_neg e]⟩
 | g+1,m,hm,Z,hZ=>by
  have h1:C-(g+1)=m:=by omega
  have h2:q8c Z p m=tQ (M p m):=by rw[hZ.ok p m hp (by omega),if_neg (by omega)]
  unfold qsx;rw[h1,h2,hd m (by omega),qLW];exact qCq hp hd g (m+1) (by omega) _ ((hZ.set hp (show m<C by omega) (M p m/f)).congr fun i j hi hj=>by
   by_cases e:i=p
   ·subst e;by_cases e2:j=m
    ·subst e2;rw[if_pos ⟨rfl,rfl⟩,if_pos ⟨rfl,by omega⟩]
    ·rw[if_neg (fun x=>e2 x.2)];by_cases e3:j<m
     ·rw[if_pos ⟨rfl,e3⟩,if_pos ⟨rfl,by omega⟩]
     ·rw[if_neg (fun x=>e3 x.2),if_neg (fun x=>e3 (by omega))]
   ·rw[if_neg (fun x=>e x.1),if_neg (fun x=>e x.1),if_neg (fun x=>e x.1)])
theorem qth{ml sb:Op2}{N C p i:Nat}{M:Nat->Nat->Rat}{t:Rat}(hp:p<N)(hi:i<N)(hip:i≠p)(h1:∀j,j<C->ml (tQ t) (tQ (M p j))=some (tQ (t*M p j)))(h2:∀j,j<C->sb (tQ (M i j)) (tQ (t*M p j))=some (tQ (M i j-t*M p j))) :
  ∀(g m:Nat),m+g=C->∀Z,RelM Z N C (fun a j=>if a=i/\j<m then M i j-t*M p j else M a j)->∃Z',qfl ml sb i p (tQ t) C g Z=some Z'/\RelM Z' N C (fun a j=>if a=i then M i j-t*M p j else M a j)
 | 0,m,hm,Z,hZ=>⟨Z,rfl,hZ.congr fun a j ha hj=>by
   by_cases e:a=i
   ·rw[if_pos ⟨e,by omega⟩,if_pos e]
   ·rw[if_neg (fun x=>e x.1),if_neg e]⟩
 | g+1,m,hm,Z,hZ=>by
  have e1:C-(g+1)=m:=by omega
  have q1:q8c Z p m=tQ (M p m):=by rw[hZ.ok p m hp (by omega),if_neg (fun x=>hip x.1.symm)]
  have q2:q8c Z i m=tQ (M i m):=by rw[hZ.ok i m hi (by omega),if_neg (by omega)]
  unfold qfl;rw[e1,q1,h1 m (by omega),qLW,q2,h2 m (by omega),qLW];exact qth hp hi hip h1 h2 g (m+1) (by omega) _ ((hZ.set hi (show m<C by omega) (M i m-t*M p m)).congr fun a j ha hj=>by
   by_cases e:a=i
   ·subst e;by_cases e2:j=m
    ·subst e2;rw[if_pos ⟨rfl,rfl⟩,if_pos ⟨rfl,by omega⟩]
    ·rw[if_neg (fun x=>e2 x.2)];by_cases e3:j<m
     ·rw[if_pos ⟨rfl,e3⟩,if_pos ⟨rfl,by omega⟩]
     ·rw[if_neg (fun x=>e3 x.2),if_neg (fun x=>e3 (by omega))]
   ·rw[if_neg (fun x=>e x.1),if_neg (fun x=>e x.1),if_neg (fun x=>e x.1)])
theorem qu2{ml sb:Op2}{N C p k:Nat}{M:Nat->Nat->Rat}(hp:p<N)(hk:k<C)(h1:∀i j,i<N->i≠p->j<C->ml (tQ (M i k)) (tQ (M p j))=some (tQ (M i k*M p j)))
  (h2:∀i j,i<N->i≠p->j<C->sb (tQ (M i j)) (tQ (M i k*M p j))=some (tQ (M i j-M i k*M p j))) :
  ∀(g m:Nat),m+g=N->∀Z,RelM Z N C (fun i j=>if i<m/\i≠p then M i j-M i k*M p j else M i j)->∃Z',qoS ml sb p k N C g Z=some Z'/\RelM Z' N C (fun i j=>if i≠p then M i j-M i k*M p j else M i j)
 | 0,m,hm,Z,hZ=>⟨Z,rfl,hZ.congr fun i j hi hj=>by
   by_cases e:i≠p
   ·rw[if_pos ⟨by omega,e⟩,if_pos e]
   ·rw[if_neg (fun x=>e x.2),if_neg e]⟩
 | g+1,m,hm,Z,hZ=>by
  have e1:N-(g+1)=m:=by omega
  have q1:q8c Z m k=tQ (M m k):=by rw[hZ.ok m k (by omega) hk,if_neg (by omega)]
  unfold qoS;rw[e1,q1];have zi:=qeO (M m k);have skip:(m=p\/M m k=0)->RelM Z N C (fun i j=>if i<m+1/\i≠p then M i j-M i k*M p j else M i j):=fun h=>hZ.congr fun i j hi hj=>by
   by_cases e:i=m
   ·subst e;rw[if_neg (by omega)];rcases h with h|h
    ·rw[if_neg (fun x=>x.2 h)]
    ·by_cases e2:i=p
     ·rw[if_neg (fun x=>x.2 e2)]
     ·rw[if_pos ⟨by omega,e2⟩,h];grind
   ·by_cases e2:i<m/\i≠p
    ·rw[if_pos e2,if_pos ⟨by omega,e2.2⟩]
    ·rw[if_neg e2,if_neg (fun x=>e2 ⟨by omega,x.2⟩)]
  by_cases hc:m=p\/M m k=0
  ·rw[if_pos (by rw[zi];exact hc)];exact qu2 hp hk h1 h2 g (m+1) (by omega) Z (skip hc)
  ·rw[if_neg (by rw[zi];exact hc)];rw[not_or] at hc;obtain⟨Z1,r1,r2⟩:=qth (ml:=ml) (sb:=sb) (M:=fun i j=>if i<m/\i≠p then M i j-M i k*M p j else M i j) (t:=M m k) hp (show m<N by omega) hc.1
    (fun j hj=>by rw[if_neg (by omega)];exact h1 m j (by omega) hc.1 hj) (fun j hj=>by rw[if_neg (by omega),if_neg (by omega)];exact h2 m j (by omega) hc.1 hj) C 0 (by omega) Z (hZ.congr fun i j hi hj=>by rw[if_neg (show ¬(i=m/\j<0) by omega)])
   rw[r1,qLW];exact qu2 hp hk h1 h2 g (m+1) (by omega) Z1 (r2.congr fun i j hi hj=>by
    by_cases e:i=m
    ·subst e;rw[if_pos rfl,if_neg (by omega),if_neg (by omega),if_pos ⟨by omega,hc.1⟩]
    ·rw[if_neg e];by_cases e2:i<m/\i≠p
     ·rw[if_pos e2,if_pos ⟨by omega,e2.2⟩]
     ·rw[if_neg e2,if_neg (fun x=>e2 ⟨by omega,x.2⟩)])
def pvI(M:Nat->Nat->Rat)(k N:Nat):Nat->Nat
 | 0=>N
 | g+1=>if M (N-(g+1)) k=0 then pvI M k N g else N-(g+1)
theorem qm9(M:Nat->Nat->Rat)(k N:Nat):∀g,g<=N->(pvI M k N g=N/\∀i,N-g<=i->i<N->M i k=0)\/(N-g<=pvI M k N g/\pvI M k N g<N/\M (pvI M k N g) k≠0)
 | 0,_=>.inl ⟨rfl,fun i h1 h2=>by omega⟩
 | g+1,h=>by
  unfold pvI;by_cases e:M (N-(g+1)) k=0
  ·rw[if_pos e];rcases qm9 M k N g (by omega) with⟨h1,h2⟩|⟨h1,h2,h3⟩
   ·refine .inl ⟨h1,fun i a b=>?_⟩;by_cases q:i=N-(g+1)
    ·rw[q];exact e
    ·exact h2 i (by omega) b
   ·exact .inr ⟨by omega,h2,h3⟩
  ·rw[if_neg e];exact .inr ⟨qLs _,by omega,e⟩
theorem qz9{Z:Mx}{N C k:Nat}{M:Nat->Nat->Rat}(h:RelM Z N C M)(hk:k<C):∀g,g<=N->qf5 Z k N g=pvI M k N g
 | 0,_=>rfl
 | g+1,hg=>by
  unfold qf5 pvI;rw[h.ok (N-(g+1)) k (by omega) hk,qz9 h hk g (by omega)];have zi:=qeO (M (N-(g+1)) k);by_cases e:M (N-(g+1)) k=0
  ·rw[if_pos e,if_pos (by rw[zi];exact e)]
  ·rw[if_neg e,if_neg (by rw[zi];exact e)]
def pvQ(N c:Nat)(M:Nat->Nat->Rat):Option Nat:=if pvI M c N (N-c)=N then none else some (pvI M c N (N-c))
theorem qDu(N:Nat):Pivots N (pvQ N) where
 some:=fun c M i hc h=>by
  unfold pvQ at h;rcases qm9 M c N (N-c) (by omega) with⟨h1,_⟩|⟨h1,h2,h3⟩
  ·rw[if_pos h1] at h;cases h
  ·rw[if_neg (by omega)] at h;cases h;exact⟨by omega,h2,h3⟩
 none:=fun c M i h hci hi=>by
  unfold pvQ at h;rcases qm9 M c N (N-c) (by omega) with⟨_,h2⟩|⟨h1,h2,h3⟩
  ·exact h2 i (by omega) hi
  ·rw[if_neg (by omega)] at h;cases h
def gsP(k p i0:Nat)(M:Nat->Nat->Rat):Nat->Nat->Rat:=fun i j=>if i=p then M i0 j/M i0 k else M (swI p i0 i) j-M (swI p i0 i) k*(M i0 j/M i0 k)
theorem qJN(c i0:Nat)(M:Nat->Nat->Rat):gsP c c i0 M=gs c i0 M:=by funext i j;unfold gsP gs;simp only[Rat.div_def]
def BM(N C a b:Nat)(M:Nat->Nat->Rat):Prop:=∀i j,i<N->j<C->bnd a b (M i j)
structure OpsQ (ml dv sb:Op2):Prop where
 ml:∀{a b:Rat} {N D N' D':Nat},bnd N D a->bnd N' D' b->N+N'<=1024->D+D'<=1024->ml (tQ a) (tQ b)=some (tQ (a*b))
 dv:∀{a b:Rat} {N D N' D':Nat},b≠0->bnd N D a->bnd N' D' b->N+D'<=1024->D+N'<=1024->dv (tQ a) (tQ b)=some (tQ (a/b))
 sb:∀{a b:Rat} {N D N' D':Nat},bnd N D a->bnd N' D' b->N+D'<=1023->N'+D<=1023->D+D'<=1024->sb (tQ a) (tQ b)=some (tQ (a-b))
theorem qLd:OpsQ (opF vt) (opF kY) (opF zJ) where
 ml:=fun ha hb h1 h2=>by unfold opF;rw[qfZ ha hb h1 h2];rfl
 dv:=fun h0 ha hb h1 h2=>by unfold opF;rw[qqG h0 ha hb h1 h2];rfl
 sb:=fun ha hb h1 h2 h3=>by unfold opF;rw[q7V ha hb h1 h2 h3];rfl
theorem qHe{ml dv sb:Op2}(ops:OpsQ ml dv sb){N C k p i0 a b u v:Nat}{s:RS}{M:Nat->Nat->Rat}{d:Rat}(hs:RelM s.Z N C M)(hb:BM N C a b M)(hd:s.det=tQ d)(hdb:bnd u v d)(hp:s.p=p)(hpN:p<N)(hk:k<C)(hi:i0<N) (hpi:p<=i0) (h0:M i0 k≠0) (hf:qf5 s.Z k N (N-s.p)=i0) (c1:2*a+2*b<=1023) (c2:a+3*b<=1024) (c3:u+v+2+a<=1023) (c4:v+1+b<=1023) :∃s',qkd ml dv sb k N C s=some s'/\RelM s'.Z N C (gsP k p i0 M)/\BM N C (2*a+2*b+1) (a+3*b) (gsP k p i0 M)/\(∃d',s'.det=tQ d'/\bnd (u+v+2+a) (v+1+b) d')/\s'.p=p+1/\s'.lead=s.lead++[k]:=by
 subst hp;unfold qkd;rw[hf,if_neg (by omega)];have bi:∀j,j<C->bnd a b (M i0 j):=fun j hj=>hb i0 j hi hj;obtain⟨dd,e1,e2⟩:∃dd,(if i0=s.p then some s.det else sb [48] s.det)=some (tQ dd)/\bnd (u+v+2) (v+1) dd:=by
  by_cases e:i0=s.p
  ·exact⟨d,by rw[if_pos e,hd],hdb.mono (by omega) (by omega)⟩
  ·refine⟨0-d,?_,?_⟩
   ·rw[if_neg e,hd];have:([48]:Bs)=tQ 0:=by decide
    rw[this];exact ops.sb q0q hdb (by omega) (by omega) (by omega)
   ·have:=q0q.sub hdb (K:=u+v+2) (by omega) (by omega);exact this.mono (qLs _) (by omega)
 rw[e1,qLW];have h1:=hs.swap hi hpN;have hpv:q8c (qbX s.Z i0 s.p) s.p k=tQ (M i0 k):=by
  rw[h1.ok s.p k hpN hk];have:swI s.p i0 s.p=i0:=by unfold swI;rw[if_pos rfl]
  rw[this]
 rw[hpv,ops.ml e2 (bi k hk) (by omega) (by omega),qLW];have eq_p:∀j,M (swI s.p i0 s.p) j=M i0 j:=fun j=>by
  have:swI s.p i0 s.p=i0:=by unfold swI;rw[if_pos rfl]
  rw[this]
 obtain⟨Z1,q1,q2⟩:=qCq (dv:=dv) (M:=fun i j=>M (swI s.p i0 i) j) (f:=M i0 k) hpN (fun j hj=>by rw[eq_p];exact ops.dv h0 (bi j hj) (bi k hk) (by omega) (by omega)) C 0 (by omega) _ (h1.congr fun i j _ _=>by rw[if_neg (by omega)]);rw[q1,qLW];have yb:∀j,j<C->bnd (a+b) (b+a) (M i0 j/M i0 k):=fun j hj=>(bi j hj).div h0 (bi k hk);have sb':∀i j,i<N->j<C->bnd a b (M (swI s.p i0 i) j):=fun i j hi' hj=>hb _ j (qvR hpN hi hi') hj;obtain⟨Z2,q3,q4⟩:=qu2 (ml:=ml) (sb:=sb) (p:=s.p) (k:=k) (M:=fun i j=>if i=s.p then M i0 j/M i0 k else M (swI s.p i0 i) j) hpN hk
  (fun i j hi' e hj=>by rw[if_pos rfl,if_neg e];exact ops.ml (sb' i k hi' hk) (yb j hj) (by omega) (by omega))
  (fun i j hi' e hj=>by rw[if_pos rfl,if_neg e,if_neg e];exact ops.sb (sb' i j hi' hj) ((sb' i k hi' hk).mul (yb j hj)) (by omega) (by omega) (by omega)) N 0 (by omega) Z1
  (q2.congr fun i j _ _=>by
   rw[if_neg (show ¬(i<0/\i≠s.p) by omega)];by_cases e:i=s.p
   ·rw[if_pos e,if_pos e,eq_p]
   ·rw[if_neg e,if_neg e])
 rw[q3,qLW];refine⟨_,rfl,q4.congr fun i j _ _=>?_,fun i j hi' hj=>?_,⟨_,rfl,e2.mul (bi k hk)⟩,rfl,rfl⟩
 ·unfold gsP;by_cases e:i=s.p
  ·rw[if_pos e,if_neg (fun z=>z e),if_pos e]
  ·rw[if_neg e,if_pos e,if_neg e,if_neg e,if_pos rfl]
 ·unfold gsP;by_cases e:i=s.p
  ·rw[if_pos e];exact(yb j hj).mono (by omega) (by omega)
  ·rw[if_neg e];have:=(sb' i j hi' hj).sub ((sb' i k hi' hk).mul (yb j hj)) (K:=2*a+2*b+1) (by omega) (by omega);exact this.mono (qLs _) (by omega)
def bs:Nat->Nat×Nat
 | 0=>(13,1)
 | k+1=>(2*(bs k).1+2*(bs k).2+1,(bs k).1+3*(bs k).2)
def ds:Nat->Nat×Nat
 | 0=>(1,1)
 | k+1=>((ds k).1+(ds k).2+2+(bs k).1,(ds k).2+1+(bs k).2)
theorem qKw(k:Nat)(h:k<3):2*(bs k).1+2*(bs k).2<=1023/\(bs k).1+3*(bs k).2<=1024/\(ds k).1+(ds k).2+2+(bs k).1<=1023/\(ds k).2+1+(bs k).2<=1023:=by
 match k,h with
 | 0,_=>decide
 | 1,_=>decide
 | 2,_=>decide
theorem BM.mono{N C a b a' b':Nat}{M:Nat->Nat->Rat}(h:BM N C a b M)(h1:a<=a')(h2:b<=b'):BM N C a' b' M:=fun i j hi hj=>(h i j hi hj).mono h1 h2
theorem qIl(k:Nat):(bs k).1<=(bs (k+1)).1/\(bs k).2<=(bs (k+1)).2/\(ds k).1<=(ds (k+1)).1/\(ds k).2<=(ds (k+1)).2:=by simp only[bs,ds];omega
theorem qD0{ml dv sb:Op2}(ops:OpsQ ml dv sb){N C:Nat}(hN:N<=3)(hC:N<=C):∀(g k:Nat),k+g=N->∀(s:RS) (M:Nat->Nat->Rat) (d:Rat),RelM s.Z N C M->BM N C (bs k).1 (bs k).2 M->s.det=tQ d->bnd (ds k).1 (ds k).2 d->s.p<=k->s.lead.length=s.p ->
  ∃fin M',qvq ml dv sb N N C g s=some fin/\RelM fin.Z N C M'/\BM N C (bs N).1 (bs N).2 M'/\fin.lead.length<=s.p+g/\(s.p=k->(qdX N (pvQ N) g k M=some M'/\fin.lead.length=N)\/(qdX N (pvQ N) g k M=none/\fin.lead.length<N))
 | 0,k,hk,s,M,d,hs,hb,hd,hdb,hp,hl=>by
  have:k=N:=by omega
  subst this;exact⟨s,M,rfl,hs,hb,by omega,fun h=>.inl ⟨rfl,by omega⟩⟩
 | g+1,k,hk,s,M,d,hs,hb,hd,hdb,hp,hl=>by
  have hkN:N-(g+1)=k:=by omega
  obtain⟨m1,m2,m3,m4⟩:=qIl k;obtain⟨o1,o2,o3,o4⟩:=qKw k (by omega);unfold qvq;rw[hkN];have hf:=qz9 hs (show k<C by omega) (N-s.p) (by omega);rcases qm9 M k N (N-s.p) (by omega) with⟨h1,h2⟩|⟨h1,h2,h3⟩
  ·have e:qkd ml dv sb k N C s=some s:=by unfold qkd;rw[if_pos (by rw[hf];exact h1)]
   rw[e,qLW];obtain⟨fin,M',r1,r2,r3,r4,r5⟩:=qD0 ops hN hC g (k+1) (by omega) s M d hs (hb.mono m1 m2) hd (hdb.mono m3 m4) (by omega) hl;refine⟨fin,M',r1,r2,r3,by omega,fun hpk=>.inr ⟨?_,by omega⟩⟩;subst hpk;unfold qdX pvQ;rw[if_pos h1]
  ·obtain⟨s',q1,q2,q3,⟨d',q4,q5⟩,q6,q7⟩:=qHe ops hs hb hd hdb rfl (show s.p<N by omega) (show k<C by omega) h2 (by omega) h3 hf o1 o2 o3 o4;rw[q1,qLW];obtain⟨fin,M',r1,r2,r3,r4,r5⟩:=qD0 ops hN hC g (k+1) (by omega) s' _ d' q2 q3 q4 q5 (by omega) (by rw[q7,q6,qLR,hl];rfl);refine⟨fin,M',r1,r2,r3,by omega,fun hpk=>?_⟩;have hg:qdX N (pvQ N) (g+1) k M=qdX N (pvQ N) g (k+1) (gsP k s.p (pvI M k N (N-s.p)) M):=by subst hpk;rw[qJN];show (match pvQ N s.p M with|none=>none|some i0=>qdX N (pvQ N) g (s.p+1) (gs s.p i0 M))=_;unfold pvQ;rw[if_neg (by omega)]
   rw[hg];exact r5 (by omega)
variable {n:Nat}
def uV(F:Nat->Nat->Bs)(n:Nat):R:=(mkL F n n).map fun x=>[.s x]
theorem qiz (F:Nat->Nat->Bs)(n:Nat):(uV F n).length=n*n:=by unfold uV;rw[qLF,qhc]
theorem qnu (F:Nat->Nat->Bs){n i k:Nat}(hi:i<n)(hk:k<n):cS (uV F n) ((i*n+k:Nat):Int) 0=F i k:=by
 have e:((mkL F n n).map fun x=>[U.s x]).getD (i*n+k) []=[U.s (F i k)]:=by rw[qLr,qLC,qxX F n n i k hi hk];rfl
 unfold cS wD uV;rw[qLD,e];rfl
theorem qwd {F G:Nat->Nat->Bs}(h:∀i k,i<n->k<n->F i k=G i k):uV F n=uV G n:=by
 unfold uV;congr 1;have:∀m,m<=n->mkL F n m=mkL G n m:=by
  intro m;induction m with
  | zero=>intro _;rfl
  | succ m ih=>
   intro hm;rw[mkL,mkL,ih (by omega)];congr 1;exact qMV fun k hk=>h m k (by omega) (qMK.1 hk)
 exact this n (qLs _)
theorem qw9 {l:R}(hl:l.length=n)(hn:n<1000000)(h:∀i,i<n->(qP [.s (cS l (i:Int) 0)]).run=some (0,[.i 0])):(jo [.r l]).run=some (0,[.i 0]):=by
 rw[qnn];have key:=zu (S:=yt) (fun i=>[.r l,.i (n:Int),.i (i:Int)]) (0,[]) n (by omega) (fun i hi=>by
  rw[qbc];have e:qm l=(n:Int):=by unfold qm;rw[hl]
  simp only[STD,e,h i hi,kD hi (show n<9223372036854775808 by omega),show (i:Int)<n by omega,show (0:Int)<=i by omega,and_self]) (by
  rw[qbc];simp only[STD,show ¬(n:Int)<n by omega])
 have e:qm l=(n:Int):=by unfold qm;rw[hl]
 have key':(qh yt [.r l,.i (qm l),.i 0]).run=some (0,[]):=by rw[e];exact key
 simp only[STD,key',qT key']
theorem qGw (h:n<=16):(j8 [.i (n:Int)]).run=some (0,[.b true]):=by
 rw[qsj];have h1:(0:Int)<=n:=by omega
 have h2:(n:Int)<=16:=by omega
 have h3:ile (n:Int) 16=true:=by rw[qyB];exact h2
 simp only[STD,h1,h3]
theorem qjo {F:Nat->Nat->Bs}(hn:n<=16)(h:∀i k,i<n->k<n->(qP [.s (F i k)]).run=some (0,[.i 0])):(jK [.i n,.i n,.r (uV F n)]).run=some (0,[.i 0]):=by
 rw[qq0];have hnn:n*n<=16*16:=qMk hn hn;have e1:qm (uV F n)=((n*n:Nat):Int):=by unfold qm;rw[qiz]
 have e2:vd .i64 (n:Int) (n:Int)=((n*n:Nat):Int):=by rw[q35 (by rw[<-qMj];omega)];simp
 have key:=qw9 (l:=uV F n) (qiz F n) (by omega) (fun j hj=>by
  have hn0:0<n:=by
   rcases qMz n with h0|h0
   ·subst h0;simp at hj
   ·exact h0
  have h1:j/n<n:=Nat.div_lt_of_lt_mul hj;have h2:j%n<n:=qMP _ hn0;have h3:j=j/n*n+j%n:=by rw[Nat.mul_comm];exact(qNx j n).symm
  rw[h3,qnu F h1 h2];exact h _ _ h1 h2)
 simp only[STD,qGw hn,e1,e2,key]
def aug(n:Nat)(G:Nat->Nat->Rat):Nat->Nat->Rat:=fun i j=>if j<n then G i j else if j=n+i then 1 else 0
theorem qGa (i k:Nat):qk8 i k=tQ (if i=k then 1 else 0):=by
 unfold qk8;by_cases h:i=k
 ·rw[if_pos h,if_pos h];decide
 ·rw[if_neg h,if_neg h];decide
theorem qG6 {F:Nat->Nat->Bs}{G:Nat->Nat->Rat}(h:∀i k,i<n->k<n->F i k=tQ (G i k)):RelM ((List.range n).map (row0 F qk8 n)) n (2*n) (aug n G):=by
 refine⟨⟨by simp,fun r hr=>?_⟩,fun i j hi hj=>?_⟩
 ·obtain⟨i,_,rfl⟩:=qMi.1 hr;unfold row0;rw[qLR,qLF,qLF,qMa];omega
 ·have e:((List.range n).map (row0 F qk8 n)).getD i []=row0 F qk8 n i:=by rw[qLr,qLC,qMp hi];rfl
  unfold q8c aug;rw[e];unfold row0;by_cases hjn:j<n
  ·rw[if_pos hjn,qLr,qLB (by simpa using hjn),qLC,qMp hjn];exact h i j hi hjn
  ·rw[if_neg hjn,qLr,qLP (by simp;omega),qLF,qMa,qLC,qMp (by omega)];simp only[qM6,qMv,qGa];congr 1;by_cases e2:j=n+i
   ·rw[if_pos e2,if_pos (by omega)]
   ·rw[if_neg e2,if_neg (by omega)]
theorem qIE {G:Nat->Nat->Rat}(h:∀i k,i<n->k<n->bnd 13 1 (G i k)):BM n (2*n) 13 1 (aug n G):=fun i j hi _=>by
 unfold aug;by_cases h1:j<n
 ·rw[if_pos h1];exact h i j hi h1
 ·rw[if_neg h1];split
  ·exact qxA.mono (by omega) (by omega)
  ·exact q0q.mono (by omega) (by omega)
theorem qIA (ck ml dv sb:List PV->TR){l:R}{fin:RS}(hn:n<=16)(hl:l.length=n*n)(hok:qIK (ck [.i n,.i n,.r l])=true)(hf:qvq (opF ml) (opF dv) (opF sb) n n (2*n) n ⟨(List.range n).map (row0 (fun i k=>cS l ((i*n+k:Nat):Int) 0) qk8 n),[49],[],0⟩=some fin) :qIJ ck ml dv sb [.i n,.i n,.r l]=if fin.lead.length<n then .leaf (0,[.i 0,.i 0,.r [],.i 14]) else .leaf (0,[.i n,.i n,.r ((mkL (fun i k=>q8c fin.Z i (n+k)) n n).map fun x=>[.s x]),.i 0]):=by simp only[qIJ,qLD];rw[if_pos ⟨trivial,by omega,by omega,hl,hok⟩,hf]
theorem qKB (n:Nat)(hn:n<=3):(bs n).1<=337/\(bs n).2<=322:=by
 match n,hn with
 | 0,_=>decide
 | 1,_=>decide
 | 2,_=>decide
 | 3,_=>decide
theorem qKY:yJ=qIJ jK vt kY zJ:=rfl
theorem qDy (hn:n<=3){G:Nat->Nat->Rat}(hG:∀i k,i<n->k<n->bnd 13 1 (G i k)) :(∃N,qdX n (pvQ n) n 0 (aug n G)=some N/\BM n (2*n) 337 322 N/\(yJ [.i n,.i n,.r (uV (fun i k=>tQ (G i k)) n)]).run=some (0,[.i n,.i n,.r (uV (fun i k=>tQ (N i (n+k))) n),.i 0])) \/(qdX n (pvQ n) n 0 (aug n G)=none/\(yJ [.i n,.i n,.r (uV (fun i k=>tQ (G i k)) n)]).run=some (0,[.i 0,.i 0,.r [],.i 14])):=by
 obtain⟨fin,M',r1,r2,r3,r4,r5⟩:=qD0 qLd (N:=n) (C:=2*n) hn (by omega) n 0 (by omega) ⟨(List.range n).map (row0 (fun i k=>tQ (G i k)) qk8 n),[49],[],0⟩ (aug n G) 1
  (qG6 fun _ _ _ _=>rfl) (qIE hG) (show ([49]:Bs)=tQ 1 by decide) qxA (qLs _) rfl
 have hck:qIK (jK [.i n,.i n,.r (uV (fun i k=>tQ (G i k)) n)])=true:=by unfold qIK;rw[qjo (by omega) fun i k hi hk=>q1F ((hG i k hi hk).ok (by omega) (by omega))];rfl
 have hZ:(List.range n).map (row0 (fun i k=>cS (uV (fun i k=>tQ (G i k)) n) ((i*n+k:Nat):Int) 0) qk8 n)=(List.range n).map (row0 (fun i k=>tQ (G i k)) qk8 n):=by
  refine qMV fun i hi=>?_;have e:(List.range n).map (fun k=>cS (uV (fun i k=>tQ (G i k)) n) ((i*n+k:Nat):Int) 0)=(List.range n).map (fun k=>tQ (G i k)):=
   qMV fun k hk=>qnu (fun i k=>tQ (G i k)) (qMK.1 hi) (qMK.1 hk)
  show (List.range n).map (fun k=>cS (uV (fun i k=>tQ (G i k)) n) ((i*n+k:Nat):Int) 0)++_=(List.range n).map (fun k=>tQ (G i k))++_;rw[e]
 have hrun:(yJ [.i n,.i n,.r (uV (fun i k=>tQ (G i k)) n)])=if fin.lead.length<n then .leaf (0,[.i 0,.i 0,.r [],.i 14]) else .leaf (0,[.i n,.i n,.r ((mkL (fun i k=>q8c fin.Z i (n+k)) n n).map fun x=>[.s x]),.i 0]):=by have hx:=qIA jK vt kY zJ (show n<=16 by omega) (qiz _ _) hck (by rw[hZ];exact r1);rw[<-qKY] at hx;exact hx
 have hbs:=qKB n hn;rcases r5 rfl with⟨q1,q2⟩|⟨q1,q2⟩
 ·refine .inl ⟨M',q1,r3.mono hbs.1 hbs.2,?_⟩;rw[hrun,if_neg (by omega)];have e:(mkL (fun i k=>q8c fin.Z i (n+k)) n n).map (fun x=>[U.s x])=uV (fun i k=>tQ (M' i (n+k))) n:=qwd fun i k hi hk=>r2.ok i (n+k) hi (by omega);rw[e];rfl
 ·refine .inr ⟨q1,?_⟩;rw[hrun,if_pos q2];rfl
end Go.Eng

namespace Go.Eng
def txR(l:List Bs):R:=l.map fun x=>[.s x]
theorem qo3(l:List Bs):qm (txR l)=(l.length:Int):=by unfold txR qm;rw[qLF]
theorem qqr(l m:List Bs):kN (txR l) (txR m)=txR (l++m):=by unfold txR kN;rw[qM0]
theorem qpY(x:Bs):[[U.s x]]=txR [x]:=rfl
theorem qDn{l:List Bs}{i:Nat}{x:Bs}(h:l[i]?=some x):cS (txR l) (i:Int) 0=x:=by
 have e:(l.map fun x=>[U.s x]).getD i []=[U.s x]:=by rw[qLr,qLC,h];rfl
 unfold cS wD txR;rw[qLD,e];rfl
theorem quK{a b:Nat}(h:a*b<9223372036854775808):vd .i64 (a:Int) (b:Int)=((a*b:Nat):Int):=by rw[q35 (by rw[<-qMj];omega)];simp
theorem qzw{a b:Nat}(h:a+b<9223372036854775808):qC .i64 (a:Int) (b:Int)=((a+b:Nat):Int):=by rw[zb (by omega)];simp
theorem qJw{n i k:Nat}(hi:i<n)(hk:k<n):i*n+k<n*n:=by have:=qLT n (show i+1<=n by omega);rw[qLH] at this;omega
theorem qKT{n i k:Nat}{L:R}{g:Int}(hn:n<=16)(hi:i<n)(hk:k<n)(hL:L.length=n*n)(hg:cI L ((i*n+k:Nat):Int) 0=g)(hb:-999999999999999<=g/\g<=999999999999999) :(kx [.i i,.i k,.r L,.i n]).run=some (0,[.s (tQ (g:Rat)),.r L,.i n]):=by
 have h1:=qJw hi hk;have h2:n*n<=16*16:=qMk hn hn;rw[qss,quK (by omega),qzw (by omega),hg];have e:qm L=((n*n:Nat):Int):=by unfold qm;rw[hL]
 simp only[STD,q3w hb,e,show (0:Int)<=((i*n+k:Nat):Int) by omega,show ((i*n+k:Nat):Int)<((n*n:Nat):Int) by omega,and_self]
theorem qJG{n:Nat}{L:R}{g:Nat->Nat->Int}(hn:n<=16)(hL:L.length=n*n)(hg:∀i k,i<n->k<n->cI L ((i*n+k:Nat):Int) 0=g i k)(hb:∀i k,i<n->k<n->-999999999999999<=g i k/\g i k<=999999999999999) :(q6J [.i n,.i n,.r L,.i n]).run=some (0,[.i n,.i n,.r (uV (fun i k=>tQ (g i k:Rat)) n),.r L,.i n]):=by
 obtain⟨F,hF⟩:∃F:Nat->Nat->Bs,F=fun i k=>tQ (g i k:Rat):=⟨_,rfl⟩;have hnn:n*n<=16*16:=qMk hn hn;have ml:∀i,i<=n->(mkL F n i).length<=16*16:=fun i hi=>by rw[qhc];exact qLu (qLT n hi) hnn
 have inner:∀i,i<n->(qh km [.i n,.i i,.i n,.i i,.i n,.i 0,.r L,.i n,.i 0,.i 0,.i n,.i n,.r (txR (mkL F n i))]).run=some (0,[.i n,.i n,.i i,.r L,.i n,.i 0,.i 0,.i n,.i n,.r (txR (mkL F n (i+1)))]):=fun i hi=>by
  have key:=zu (S:=km) (fun k=>[.i n,.i i,.i n,.i i,.i n,.i (k:Int),.r L,.i n,.i 0,.i 0,.i n,.i n,.r (txR (mkL F n i++(List.range k).map (F i)))]) (0,[.i n,.i n,.i i,.r L,.i n,.i 0,.i 0,.i n,.i n,.r (txR (mkL F n (i+1)))]) n (by omega) (fun k hk=>by
   rw[qeb];have hlen:(mkL F n i++(List.range k).map (F i)).length<=1000:=by have:=ml i (by omega);rw[qLR,qLF,qMa];omega
   have e1:txR (mkL F n i++(List.range (k+1)).map (F i))=kN (txR (mkL F n i++(List.range k).map (F i))) [[.s (F i k)]]:=by rw[qpY,qqr,qN5,qM0,<-qM4];rfl
   have e2:F i k=tQ (g i k:Rat):=by rw[hF]
   have e3:qm [[U.s (tQ (g i k:Rat))]]=1:=rfl;simp only[STD,qKT hn hi hk hL (hg i k hi hk) (hb i k hi hk),kD hk (show n<9223372036854775808 by omega),e1,e2,e3,qo3,show (k:Int)<n by omega,show (((mkL F n i++(List.range k).map (F i)).length:Int)+1<=8796093022208) by omega]) (by
   rw[qeb];simp only[STD,show ¬(n:Int)<n by omega,mkL])
  simpa using key
 have outer:=zu (S:=q1g) (fun i=>[.i n,.i n,.i (i:Int),.r L,.i n,.i 0,.i 0,.i n,.i n,.r (txR (mkL F n i))]) (0,[.r L,.i n,.i 0,.i 0,.i n,.i n,.r (txR (mkL F n n))]) n (by omega) (fun i hi=>by
  rw[qgg];simp only[STD,inner i hi,kD hi (show n<9223372036854775808 by omega),show (i:Int)<n by omega]) (by
  rw[qgg];simp only[STD,show ¬(n:Int)<n by omega])
 have key:(qh q1g [.i n,.i n,.i 0,.r L,.i n,.i 0,.i 0,.i n,.i n,.r []]).run=some (0,[.r L,.i n,.i 0,.i 0,.i n,.i n,.r (txR (mkL F n n))]):=outer;rw[qsc];simp only[STD,key];rw[hF];rfl
theorem qxW{n:Nat}{L:R}{g:Nat->Nat->Int}(hn:n<=16)(hL:L.length=n*n)(hg:∀i k,i<n->k<n->cI L ((i*n+k:Nat):Int) 0=g i k)(hb:∀i k,i<n->k<n->-999999999999999<=g i k/\g i k<=999999999999999) :(qaX [.i n,.i n,.r L]).run=some (0,[.i n,.i n,.r (uV (fun i k=>tQ (g i k:Rat)) n),.i 0]):=by
 have hnn:n*n<=16*16:=qMk hn hn;rw[qwN,quK (by omega)];have e:qm L=((n*n:Nat):Int):=by unfold qm;rw[hL]
 simp only[STD,qGw hn,qJG hn hL hg hb,e]
theorem qH5(x:Bs):(vr [.s x,.i 0,.i 0]).run=some (0,[.s x,.i 0]):=by rw[qj3];simp only[STD]
theorem qJ6{a b:Rat}{N D N' D':Nat}(ha:bnd N D a)(hb:bnd N' D' b)(h1:N+N'<=1024)(h2:D+D'<=1024):(ky [.s (tQ a),.s (tQ b),.i 0]).run=some (0,[.s (tQ (a*b)),.i 0]):=by rw[qkC];simp only[STD,qfZ ha hb h1 h2,qH5]
theorem qJZ{a b:Rat}{N D N' D':Nat}(ha:bnd N D a)(hb:bnd N' D' b)(h1:N+D'<=1023)(h2:N'+D<=1023)(h3:D+D'<=1024):(kL [.s (tQ a),.s (tQ b),.i 0]).run=some (0,[.s (tQ (a+b)),.i 0]):=by rw[qki];simp only[STD,qf0 ha hb h1 h2 h3,qH5]
theorem qHX{F:Nat->Nat->Bs}{n i k:Nat}(hn:n<=16)(hi:i<n)(hk:k<n):(q4K [.i n,.i n,.r (uV F n),.i i,.i k]).run=some (0,[.s (F i k)]):=by
 have h1:=qJw hi hk;have h2:n*n<=16*16:=qMk hn hn;rw[qpS,quK (by omega),qzw (by omega),qnu F hi hk];have e:qm (uV F n)=((n*n:Nat):Int):=by unfold qm;rw[qiz]
 simp only[STD,e,show (0:Int)<=((i*n+k:Nat):Int) by omega,show ((i*n+k:Nat):Int)<((n*n:Nat):Int) by omega,and_self]
def sbd:Nat->Nat×Nat
 | 0=>(1,1)
 | 1=>(352,324)
 | 2=>(676,647)
 | _=>(1000,970)
theorem qGN(m:Nat)(h:m<3):(sbd m).1+323<=1023/\350+(sbd m).2<=1023/\(sbd m).2+323<=1024/\(sbd m).1+323+1<=(sbd (m+1)).1/\350+(sbd m).2+1<=(sbd (m+1)).1/\(sbd m).2+323<=(sbd (m+1)).2:=by
 match m,h with
 | 0,_=>decide
 | 1,_=>decide
 | 2,_=>decide
theorem qGC{V B:Nat->Rat}{n:Nat}(hV:∀k,k<n->bnd 337 322 (V k))(hB:∀k,k<n->bnd 13 1 (B k)):∀m,m<=n->m<=3->bnd (sbd m).1 (sbd m).2 (su m fun k=>V k*B k)
 | 0,_,_=>q0q
 | m+1,h1,h2=>by
  obtain⟨o1,o2,o3,o4,o5,o6⟩:=qGN m (by omega);exact((qGC hV hB m (by omega) (by omega)).add ((hV m (by omega)).mul (hB m (by omega))) o4 o5).mono (qLs _) o6
theorem qHH{n:Nat}(hn:n<=3){V:Nat->Nat->Rat}{B:Nat->Rat}(hV:∀i k,i<n->k<n->bnd 337 322 (V i k))(hB:∀k,k<n->bnd 13 1 (B k)) :(q4n [.i n,.i n,.r (uV (fun i k=>tQ (V i k)) n),.r (txR ((List.range n).map fun k=>tQ (B k)))]).run=some (0,[.r (txR ((List.range n).map fun i=>tQ (su n fun k=>V i k*B k))),.i 0]):=by
 obtain⟨bl,hbl⟩:∃bl,bl=txR ((List.range n).map fun k=>tQ (B k)):=⟨_,rfl⟩;have lb:qm bl=(n:Int):=by rw[hbl,qo3,qLF,qMa]
 have gb:∀k,k<n->cS bl (k:Int) 0=tQ (B k):=fun k hk=>by rw[hbl];exact qDn (by rw[qLC,qMp hk];rfl)
 have inner:∀i,i<n->∀acc:List Bs,(qh uq [.r bl,.i i,.s [48],.i n,.i i,.r bl,.i n,.i 0,.i n,.i n,.r (uV (fun i k=>tQ (V i k)) n),.i 0,.r (txR acc)]).run =
   some (0,[.r bl,.s (tQ (su n fun k=>V i k*B k)),.i n,.i i,.i n,.i n,.r (uV (fun i k=>tQ (V i k)) n),.i 0,.r (txR acc)]):=fun i hi acc=>by
  have key:=zu (S:=uq) (fun k=>[.r bl,.i i,.s (tQ (su k fun k=>V i k*B k)),.i n,.i i,.r bl,.i n,.i (k:Int),.i n,.i n,.r (uV (fun i k=>tQ (V i k)) n),.i 0,.r (txR acc)])
   (0,[.r bl,.s (tQ (su n fun k=>V i k*B k)),.i n,.i i,.i n,.i n,.r (uV (fun i k=>tQ (V i k)) n),.i 0,.r (txR acc)]) n (by omega) (fun k hk=>by
    rw[qcM];obtain⟨o1,o2,o3,_,_,_⟩:=qGN k (by omega);have s1:=qGC (fun k hk=>hV i k hi hk) hB k (by omega) (by omega);simp only[STD,qHX (F:=fun i k=>tQ (V i k)) (show n<=16 by omega) hi hk,gb k hk,lb,qJ6 (hV i k hi hk) (hB k hk) (by omega) (by omega),qJZ s1 ((hV i k hi hk).mul (hB k hk)) o1 o2 o3,
     kD hk (show n<9223372036854775808 by omega),show (k:Int)<n by omega,show (0:Int)<=k by omega,and_self]
    rfl) (by
    rw[qcM];simp only[STD,show ¬(n:Int)<n by omega])
  exact key
 have outer:=zu (S:=uv) (fun i=>[.r bl,.i n,.i (i:Int),.i n,.i n,.r (uV (fun i k=>tQ (V i k)) n),.i 0,.r (txR ((List.range i).map fun i=>tQ (su n fun k=>V i k*B k)))])
  (0,[.i 0,.r (txR ((List.range n).map fun i=>tQ (su n fun k=>V i k*B k)))]) n (by omega) (fun i hi=>by
   rw[qcO];have e1:txR ((List.range (i+1)).map fun i=>tQ (su n fun k=>V i k*B k))=kN (txR ((List.range i).map fun i=>tQ (su n fun k=>V i k*B k))) [[.s (tQ (su n fun k=>V i k*B k))]]:=by rw[qpY,qqr,qN5,qM0];rfl
   have e3:qm [[U.s (tQ (su n fun k=>V i k*B k))]]=1:=rfl;simp only[STD,lb,inner i hi,kD hi (show n<9223372036854775808 by omega),show (i:Int)<n by omega,e1,e3,qo3,qLF,qMa,show (i:Int)+1<=8796093022208 by omega]) (by
   rw[qcO];simp only[STD,show ¬(n:Int)<n by omega])
 have key:(qh uv [.r bl,.i n,.i 0,.i n,.i n,.r (uV (fun i k=>tQ (V i k)) n),.i 0,.r []]).run=some (0,[.i 0,.r (txR ((List.range n).map fun i=>tQ (su n fun k=>V i k*B k)))]):=outer;have hck:=qjo (F:=fun i k=>tQ (V i k)) (show n<=16 by omega) fun i k hi hk=>q1F ((hV i k hi hk).ok (by omega) (by omega));have hnum:=qw9 (l:=bl) (n:=n) (by have:=lb;unfold qm at this;omega) (by omega) (fun i hi=>by rw[gb i hi];exact q1F ((hB i hi).ok (by omega) (by omega)));rw[<-hbl,qq6];simp only[STD,hck,lb,hnum,key]
def qDk(ox oy oz ax ay az bx by' bz:Int):Int:=(ax-ox)*(bx-ox)+(ay-oy)*(by'-oy)+(az-oz)*(bz-oz)
theorem qDa{a b:Int}(ha:co a)(hb:co b):-200000<=a-b/\a-b<=200000:=by unfold co at ha hb;omega
theorem qkS{a b c d:Int}(ha:co a)(hb:co b)(hc:co c)(hd:co d):-40000000000<=(a-b)*(c-d)/\(a-b)*(c-d)<=40000000000:=by have h1:=qDa ha hb;have h2:=qDa hc hd;have:=qBp h1.1 h1.2 h2.1 h2.2;omega
theorem qIF{ox oy oz ax ay az bx by' bz:Int}(h1:co ox)(h2:co oy)(h3:co oz)(h4:co ax)(h5:co ay)(h6:co az)(h7:co bx)(h8:co by')(h9:co bz):-120000000000<=qDk ox oy oz ax ay az bx by' bz/\qDk ox oy oz ax ay az bx by' bz<=120000000000:=by have p1:=qkS h4 h1 h7 h1;have p2:=qkS h5 h2 h8 h2;have p3:=qkS h6 h3 h9 h3;unfold qDk;omega
theorem qnd{a b:Int}(ha:co a)(hb:co b):yF .i64 a b=a-b:=vV (by have:=qDa ha hb;omega)
theorem qxN{a b c d:Int}(ha:co a)(hb:co b)(hc:co c)(hd:co d):vd .i64 (a-b) (c-d)=(a-b)*(c-d):=q35 (by have:=qkS ha hb hc hd;omega)
theorem qeV(x y z:Int):(qM [.i x,.i y,.i z]).run=some (0,[.i x,.i y,.i z]):=by rw[qgT];rfl
theorem qKx{ox oy oz ax ay az bx by' bz:Int}(h1:co ox)(h2:co oy)(h3:co oz)(h4:co ax)(h5:co ay)(h6:co az)(h7:co bx)(h8:co by')(h9:co bz) :(q1E [.i ox,.i oy,.i oz,.i ax,.i ay,.i az,.i bx,.i by',.i bz]).run=some (0,[.i (qDk ox oy oz ax ay az bx by' bz)]):=by
 have p1:=qkS h4 h1 h7 h1;have p2:=qkS h5 h2 h8 h2;have p3:=qkS h6 h3 h9 h3;have key:=zu (S:=q1b) (fun i=>[.i (if i=0 then 0 else if i=1 then (ax-ox)*(bx-ox) else if i=2 then (ax-ox)*(bx-ox)+(ay-oy)*(by'-oy) else qDk ox oy oz ax ay az bx by' bz),.i (i:Int),.i ox,.i oy,.i oz,.i ax,.i ay,.i az,.i bx,.i by',.i bz])
  (0,[.i (qDk ox oy oz ax ay az bx by' bz)]) 3 (by omega) (fun i hi=>by
   rw[qgn];rcases (show i=0\/i=1\/i=2 by omega) with rfl|rfl|rfl
   ·have e1:qC .i64 ((0:Nat):Int) 1=((1:Nat):Int):=by decide
    have e2:qC .i64 0 ((ax-ox)*(bx-ox))=(ax-ox)*(bx-ox):=by rw[zb (by omega)];omega
    simp only[STD,e1,qnd h4 h1,qnd h7 h1,qxN h4 h1 h7 h1,e2,show (((0:Nat):Int)<3)=True from eq_true (by decide),show (((0:Nat):Int)=2)=False from eq_false (by decide),show (((0:Nat):Int)=1)=False from eq_false (by decide),show (((0:Nat):Int)=0)=True from eq_true (by decide),qMe,show ((1:Nat)=0)=False from eq_false (by decide)]
   ·have e1:qC .i64 ((1:Nat):Int) 1=((2:Nat):Int):=by decide
    have e2:qC .i64 ((ax-ox)*(bx-ox)) ((ay-oy)*(by'-oy))=(ax-ox)*(bx-ox)+(ay-oy)*(by'-oy):=zb (by omega);simp only[STD,e1,qnd h5 h2,qnd h8 h2,qxN h5 h2 h8 h2,e2,show (((1:Nat):Int)<3)=True from eq_true (by decide),show (((1:Nat):Int)=2)=False from eq_false (by decide),show (((1:Nat):Int)=1)=True from eq_true (by decide),show ((1:Nat)=0)=False from eq_false (by decide),show ((1+1:Nat)=0)=False from eq_false (by decide),show ((1+1:Nat)=1)=False from eq_false (by decide)]
   ·have e1:qC .i64 ((2:Nat):Int) 1=((3:Nat):Int):=by decide
    have e2:qC .i64 ((ax-ox)*(bx-ox)+(ay-oy)*(by'-oy)) ((az-oz)*(bz-oz))=qDk ox oy oz ax ay az bx by' bz:=by rw[zb (by omega)];rfl
    simp only[STD,e1,qnd h6 h3,qnd h9 h3,qxN h6 h3 h9 h3,e2,show (((2:Nat):Int)<3)=True from eq_true (by decide),show (((2:Nat):Int)=2)=True from eq_true (by decide),show ((2:Nat)=0)=False from eq_false (by decide),show ((2:Nat)=1)=False from eq_false (by decide),show ((2+1:Nat)=0)=False from eq_false (by decide),show ((2+1:Nat)=1)=False from eq_false (by decide),show ((2+1:Nat)=2)=False from eq_false (by decide)]) (by
   rw[qgn];simp only[STD,show (((3:Nat):Int)<3)=False from eq_false (by decide),show ((3:Nat)=0)=False from eq_false (by decide),show ((3:Nat)=1)=False from eq_false (by decide),show ((3:Nat)=2)=False from eq_false (by decide)])
 have key':(qh q1b [.i 0,.i 0,.i ox,.i oy,.i oz,.i ax,.i ay,.i az,.i bx,.i by',.i bz]).run=some (0,[.i (qDk ox oy oz ax ay az bx by' bz)]):=key;rw[qrR];simp only[STD,qeV,key']
variable {l:R}
def mkI(F:Nat->Nat->Int)(c:Nat):Nat->List Int
 | 0=>[]
 | i+1=>mkI F c i++(List.range c).map (F i)
theorem qo4(F:Nat->Nat->Int)(c:Nat):∀i,(mkI F c i).length=i*c
 | 0=>by simp[mkI]
 | i+1=>by rw[mkI,qLR,qo4 F c i];simp[qLH]
theorem qE3(F:Nat->Nat->Int)(c:Nat):∀(n i k:Nat),i<n->k<c->(mkI F c n)[i*c+k]?=some (F i k)
 | 0,i,k,h,_=>by omega
 | n+1,i,k,h,hk=>by
  rw[mkI];by_cases hi:i<n
  ·have:i*c+k<n*c:=by have:=qLT c (show i+1<=n by omega);rw[qLH] at this;omega
   rw[qLB (by rw[qo4];exact this)];exact qE3 F c n i k hi hk
  ·have:i=n:=by omega
   subst this;rw[qLP (by rw[qo4];omega),qo4,show i*c+k-i*c=k by omega];simp[hk]
theorem qJL (F:Nat->Nat->Int){n i k:Nat}(hi:i<n)(hk:k<n):cI (rI (mkI F n n)) ((i*n+k:Nat):Int) 0=F i k:=by rw[qD3,qLD,qLr,qE3 F n n i k hi hk];rfl
theorem qJs (l m:List Int):kN (rI l) (rI m)=rI (l++m):=by unfold rI kN;rw[qM0]
def dI(l:R)(i k:Nat):Int:=qDk (cI l 0 0) (cI l 0 1) (cI l 0 2) (cI l (i:Int) 0) (cI l (i:Int) 1) (cI l (i:Int) 2) (cI l (k:Int) 0) (cI l (k:Int) 1) (cI l (k:Int) 2)
def gI2(l:R)(i k:Nat):Int:=2*dI l (i+1) (k+1)
theorem q9n.row (h:q9n l){i:Nat}(hi:i<l.length):co (cI l (i:Int) 0)/\co (cI l (i:Int) 1)/\co (cI l (i:Int) 2):=h.2 i hi
theorem q9n.row0 (h:q9n l)(hi:0<l.length):co (cI l 0 0)/\co (cI l 0 1)/\co (cI l 0 2):=h.2 0 hi
theorem qHY (h:q9n l){i k:Nat}(hi:i<l.length)(hk:k<l.length):-120000000000<=dI l i k/\dI l i k<=120000000000:=by obtain⟨a1,a2,a3⟩:=h.row0 (show 0<l.length by omega);obtain⟨b1,b2,b3⟩:=h.row hi;obtain⟨c1,c2,c3⟩:=h.row hk;exact qIF a1 a2 a3 b1 b2 b3 c1 c2 c3
theorem qLa (h:q9n l){i k:Nat}(hi:i<l.length)(hk:k<l.length) :(q1E [.i (cI l 0 0),.i (cI l 0 1),.i (cI l 0 2),.i (cI l (i:Int) 0),.i (cI l (i:Int) 1),.i (cI l (i:Int) 2),.i (cI l (k:Int) 0),.i (cI l (k:Int) 1),.i (cI l (k:Int) 2)]).run=some (0,[.i (dI l i k)]):=by obtain⟨a1,a2,a3⟩:=h.row0 (show 0<l.length by omega);obtain⟨b1,b2,b3⟩:=h.row hi;obtain⟨c1,c2,c3⟩:=h.row hk;exact qKx a1 a2 a3 b1 b2 b3 c1 c2 c3
theorem qAU {n i:Nat}(h:q9n l)(hl:l.length=n+1)(hi:i<n)(s1 s2 s3 s4:Bs)(rt:R) :(qh jB [.r l,.i n,.i i,.i n,.i i,.i n,.i 0,.s s1,.s s2,.s s3,.s s4,.r (rI (mkI (gI2 l) n i)),.r rt]).run = some (0,[.r l,.i n,.i i,.i n,.i i,.s s1,.s s2,.s s3,.s s4,.r (rI (mkI (gI2 l) n (i+1))),.r rt]):=by
 have hn:n<=64:=by have:=h.1;omega
 have hlen:(mkI (gI2 l) n i).length<=64*64:=by rw[qo4];exact qMk (by omega) hn
 have key:=zu (S:=jB) (fun k=>[.r l,.i n,.i i,.i n,.i i,.i n,.i (k:Int),.s s1,.s s2,.s s3,.s s4,.r (rI (mkI (gI2 l) n i++(List.range k).map (gI2 l i))),.r rt])
  (0,[.r l,.i n,.i i,.i n,.i i,.s s1,.s s2,.s s3,.s s4,.r (rI (mkI (gI2 l) n (i+1))),.r rt]) n (by omega) (fun k hk=>by
   rw[q9z];have hL:qm l=((n+1:Nat):Int):=by unfold qm;rw[hl]
   have w1:qC .i64 (i:Int) 1=((i+1:Nat):Int):=kD hi (by omega);have w2:qC .i64 (k:Int) 1=((k+1:Nat):Int):=kD hk (by omega);have bd:=qHY h (i:=i+1) (k:=k+1) (by omega) (by omega);have w3:vd .i64 2 (dI l (i+1) (k+1))=gI2 l i k:=q35 (by omega);have e1:rI (mkI (gI2 l) n i++(List.range (k+1)).map (gI2 l i))=kN (rI (mkI (gI2 l) n i++(List.range k).map (gI2 l i))) [[.i (gI2 l i k)]]:=by rw[show [[U.i (gI2 l i k)]]=rI [gI2 l i k] from rfl,qJs,qN5,qM0,<-qM4];rfl
   have e3:qm [[U.i (gI2 l i k)]]=1:=rfl;have e4:((mkI (gI2 l) n i++(List.range k).map (gI2 l i)).length:Int)+1<=17592186044416:=by rw[qLR,qLF,qMa];omega
   simp only[STD,hL,w1,w2,qLa h (i:=i+1) (k:=k+1) (by omega) (by omega),w3,e1,e3,qhy,e4,show (k:Int)<n by omega,show (0:Int)<=0 by omega,show (0:Int)<((n+1:Nat):Int) by omega,
    show (0:Int)<=((i+1:Nat):Int) by omega,show ((i+1:Nat):Int)<((n+1:Nat):Int) by omega,show (0:Int)<=((k+1:Nat):Int) by omega,show ((k+1:Nat):Int)<((n+1:Nat):Int) by omega,and_self]) (by
   rw[q9z];simp only[STD,show ¬(n:Int)<n by omega,mkI])
 simpa using key
theorem qEe {n:Nat}(h:q9n l)(hl:l.length=n+1)(s1 s2 s3 s4:Bs) :(qh ym [.r l,.i n,.i n,.i 0,.s s1,.s s2,.s s3,.s s4,.r [],.r []]).run = some (0,[.r l,.i n,.s s1,.s s2,.s s3,.s s4,.r (rI (mkI (gI2 l) n n)),.r (txR ((List.range n).map fun i=>tQ (dI l (i+1) (i+1):Rat)))]):=by
 have hn:n<=64:=by have:=h.1;omega
 have key:=zu (S:=ym) (fun i=>[.r l,.i n,.i n,.i (i:Int),.s s1,.s s2,.s s3,.s s4,.r (rI (mkI (gI2 l) n i)),.r (txR ((List.range i).map fun i=>tQ (dI l (i+1) (i+1):Rat)))])
  (0,[.r l,.i n,.s s1,.s s2,.s s3,.s s4,.r (rI (mkI (gI2 l) n n)),.r (txR ((List.range n).map fun i=>tQ (dI l (i+1) (i+1):Rat)))]) n (by omega) (fun i hi=>by
   rw[qbB];have hL:qm l=((n+1:Nat):Int):=by unfold qm;rw[hl]
   have w1:qC .i64 (i:Int) 1=((i+1:Nat):Int):=kD hi (by omega);have bd:=qHY h (i:=i+1) (k:=i+1) (by omega) (by omega);have e1:txR ((List.range (i+1)).map fun i=>tQ (dI l (i+1) (i+1):Rat))=kN (txR ((List.range i).map fun i=>tQ (dI l (i+1) (i+1):Rat))) [[.s (tQ (dI l (i+1) (i+1):Rat))]]:=by rw[qpY,qqr,qN5,qM0];rfl
   have e3:qm [[U.s (tQ (dI l (i+1) (i+1):Rat))]]=1:=rfl;simp only[STD,qAU h hl hi,hL,w1,qLa h (i:=i+1) (k:=i+1) (by omega) (by omega),q3w (m:=dI l (i+1) (i+1)) (by omega),e1,e3,qo3,qLF,qMa,show (i:Int)<n by omega,
    show (i:Int)+1<=8796093022208 by omega,show (0:Int)<=0 by omega,show (0:Int)<((n+1:Nat):Int) by omega,show (0:Int)<=((i+1:Nat):Int) by omega,show ((i+1:Nat):Int)<((n+1:Nat):Int) by omega,and_self]) (by
   rw[qbB];simp only[STD,show ¬(n:Int)<n by omega])
 exact key
def pV(l:R):Nat->V3:=fun i=>⟨(cI l (i:Int) 0:Rat),(cI l (i:Int) 1:Rat),(cI l (i:Int) 2:Rat)⟩
theorem qA9 (l:R)(i k:Nat):((gI2 l i k:Int):Rat)=qvp (pV l) i k:=by unfold gI2 dI qDk qvp qaG pV;simp only[qLK,qMl,qM9];rfl
theorem qKi (l:R)(i:Nat):((dI l (i+1) (i+1):Int):Rat)=d2 (pV l 0) (pV l (i+1)):=by unfold dI qDk d2 pV;simp only[qLK,qMl,qM9];show _=_;have:((cI l 0 0:Int):Rat)=(cI l ((0:Nat):Int) 0:Rat):=rfl;grind
end Go.Eng

namespace Go.Eng
variable {n:Nat}
theorem qxK (n:Nat)(G:Nat->Nat->Rat)(i:Nat)(x:Nat->Rat):su n (fun j=>aug n G i j*x j)=su n (fun j=>G i j*x j):=qo fun j hj=>by unfold aug;rw[if_pos hj]
theorem qBZ {G N:Nat->Nat->Rat}(h:qdX n (pvQ n) n 0 (aug n G)=some N){i j:Nat}(hi:i<n)(_:j<n):su n (fun k=>G i k*N k (n+j))=if j=i then 1 else 0:=by
 obtain⟨h1,h2⟩:=qmX (qDu n) n 0 _ N (by omega) (fun i j _ hj=>by omega) h;have:=(h2 (n+j) _).1 ((qkF h1 _ _).2 fun i _=>rfl) i hi;rw[qxK] at this;rw[this];unfold aug;show (if n+j<n then G i (n+j) else if n+j=n+i then (1:Rat) else 0)=_;rw[if_neg (by omega)];by_cases e:j=i
 ·rw[if_pos e,if_pos (by omega)]
 ·rw[if_neg e,if_neg (by omega)]
theorem qI2 {G N:Nat->Nat->Rat}(h:qdX n (pvQ n) n 0 (aug n G)=some N)(t:Nat->Rat)(ht:∀i,i<n->su n (fun j=>G i j*t j)=0):∀j,j<n->t j=0:=by
 obtain⟨h1,h2⟩:=qmX (qDu n) n 0 _ N (by omega) (fun i j _ hj=>by omega) h;have sol:=(h2 n _).1 ((qkF h1 _ (fun i=>N i n)).2 fun i _=>rfl);have s2:qo9 n n (aug n G) (fun i=>aug n G i n) (fun i=>N i n+t i):=fun i hi=>by have a:=sol i hi;have b:=ht i hi;rw[<-qxK] at b;rw[qo (g:=fun j=>aug n G i j*N j n+aug n G i j*t j) (fun j _=>by grind),q5F,b,a];grind
 intro j hj;have:=(qkF h1 _ _).1 ((h2 n _).2 s2) j hj;grind
def qJi(n:Nat)(N:Nat->Nat->Rat)(B:Nat->Rat):Nat->Rat:=fun i=>su n fun k=>N i (n+k)*B k
theorem qDh {G N:Nat->Nat->Rat}(h:qdX n (pvQ n) n 0 (aug n G)=some N)(B:Nat->Rat){i:Nat}(hi:i<n):su n (fun k=>G i k*qJi n N B k)=B i:=by
 have e:su n (fun k=>G i k*qJi n N B k)=su n (fun j=>B j*su n (fun k=>G i k*N k (n+j))):=by rw[qo (g:=fun k=>su n (fun j=>B j*(G i k*N k (n+j)))) (fun k _=>by unfold qJi;rw[<-wJ];exact qo fun j _=>by grind),qyi];exact qo fun j _=>by rw[wJ]
 rw[e,q8y (k:=i) _ hi (fun j hj hne=>by rw[qBZ h hi hj,if_neg hne];grind),qBZ h hi hi,if_pos rfl];grind
theorem qKm {l:R}{N:Nat->Nat->Rat}(h:qdX n (pvQ n) n 0 (aug n (qvp (pV l)))=some N):Bl n (pV l) (qJi n N fun k=>d2 (pV l 0) (pV l (k+1))):=⟨qnb.2 fun t ht=>qI2 h t ht,fun _ hi=>qDh h _ hi⟩
theorem qG7 {c:Nat->V3}(h:qdX n (pvQ n) n 0 (aug n (qvp c))=none):¬Ind (n+1) c:=by obtain⟨x,⟨j,hj,hne⟩,hs⟩:=qsY (qDu n) n 0 _ (by omega) (fun i j _ hj=>by omega) h;intro hi;exact hne (qnb.1 hi x (fun i hi=>by rw[<-qxK];exact hs i hi) j hj)
theorem qK9 {q:Rat}{P M:Int}(hM:M≠0)(h:q*(M:Rat)=(P:Rat)):q.num.natAbs<=P.natAbs/\q.den<=M.natAbs:=by
 have hM':(M:Rat)≠0:=by intro e;exact hM (Rat.intCast_inj.1 (e.trans (by simp)))
 have e:q=Rat.divInt P M:=by rw[Rat.divInt_eq_div,<-h];exact(Rat.mul_div_cancel hM').symm
 rw[e];constructor
 ·rw[Rat.num_divInt];refine qLu (qNr _ _) ?_;rw[qMG,qNN hM];omega
 ·rw[Rat.den_divInt,if_neg hM];exact qNi _ _
def qCR(a b c d e f g h i:Rat):Rat:=a*(e*i-f*h)-b*(d*i-f*g)+c*(d*h-e*g)
theorem qIg (a b c d e f g h i p q r s t u v w x:Rat):qCR a b c d e f g h i*qCR p q r s t u v w x = qCR (a*p+b*s+c*v) (a*q+b*t+c*w) (a*r+b*u+c*x) (d*p+e*s+f*v) (d*q+e*t+f*w) (d*r+e*u+f*x) (g*p+h*s+i*v) (g*q+h*t+i*w) (g*r+h*u+i*x):=by unfold qCR;grind
end Go.Eng

namespace Go.Eng
theorem q4d{x y:Int}{a b:Nat}(hx:x.natAbs<=a)(hy:y.natAbs<=b):(x*y).natAbs<=a*b:=by rw[qMG];exact qMk hx hy
theorem qHR{x y:Int}{a b:Nat}(hx:x.natAbs<=a)(hy:y.natAbs<=b):(x+y).natAbs<=a+b:=by omega
theorem qko{x y:Int}{a b:Nat}(hx:x.natAbs<=a)(hy:y.natAbs<=b):(x-y).natAbs<=a+b:=by omega
def qHA(a b c d e f g h i:Int):Int:=a*(e*i-f*h)-b*(d*i-f*g)+c*(d*h-e*g)
theorem qhB(a b c d e f g h i:Int):((qHA a b c d e f g h i:Int):Rat)=qCR a b c d e f g h i:=by unfold qHA qCR;simp only[qLK,qMl,qM9]
theorem qvk{A:Nat}{a b c d e f g h i:Int}(ha:a.natAbs<=A)(hb:b.natAbs<=A)(hc:c.natAbs<=A)(hd:d.natAbs<=A)(he:e.natAbs<=A)(hf:f.natAbs<=A)(hg:g.natAbs<=A)(hh:h.natAbs<=A)(hi:i.natAbs<=A) :(qHA a b c d e f g h i).natAbs<=A*(A*A+A*A)+A*(A*A+A*A)+A*(A*A+A*A):=qHR (qko (q4d ha (qko (q4d he hi) (q4d hf hh))) (q4d hb (qko (q4d hd hi) (q4d hf hg)))) (q4d hc (qko (q4d hd hh) (q4d he hg)))
def AA:Nat:=240000000000
theorem qJ4{n:Nat}(hn:n<=3){g:Nat->Nat->Int}{b:Nat->Int}{N:Nat->Nat->Rat}{t:Nat->Rat}(hg:∀i k,i<n->k<n->(g i k).natAbs<=AA)(hb:∀i,i<n->(b i).natAbs<=AA)(hinv:∀i j,i<n->j<n->su n (fun k=>(g i k:Rat)*N k j)=if j=i then 1 else 0) (ht:∀i,i<n->su n (fun k=>(g i k:Rat)*t k)=(b i:Rat)) :∃D:Int,D≠0/\D.natAbs<=10^35/\∀i,i<n->∃T:Int,t i*(D:Rat)=(T:Rat)/\T.natAbs<=10^35:=by
 match n,hn with
 | 0,_=>exact⟨1,by decide,by decide,fun i hi=>by omega⟩
 | 1,_=>
  have g0:=hg 0 0 (by omega) (by omega);have b0:=hb 0 (by omega);have i0:=hinv 0 0 (by omega) (by omega);have t0:=ht 0 (by omega);simp only[su,if_true] at i0 t0;unfold AA at g0 b0;refine⟨g 0 0,fun e=>?_,by omega,fun i hi=>⟨b 0,?_,by omega⟩⟩
  ·rw[e] at i0;have:((0:Int):Rat)=0:=rfl;rw[this] at i0;grind
  ·have:i=0:=by omega
   subst this;grind
 | 2,_=>
  have g00:=hg 0 0 (by omega) (by omega);have g01:=hg 0 1 (by omega) (by omega);have g10:=hg 1 0 (by omega) (by omega);have g11:=hg 1 1 (by omega) (by omega);have b0:=hb 0 (by omega);have b1:=hb 1 (by omega);have i00:=hinv 0 0 (by omega) (by omega);have i01:=hinv 0 1 (by omega) (by omega);have i10:=hinv 1 0 (by omega) (by omega);have i11:=hinv 1 1 (by omega) (by omega);have t0:=ht 0 (by omega);have t1:=ht 1 (by omega);simp only[su,if_true,show (1=0)=False from eq_false (by decide),show (0=1)=False from eq_false (by decide),if_false] at i00 i01 i10 i11 t0 t1;have A2:AA*AA+AA*AA<=10^35:=by decide
  refine⟨g 0 0*g 1 1-g 0 1*g 1 0,fun e=>?_,qLu (qko (q4d g00 g11) (q4d g01 g10)) A2,fun i hi=>?_⟩
  ·have e':((g 0 0:Int):Rat)*(g 1 1:Rat)-(g 0 1:Rat)*(g 1 0:Rat)=0:=by rw[<-qLK,<-qLK,<-qM9,e];rfl
   grind
  ·rcases (show i=0\/i=1 by omega) with rfl|rfl
   ·refine⟨b 0*g 1 1-g 0 1*b 1,?_,qLu (qko (q4d b0 g11) (q4d g01 b1)) A2⟩;simp only[qLK,qM9];rw[<-t0,<-t1];grind
   ·refine⟨g 0 0*b 1-b 0*g 1 0,?_,qLu (qko (q4d g00 b1) (q4d b0 g10)) A2⟩;simp only[qLK,qM9];rw[<-t0,<-t1];grind
 | 3,_=>
  have A3:AA*(AA*AA+AA*AA)+AA*(AA*AA+AA*AA)+AA*(AA*AA+AA*AA)<=10^35:=by decide
  have G:=fun i k (hi:i<3) (hk:k<3)=>hg i k hi hk;have i00:=hinv 0 0 (by omega) (by omega);have i01:=hinv 0 1 (by omega) (by omega);have i02:=hinv 0 2 (by omega) (by omega);have i10:=hinv 1 0 (by omega) (by omega);have i11:=hinv 1 1 (by omega) (by omega);have i12:=hinv 1 2 (by omega) (by omega);have i20:=hinv 2 0 (by omega) (by omega);have i21:=hinv 2 1 (by omega) (by omega);have i22:=hinv 2 2 (by omega) (by omega);have t0:=ht 0 (by omega);have t1:=ht 1 (by omega);have t2:=ht 2 (by omega);have B0:=hb 0 (by omega);have B1:=hb 1 (by omega);have B2:=hb 2 (by omega);simp only[su,if_true,Rat.zero_add,show (1=0)=False from eq_false (by decide),show (0=1)=False from eq_false (by decide),show (2=0)=False from eq_false (by decide),show (0=2)=False from eq_false (by decide),show (1=2)=False from eq_false (by decide),show (2=1)=False from eq_false (by decide),if_false] at i00 i01 i02 i10 i11 i12 i20 i21 i22 t0 t1 t2;have G00:=G 0 0 (by omega) (by omega);have G01:=G 0 1 (by omega) (by omega);have G02:=G 0 2 (by omega) (by omega);have G10:=G 1 0 (by omega) (by omega);have G11:=G 1 1 (by omega) (by omega);have G12:=G 1 2 (by omega) (by omega);have G20:=G 2 0 (by omega) (by omega);have G21:=G 2 1 (by omega) (by omega);have G22:=G 2 2 (by omega) (by omega);refine⟨qHA (g 0 0) (g 0 1) (g 0 2) (g 1 0) (g 1 1) (g 1 2) (g 2 0) (g 2 1) (g 2 2),fun e=>?_,qLu (qvk G00 G01 G02 G10 G11 G12 G20 G21 G22) A3,fun i hi=>?_⟩
  ·have e':=qhB (g 0 0) (g 0 1) (g 0 2) (g 1 0) (g 1 1) (g 1 2) (g 2 0) (g 2 1) (g 2 2);rw[e] at e';have m:=qIg (g 0 0) (g 0 1) (g 0 2) (g 1 0) (g 1 1) (g 1 2) (g 2 0) (g 2 1) (g 2 2) (N 0 0) (N 0 1) (N 0 2) (N 1 0) (N 1 1) (N 1 2) (N 2 0) (N 2 1) (N 2 2);rw[i00,i01,i02,i10,i11,i12,i20,i21,i22,<-e'] at m;have z:((0:Int):Rat)=0:=rfl;have o:qCR 1 0 0 0 1 0 0 0 1=1:=by unfold qCR;grind
   rw[z,o] at m;grind
  ·rw[qhB];rcases (show i=0\/i=1\/i=2 by omega) with rfl|rfl|rfl
   ·refine⟨qHA (b 0) (g 0 1) (g 0 2) (b 1) (g 1 1) (g 1 2) (b 2) (g 2 1) (g 2 2),?_,qLu (qvk B0 G01 G02 B1 G11 G12 B2 G21 G22) A3⟩;rw[qhB,<-t0,<-t1,<-t2];unfold qCR;grind
   ·refine⟨qHA (g 0 0) (b 0) (g 0 2) (g 1 0) (b 1) (g 1 2) (g 2 0) (b 2) (g 2 2),?_,qLu (qvk G00 B0 G02 G10 B1 G12 G20 B2 G22) A3⟩;rw[qhB,<-t0,<-t1,<-t2];unfold qCR;grind
   ·refine⟨qHA (g 0 0) (g 0 1) (b 0) (g 1 0) (g 1 1) (b 1) (g 2 0) (g 2 1) (b 2),?_,qLu (qvk G00 G01 B0 G10 G11 B1 G20 G21 B2) A3⟩;rw[qhB,<-t0,<-t1,<-t2];unfold qCR;grind
theorem qu8{A B:Nat->Rat}{m NA DA NB DB:Nat}(hA:∀k,k<m->bnd NA DA (A k))(hB:∀k,k<m->bnd NB DB (B k)) :
  ∀k,k<=m->bnd (NA+NB+1+k*(DA+DB+2)) (1+k*(DA+DB)) (su k fun k=>A k*B k)
 | 0,_=>q0q.mono (by omega) (by omega)
 | k+1,hk=>by
  have h:=qu8 hA hB k (by omega);have e1:=qLH k 1 (DA+DB+2);have e2:=qLH k 1 (DA+DB);have e3:=Nat.mul_add k (DA+DB) 2;have:=h.add ((hA k (by omega)).mul (hB k (by omega))) (K:=NA+NB+1+(k+1)*(DA+DB+2)) (by omega) (by omega);exact this.mono (qLs _) (by omega)
theorem qCr{A B:Nat->Rat}{m NA DA NB DB:Nat}(hm:m<=1000)(hA:∀k,k<m->bnd NA DA (A k))(hB:∀k,k<m->bnd NB DB (B k))(hc:NA+NB+1+m*(DA+DB+2)<=1023){a b:R}(la:qm a=m)(lb:qm b=m)(ga:∀k,k<m->cS a (k:Int) 0=tQ (A k)) (gb:∀k,k<m->cS b (k:Int) 0=tQ (B k)):(qJ [.r a,.r b]).run=some (0,[.s (tQ (su m fun k=>A k*B k)),.i 0]):=by
 have key:=zu (S:=qX) (fun k=>[.r b,.s (tQ (su k fun k=>A k*B k)),.r a,.i m,.i (k:Int)]) (0,[.s (tQ (su m fun k=>A k*B k))]) m (by omega) (fun k hk=>by
  rw[uU];have h:=qu8 hA hB k (by omega);have e0:=qLT (DA+DB+2) (show k+1<=m by omega);have e1:=qLH k 1 (DA+DB+2);have e2:=qLH k 1 (DA+DB);have e3:=Nat.mul_add k (DA+DB) 2;simp only[STD,la,lb,ga k hk,gb k hk,qfZ (hA k hk) (hB k hk) (by omega) (by omega),qf0 h ((hA k hk).mul (hB k hk)) (by omega) (by omega) (by omega),kD hk (show m<9223372036854775808 by omega),
   show (k:Int)<m by omega,show (0:Int)<=k by omega,and_self]
  rfl) (by
  rw[uU];simp only[STD,show ¬(m:Int)<m by omega])
 have key':(qh qX [.r b,.s [48],.r a,.i (qm a),.i 0]).run=some (0,[.s (tQ (su m fun k=>A k*B k))]):=by rw[la];exact key
 rw[q7i];simp only[STD,key',qT key']
theorem qLh(x y z:Bs):qm (txR [x,y,z])=((3:Nat):Int)/\cS (txR [x,y,z]) ((0:Nat):Int) 0=x/\cS (txR [x,y,z]) ((1:Nat):Int) 0=y/\cS (txR [x,y,z]) ((2:Nat):Int) 0=z:=⟨rfl,rfl,rfl,rfl⟩
theorem qJ5(a b:V3):su 3 (fun k=>(if k=0 then a.x-b.x else if k=1 then a.y-b.y else a.z-b.z)*(if k=0 then a.x-b.x else if k=1 then a.y-b.y else a.z-b.z))=d2 a b:=by simp only[su,if_true,show (1=0)=False from eq_false (by decide),show (2=0)=False from eq_false (by decide),show (2=1)=False from eq_false (by decide),if_false];unfold d2;grind
structure CB (c:V3):Prop where
 x:bnd 42 36 c.x
 y:bnd 42 36 c.y
 z:bnd 42 36 c.z
def spV(x y z:Int):V3:=⟨(x:Rat),(y:Rat),(z:Rat)⟩
theorem qo2{c:Rat}{x:Int}(h:bnd 42 36 c)(hx:co x):bnd 44 37 (c-(x:Rat)):=h.sub (qvx hx) (by omega) (by omega)
theorem qzD{c:V3}{x y z:Int}(hc:CB c)(hx:co x)(hy:co y)(hz:co z):bnd 317 223 (d2 c (spV x y z)):=by
 have key:∀k,k<3->bnd 44 37 (if k=0 then c.x-(spV x y z).x else if k=1 then c.y-(spV x y z).y else c.z-(spV x y z).z):=fun k _=>by
  split
  ·exact qo2 hc.x hx
  ·split
   ·exact qo2 hc.y hy
   ·exact qo2 hc.z hz
 rw[<-qJ5];exact qu8 key key 3 (by omega)
theorem qHz(X Y Z:Bs):kN (txR (([X,Y,Z]:List Bs).take 0)) [[.s X]]=txR (([X,Y,Z]:List Bs).take (0+1))/\kN (txR (([X,Y,Z]:List Bs).take 1)) [[.s Y]]=txR (([X,Y,Z]:List Bs).take (1+1)) /\kN (txR (([X,Y,Z]:List Bs).take 2)) [[.s Z]]=txR (([X,Y,Z]:List Bs).take (2+1))/\qm (txR (([X,Y,Z]:List Bs).take 0))=0/\qm (txR (([X,Y,Z]:List Bs).take 1))=1/\qm (txR (([X,Y,Z]:List Bs).take 2))=2 /\qm [[U.s X]]=1/\qm [[U.s Y]]=1/\qm [[U.s Z]]=1:=⟨rfl,rfl,rfl,rfl,rfl,rfl,rfl,rfl,rfl⟩
theorem qyo{x y z:Int}{cx cy cz X Y Z:Bs}(hx:co x)(hy:co y)(hz:co z)(sx:(zJ [.s cx,.s (tQ (x:Rat))]).run=some (0,[.s X,.i 0]))(sy:(zJ [.s cy,.s (tQ (y:Rat))]).run=some (0,[.s Y,.i 0]))(sz:(zJ [.s cz,.s (tQ (z:Rat))]).run=some (0,[.s Z,.i 0])):(qh kg [.i x,.i y,.i z,.i 0,.s cx,.s cy,.s cz,.r []]).run=some (0,[.r (txR [X,Y,Z])]):=by
 obtain⟨t0,t1,t2,r0,r1,r2,q0,q1,q2⟩:=qHz X Y Z;have key:=zu (S:=kg) (fun k=>[.i x,.i y,.i z,.i (k:Int),.s cx,.s cy,.s cz,.r (txR (([X,Y,Z]:List Bs).take k))]) (0,[.r (txR [X,Y,Z])]) 3 (by omega) (fun k hk=>by
   rw[qeg];rcases (show k=0\/k=1\/k=2 by omega) with rfl|rfl|rfl
   ·have e1:qC .i64 ((0:Nat):Int) 1=((0+1:Nat):Int):=by decide
    have e2:qBJ [x,y,z] ((0:Nat):Int)=x:=rfl;simp only[STD,e1,e2,q3w (qiN hx),sx,t0,r0,q0,show (((0:Nat):Int)<3)=True from eq_true (by decide),show ((0:Int)<=((0:Nat):Int))=True from eq_true (by decide),
     show (((0:Nat):Int)=2)=False from eq_false (by decide),show (((0:Nat):Int)=1)=False from eq_false (by decide),show (((0:Nat):Int)=0)=True from eq_true (by decide),and_self,show ((0:Int)+1<=8796093022208)=True from eq_true (by decide)]
   ·have e1:qC .i64 ((1:Nat):Int) 1=((1+1:Nat):Int):=by decide
    have e2:qBJ [x,y,z] ((1:Nat):Int)=y:=rfl;simp only[STD,e1,e2,q3w (qiN hy),sy,t1,r1,q1,show (((1:Nat):Int)<3)=True from eq_true (by decide),show ((0:Int)<=((1:Nat):Int))=True from eq_true (by decide),
     show (((1:Nat):Int)=2)=False from eq_false (by decide),show (((1:Nat):Int)=1)=True from eq_true (by decide),and_self,show ((1:Int)+1<=8796093022208)=True from eq_true (by decide)]
   ·have e1:qC .i64 ((2:Nat):Int) 1=((2+1:Nat):Int):=by decide
    have e2:qBJ [x,y,z] ((2:Nat):Int)=z:=rfl;simp only[STD,e1,e2,q3w (qiN hz),sz,t2,r2,q2,show (((2:Nat):Int)<3)=True from eq_true (by decide),show ((0:Int)<=((2:Nat):Int))=True from eq_true (by decide),
     show (((2:Nat):Int)=2)=True from eq_true (by decide),and_self,show ((2:Int)+1<=8796093022208)=True from eq_true (by decide)]) (by
   rw[qeg];simp only[STD,show (((3:Nat):Int)<3)=False from eq_false (by decide)];rfl)
 exact key
theorem qGS{c:V3}{x y z:Int}(hc:CB c)(hx:co x)(hy:co y)(hz:co z):(j3 [.s (tQ c.x),.s (tQ c.y),.s (tQ c.z),.i x,.i y,.i z]).run=some (0,[.s (tQ (d2 c (spV x y z))),.i 0]):=by
 have key':=qyo hx hy hz (q7V hc.x (qvx hx) (by omega) (by omega) (by omega)) (q7V hc.y (qvx hy) (by omega) (by omega) (by omega)) (q7V hc.z (qvx hz) (by omega) (by omega) (by omega));have kb:∀k,k<3->bnd 44 37 (if k=0 then c.x-(spV x y z).x else if k=1 then c.y-(spV x y z).y else c.z-(spV x y z).z):=fun k _=>by
  split
  ·exact qo2 hc.x hx
  ·split
   ·exact qo2 hc.y hy
   ·exact qo2 hc.z hz
 obtain⟨l0,l1,l2,l3⟩:=qLh (tQ (c.x-(x:Rat))) (tQ (c.y-(y:Rat))) (tQ (c.z-(z:Rat)));have gg:∀k:Nat,k<3->cS (txR [tQ (c.x-(x:Rat)),tQ (c.y-(y:Rat)),tQ (c.z-(z:Rat))]) (k:Int) 0=tQ (if k=0 then c.x-(spV x y z).x else if k=1 then c.y-(spV x y z).y else c.z-(spV x y z).z):=fun k hk=>by
  rcases (show k=0\/k=1\/k=2 by omega) with rfl|rfl|rfl
  ·exact l1
  ·exact l2
  ·exact l3
 have ht:=qCr (m:=3) (by omega) kb kb (by decide) l0 l0 gg gg;rw[qJ5] at ht;rw[qpT];simp only[STD,qeV,key',qT key',ht]
variable {n:Nat}
theorem qxL{t:Nat->Rat}{n:Nat}(h:∀k,k<n->bnd 36 36 (t k)):∀k,k<=n->bnd (38*k+1) (36*k+1) (su k t)
 | 0,_=>q0q
 | k+1,hk=>by
  have:=(qxL h k (by omega)).add (h k (by omega)) (K:=38*(k+1)+1) (by omega) (by omega);exact this.mono (qLs _) (by omega)
theorem quz (F:Nat->Bs){k:Nat}(hk:k<n):cS (txR ((List.range n).map F)) (k:Int) 0=F k:=qDn (by rw[qLC,qMp hk];rfl)
theorem qrC (n:Nat)(F:Nat->Bs):qm (txR ((List.range n).map F))=(n:Int):=by rw[qo3,qLF,qMa]
theorem qKL (hn:n<=3){t:Nat->Rat}(h:∀k,k<n->bnd 36 36 (t k)):(qbp [.r (txR ((List.range n).map fun k=>tQ (t k)))]).run=some (0,[.s (tQ (su n t)),.i 0]):=by
 obtain⟨bl,hbl⟩:∃bl,bl=txR ((List.range n).map fun k=>tQ (t k)):=⟨_,rfl⟩;have lb:qm bl=(n:Int):=by rw[hbl,qrC]
 have gb:∀k,k<n->cS bl (k:Int) 0=tQ (t k):=fun k hk=>by rw[hbl];exact quz (fun k=>tQ (t k)) hk
 have ck:(qE [.r bl]).run=some (0,[.i 0]):=by rw[hbl];exact qlW (by simp;omega) (fun s hs=>by obtain⟨k,hk,rfl⟩:=qMi.1 hs;exact q1F ((h k (qMK.1 hk)).ok (by omega) (by omega)))
 have key:=zu (S:=q25) (fun k=>[.s (tQ (su k t)),.r bl,.i n,.i (k:Int)]) (0,[.s (tQ (su n t))]) n (by omega) (fun k hk=>by
  rw[qhu];have sb:=qxL h k (by omega);simp only[STD,lb,gb k hk,qf0 sb (h k hk) (by omega) (by omega) (by omega),kD hk (show n<9223372036854775808 by omega),show (k:Int)<n by omega,show (0:Int)<=k by omega,and_self];rfl) (by
  rw[qhu];simp only[STD,show ¬(n:Int)<n by omega])
 have key':(qh q25 [.s [48],.r bl,.i (n:Int),.i 0]).run=some (0,[.s (tQ (su n t))]):=key;rw[<-hbl,qwI];simp only[STD,ck,key',qT key',lb,show ¬(4096:Int)<n by omega]
theorem qfX {q:Rat}{P M:Int}{a b:Nat}(hM:M≠0)(h:q*(M:Rat)=(P:Rat))(hP:P.natAbs<10^(a+1))(hD:M.natAbs<10^(b+1)):bnd (a+1) (b+1) q:=by obtain⟨h1,h2⟩:=qK9 hM h;exact⟨q21 a _ (by omega),q21 b _ (by omega)⟩
theorem qFz (hn:n<=3){t:Nat->Rat}{D:Int}(hD:D.natAbs<=10^35)(h:∀i,i<n->∃T:Int,t i*(D:Rat)=(T:Rat)/\T.natAbs<=10^35):∀j,j<n+1->∃W:Int,wts t n j*(D:Rat)=(W:Rat)/\W.natAbs<=4*10^35:=by
 have sums:∀k,k<=n->∃W:Int,su k t*(D:Rat)=(W:Rat)/\W.natAbs<=k*10^35:=by
  intro k;induction k with
  | zero=>exact fun _=>⟨0,by simp only[su];rw[Rat.zero_mul];rfl,by simp⟩
  | succ k ih=>
   intro hk;obtain⟨W,e1,e2⟩:=ih (by omega);obtain⟨T,e3,e4⟩:=h k (by omega);refine⟨W+T,?_,?_⟩
   ·simp only[su];rw[Rat.add_mul,e1,e3,qMl]
   ·rw[qLH];omega
 intro j hj;unfold wts;by_cases e:j=0
 ·obtain⟨W,e1,e2⟩:=sums n (qLs _);refine⟨D-W,?_,?_⟩
  ·rw[if_pos e,qM9,<-e1];grind
  ·have:=qLT (10^35) hn;omega
 ·obtain⟨T,e3,e4⟩:=h (j-1) (by omega);exact⟨T,by rw[if_neg e];exact e3,by omega⟩
theorem qGf (hn:n<=3){w:Nat->Rat}{x:Nat->Int}{D:Int}(hx:∀j,j<n+1->co (x j))(h:∀j,j<n+1->∃W:Int,w j*(D:Rat)=(W:Rat)/\W.natAbs<=4*10^35) :∃C:Int,su (n+1) (fun j=>w j*(x j:Rat))*(D:Rat)=(C:Rat)/\C.natAbs<=16*10^40:=by
 have sums:∀k,k<=n+1->∃C:Int,su k (fun j=>w j*(x j:Rat))*(D:Rat)=(C:Rat)/\C.natAbs<=k*(4*10^40):=by
  intro k;induction k with
  | zero=>exact fun _=>⟨0,by simp only[su];rw[Rat.zero_mul];rfl,by simp⟩
  | succ k ih=>
   intro hk;obtain⟨C,e1,e2⟩:=ih (by omega);obtain⟨W,e3,e4⟩:=h k (by omega);refine⟨C+W*x k,?_,?_⟩
   ·simp only[su];rw[Rat.add_mul,e1,qMl,qLK,<-e3];grind
   ·have hc:=hx k (by omega);have:=q4d e4 (show (x k).natAbs<=100000 by unfold co at hc;omega);rw[qLH];omega
 obtain⟨C,e1,e2⟩:=sums (n+1) (qLs _);refine⟨C,e1,?_⟩;exact qLu e2 (qLu (qLT (4*10^40) (show n+1<=4 by omega)) (by decide))
end Go.Eng

namespace Go.Eng
variable {l:R}
def axv(l:R)(a k:Nat):Int:=qBJ [cI l (k:Int) 0,cI l (k:Int) 1,cI l (k:Int) 2] (a:Int)
theorem q9n.ax (h:q9n l){k:Nat}(hk:k<l.length){a:Nat}(ha:a<3):co (axv l a k):=by
 obtain⟨h1,h2,h3⟩:=h.row hk;rcases (show a=0\/a=1\/a=2 by omega) with rfl|rfl|rfl
 ·exact h1
 ·exact h2
 ·exact h3
theorem qn6 {m a:Nat}(h:q9n l)(hl:l.length=m)(ha:a<3)(s1 s2 s3 s4 t1 t2 t3 t4:Bs)(wl:R) :(qh jH [.r l,.i a,.i a,.r l,.i m,.i 0,.s s1,.s s2,.s s3,.s s4,.r wl,.s t1,.s t2,.s t3,.s t4,.r []]).run = some (0,[.r l,.i a,.i a,.s s1,.s s2,.s s3,.s s4,.r wl,.s t1,.s t2,.s t3,.s t4,.r (txR ((List.range m).map fun k=>tQ (axv l a k:Rat)))]):=by
 have hm:m<=64:=by have:=h.1;omega
 have hL:qm l=(m:Int):=by unfold qm;rw[hl]
 have key:=zu (S:=jH) (fun k=>[.r l,.i a,.i a,.r l,.i m,.i (k:Int),.s s1,.s s2,.s s3,.s s4,.r wl,.s t1,.s t2,.s t3,.s t4,.r (txR ((List.range k).map fun k=>tQ (axv l a k:Rat)))])
  (0,[.r l,.i a,.i a,.s s1,.s s2,.s s3,.s s4,.r wl,.s t1,.s t2,.s t3,.s t4,.r (txR ((List.range m).map fun k=>tQ (axv l a k:Rat)))]) m (by omega) (fun k hk=>by
   rw[q9x];have e0:qBJ [cI l (k:Int) 0,cI l (k:Int) 1,cI l (k:Int) 2] (a:Int)=axv l a k:=rfl;have e1:txR ((List.range (k+1)).map fun k=>tQ (axv l a k:Rat))=kN (txR ((List.range k).map fun k=>tQ (axv l a k:Rat))) [[.s (tQ (axv l a k:Rat))]]:=by rw[qpY,qqr,qN5,qM0];rfl
   have e3:qm [[U.s (tQ (axv l a k:Rat))]]=1:=rfl;simp only[STD,qeV,hL,e0,q3w (qiN (h.ax (show k<l.length by omega) ha)),kD hk (show m<9223372036854775808 by omega),e1,e3,qo3,qLF,qMa,show (k:Int)<m by omega,
    show (a:Int)<3 by omega,show (0:Int)<=a by omega,show (k:Int)+1<=8796093022208 by omega,show (0:Int)<=k by omega,and_self]) (by
   rw[q9x];simp only[STD,show ¬(m:Int)<m by omega])
 exact key
theorem qAM {m:Nat}(h:q9n l)(hl:l.length=m)(hm:m<=4){w:Nat->Rat}(hw:∀k,k<m->bnd 36 36 (w k))(s1 s2 s3 s4:Bs) :(qh jF [.r l,.i 0,.s s1,.s s2,.s s3,.s s4,.r (txR ((List.range m).map fun k=>tQ (w k))),.s [],.s [],.s [],.s []]).run = some (0,[.r l,.s s1,.s s2,.s s3,.s s4,.r (txR ((List.range m).map fun k=>tQ (w k))),.s (tQ (cen m w (pV l)).x),.s (tQ (cen m w (pV l)).y),.s (tQ (cen m w (pV l)).z),.s []]):=by
 obtain⟨wl,hwl⟩:∃wl,wl=txR ((List.range m).map fun k=>tQ (w k)):=⟨_,rfl⟩;have hL:qm l=(m:Int):=by unfold qm;rw[hl]
 have lw:qm wl=(m:Int):=by rw[hwl,qrC]
 have gw:∀k,k<m->cS wl (k:Int) 0=tQ (w k):=fun k hk=>by rw[hwl];exact quz (fun k=>tQ (w k)) hk
 rw[<-hwl];have tot:∀a,a<3->(qJ [.r wl,.r (txR ((List.range m).map fun k=>tQ (axv l a k:Rat)))]).run=some (0,[.s (tQ (su m fun k=>w k*(axv l a k:Rat))),.i 0]):=fun a ha=>
  qCr (by omega) hw (fun k hk=>qvx (h.ax (show k<l.length by omega) ha)) (by omega) lw (qrC _ _) gw (fun k hk=>quz (fun k=>tQ (axv l a k:Rat)) hk)
 have q0:=tot 0 (by omega);have q1:=tot 1 (by omega);have q2:=tot 2 (by omega);have key:=zu (S:=jF) (fun a=>[.r l,.i (a:Int),.s s1,.s s2,.s s3,.s s4,.r wl,.s (if 0<a then tQ (su m fun k=>w k*(axv l 0 k:Rat)) else []),.s (if 1<a then tQ (su m fun k=>w k*(axv l 1 k:Rat)) else []),.s (if 2<a then tQ (su m fun k=>w k*(axv l 2 k:Rat)) else []),.s []])
  (0,[.r l,.s s1,.s s2,.s s3,.s s4,.r wl,.s (tQ (su m fun k=>w k*(axv l 0 k:Rat))),.s (tQ (su m fun k=>w k*(axv l 1 k:Rat))),.s (tQ (su m fun k=>w k*(axv l 2 k:Rat))),.s []]) 3 (by omega) (fun a ha=>by
   rw[q9u];rcases (show a=0\/a=1\/a=2 by omega) with rfl|rfl|rfl
   ·simp only[STD,hL,qn6 h hl ha,q0];rfl
   ·simp only[STD,hL,qn6 h hl ha,q1];rfl
   ·simp only[STD,hL,qn6 h hl ha,q2];rfl) (by
   rw[q9u];simp only[STD];rfl)
 exact key
end Go.Eng

namespace Go.Eng
theorem qFx(n:Nat)(t:Nat->Rat):kN [[.s (tQ (1-su n t))]] (txR ((List.range n).map fun k=>tQ (t k)))=txR ((List.range (n+1)).map fun j=>tQ (wts t n j)):=by rw[qpY,qqr,List.range_succ_eq_map,qMn,List.map_map];rfl
theorem qEW{l:R}{n:Nat}(h:q9n l)(hl:l.length=n+1)(hn:n<=3) :(∃t,Bl n (pV l) t/\(∀j,j<n+1->bnd 36 36 (wts t n j))/\CB (cen (n+1) (wts t n) (pV l)) /\(ki [.r l]).run=some (0,[.s (tQ (cen (n+1) (wts t n) (pV l)).x),.s (tQ (cen (n+1) (wts t n) (pV l)).y),.s (tQ (cen (n+1) (wts t n) (pV l)).z),.s (tQ (d2 (cen (n+1) (wts t n) (pV l)) (pV l 0))),.r (txR ((List.range (n+1)).map fun j=>tQ (wts t n j))),.b true,.i 0])) \/(¬Ind (n+1) (pV l)/\(ki [.r l]).run=some (0,[.s [],.s [],.s [],.s [],.r [],.b false,.i 0])):=by
 have hL:qm l=((n+1:Nat):Int):=by unfold qm;rw[hl]
 have w0:yF .i64 ((n+1:Nat):Int) 1=(n:Int):=by rw[vV (by omega)];omega
 have bd:∀i k,i<n->k<n->-120000000000<=dI l (i+1) (k+1)/\dI l (i+1) (k+1)<=120000000000:=fun i k hi hk=>qHY h (by omega) (by omega);have bg:∀i k,i<n->k<n->(gI2 l i k).natAbs<=240000000000:=fun i k hi hk=>by have:=bd i k hi hk;unfold gI2;omega
 have r0:=qEe h hl [] [] [] [];have r1:=qxW (n:=n) (L:=rI (mkI (gI2 l) n n)) (g:=gI2 l) (by omega) (by unfold rI;rw[qLF,qo4]) (fun i k hi hk=>qJL _ hi hk) (fun i k hi hk=>by have:=bg i k hi hk;omega);rcases qDy hn (G:=fun i k=>(gI2 l i k:Rat)) (fun i k hi hk=>quy (qKr (by have:=bg i k hi hk;omega) (by omega)) (by omega)) with⟨N,g1,g2,g3⟩|⟨g1,g3⟩
 ·left;have eg:(fun i k=>(gI2 l i k:Rat))=qvp (pV l):=by funext i k;exact qA9 l i k
  have eb:(fun k=>d2 (pV l 0) (pV l (k+1)))=fun k=>(dI l (k+1) (k+1):Rat):=by funext k;exact(qKi l k).symm
  obtain⟨t,et⟩:∃t,t=qJi n N fun k=>(dI l (k+1) (k+1):Rat):=⟨_,rfl⟩;have bl:Bl n (pV l) t:=by rw[eg] at g1;have:=qKm g1;rw[eb] at this;rw[et];exact this
  obtain⟨D,d0,d1,d2'⟩:=qJ4 hn (g:=gI2 l) (b:=fun i=>dI l (i+1) (i+1)) (N:=fun k j=>N k (n+j)) (t:=t) (fun i k hi hk=>bg i k hi hk)
   (fun i hi=>by have:=bd i i hi hi;show _<=240000000000;omega) (fun i j hi hj=>qBZ g1 hi hj) (fun i hi=>by rw[et];exact qDh g1 _ hi)
  have tb:∀k,k<n->bnd 36 36 (t k):=fun k hk=>by obtain⟨T,e1,e2⟩:=d2' k hk;exact qfX (a:=35) (b:=35) d0 e1 (qNn e2 (by decide)) (qNn d1 (by decide))
  have wf:=qFz hn d1 d2';have wb:∀j,j<n+1->bnd 36 36 (wts t n j):=fun j hj=>by obtain⟨W,e1,e2⟩:=wf j hj;exact qfX (a:=35) (b:=35) d0 e1 (qNn e2 (by decide)) (qNn d1 (by decide))
  have cb:∀x:Nat->Int,(∀j,j<n+1->co (x j))->bnd 42 36 (su (n+1) fun j=>wts t n j*(x j:Rat)):=fun x hx=>by obtain⟨C,e1,e2⟩:=qGf hn hx wf;exact qfX (a:=41) (b:=35) d0 e1 (qNn e2 (by decide)) (qNn d1 (by decide))
  have hCB:CB (cen (n+1) (wts t n) (pV l)):=⟨cb _ fun j hj=>(h.row (show j<l.length by omega)).1,cb _ fun j hj=>(h.row (show j<l.length by omega)).2.1,cb _ fun j hj=>(h.row (show j<l.length by omega)).2.2⟩;refine⟨t,bl,wb,hCB,?_⟩;have r3:=qHH hn (V:=fun i k=>N i (n+k)) (B:=fun k=>(dI l (k+1) (k+1):Rat)) (fun i k hi hk=>g2 i (n+k) hi (by omega)) (fun k hk=>quy (qKr (by have:=bd k k hk hk;omega) (by omega)) (by omega));have e3:(fun i=>tQ (su n fun k=>N i (n+k)*(dI l (k+1) (k+1):Rat)))=fun i=>tQ (t i):=by rw[et];rfl
  rw[e3] at r3;have r4:=qKL hn tb;have sb:=qxL tb n (qLs _);have r5:=q7V qxA sb (by omega) (by omega) (by omega);rw[show tQ 1=([49]:Bs) by decide] at r5;have r6:=qAM h hl (by omega) wb [] [] [] [];obtain⟨c,hc⟩:∃c,c=cen (n+1) (wts t n) (pV l):=⟨_,rfl⟩;rw[<-hc] at r6 hCB ⊢;obtain⟨z1,z2,z3⟩:=h.row0 (show 0<l.length by omega);have r7:(j3 [.s (tQ c.x),.s (tQ c.y),.s (tQ c.z),.i (cI l 0 0),.i (cI l 0 1),.i (cI l 0 2)]).run=some (0,[.s (tQ (d2 c (pV l 0))),.i 0]):=qGS hCB z1 z2 z3;have e5:qm [[U.s (tQ (1-su n t))]]=1:=rfl;have e6:=qFx n t;rw[qdY];simp only[STD,w0,r0,r1,g3,r3,r4,r5,e5,e6,qrC,r6,qT r6,r7,hL,show (1:Int)+n<=8796093022208 by omega,show (0:Int)<((n+1:Nat):Int) by omega];rw[if_neg (by decide),if_pos ⟨by decide,trivial⟩]
 ·right;have eg:(fun i k=>(gI2 l i k:Rat))=qvp (pV l):=by funext i k;exact qA9 l i k
  refine⟨by rw[eg] at g1;exact qG7 g1,?_⟩;rw[qdY];simp only[STD,hL,w0,r0,r1,g3]
theorem qx1{a:Rat}(h:okQ a):(q5C [.s (tQ a)]).run=some (0,[.i (sgn a.num),.i 0]):=by
 have e1:(q6m [.s (tQ a)]).run=some (0,[.s (tI a.num),.s (tI (a.den:Int)),.i 0]):=by rw[qrY];simp only[STD,q1F h,q7j h]
 rw[qtM];simp only[STD,e1,qoi (q2o h)]
theorem qqd{N D N' D':Nat}{a b:Rat}(ha:bnd N D a)(hb:bnd N' D' b)(h1:N+D'<=1023)(h2:N'+D<=1023) :(uG [.s (tQ a),.s (tQ b)]).run=some (0,[.i (sgn (a.num*(b.den:Int)-b.num*(a.den:Int))),.i 0]):=by
 have p1:=qlj a;have p2:=qlj b;have p3:=qtw a;have p4:=qtw b;have oa:okQ a:=⟨by have:=ha.1;have:=hb.2;omega,by have:=ha.2;have:=hb.1;omega⟩;have ob:okQ b:=⟨by have:=hb.1;have:=ha.2;omega,by have:=ha.1;have:=hb.2;omega⟩;have k1:okL (a.num*(b.den:Int)):=q9a ha.1 hb.2 (by omega);have k2:okL (b.num*(a.den:Int)):=q9a hb.1 ha.2 (by omega);have m1:=qb6 (q2o oa) (kd ob) k1;have m2:=qb6 (q2o ob) (kd oa) k2;have m1':(qg [.r [[.s (tI a.num)],[.s (tI (b.den:Int))]],.i 0]).run=some (0,[.s (tI (a.num*(b.den:Int))),.i 0]):=m1;have m2':(qg [.r [[.s (tI b.num)],[.s (tI (a.den:Int))]],.i 0]).run=some (0,[.s (tI (b.num*(a.den:Int))),.i 0]):=m2;have hch:=qlW (l:=[tQ a,tQ b]) (by simp) (fun s hs=>by
  simp only[qLx,qNt,or_false] at hs;rcases hs with rfl|rfl
  ·exact q1F oa
  ·exact q1F ob)
 have hch':(qE [.r [[.s (tQ a)],[.s (tQ b)]]]).run=some (0,[.i 0]):=hch;rw[qoV];simp only[STD,hch',q7j oa,q7j ob,m1',m2',qh5 k1 k2]
theorem qJa{m:Int}:sgn m<0↔m<0:=by unfold sgn;split<;>(try split)<;>omega
theorem qGy{m:Int}:0<sgn m↔0<m:=by unfold sgn;split<;>(try split)<;>omega
theorem qK7{a:Rat}:a.num<0↔a<0:=by rw[<-Rat.not_le,<-Rat.num_nonneg];omega
theorem qGA{a b:Rat}:0<a.num*(b.den:Int)-b.num*(a.den:Int)↔b<a:=by rw[Rat.lt_iff];omega
theorem qkZ{α:Type}{f:Nat->Option α}:∀{k i:Nat} {r:α},q0z f i k=some r->∃j,i<=j/\j<i+k/\f j=some r
 | 0,i,r,h=>by simp[q0z] at h
 | k+1,i,r,h=>by
  simp only[q0z] at h;cases hf:f i with
  | some a=>
   rw[hf] at h;exact⟨i,by omega,by omega,by rw[hf];exact h⟩
  | none=>
   rw[hf] at h;obtain⟨j,h1,h2,h3⟩:=qkZ h;exact⟨j,by omega,by omega,h3⟩
theorem qFD{n:Nat}(hn:n<=1000){w:Nat->Rat}(hw:∀k,k<n->okQ (w k)) :∃b,(qY [.r (txR ((List.range n).map fun k=>tQ (w k)))]).run=some (0,[.b b])/\(b=true↔∃k,k<n/\w k<0):=by
 obtain⟨x,hx⟩:∃x,x=txR ((List.range n).map fun k=>tQ (w k)):=⟨_,rfl⟩;have lx:qm x=(n:Int):=by rw[hx,qrC]
 have gx:∀k,k<n->cS x (k:Int) 0=tQ (w k):=fun k hk=>by rw[hx];exact quz (fun k=>tQ (w k)) hk
 have one:∀k,k<n->(z8 [.s (tQ (w k))]).run=some (0,[.b (decide (w k<0))]):=fun k hk=>by rw[qcb];simp only[STD,qx1 (hw k hk)];rw[show ilt (sgn (w k).num) 0=decide (w k<0) from decide_eq_decide.2 (qJa.trans qK7)]
 have key:=q4o (S:=qH) (fun k=>[.r x,.i n,.i (k:Int)]) (fun k=>if w k<0 then some (1,[.i (k:Int)]) else none) (0,[]) n (by omega)
  (fun k hk hf=>by
   have h0:¬w k<0:=fun h=>by rw[if_pos h] at hf;cases hf
   rw[wB];simp only[STD,lx,gx k hk,one k hk,h0,kD hk (show n<9223372036854775808 by omega),show (k:Int)<n by omega,show (0:Int)<=k by omega,and_self])
  (fun k r hk hf=>by
   have h0:w k<0:=qM7 fun h=>by rw[if_neg h] at hf;cases hf
   rw[if_pos h0] at hf;cases hf;rw[wB];simp only[STD,lx,gx k hk,one k hk,h0,show (k:Int)<n by omega,show (0:Int)<=k by omega,and_self])
  (by rw[wB];simp only[STD,show ¬(n:Int)<n by omega])
 rw[<-hx,q3E];cases hs:q0z (fun k=>if w k<0 then some (1,[PV.i (k:Int)]) else (none:Option (Nat×List PV))) 0 n with
 | none=>
  rw[hs] at key;have key':(qh qH [.r x,.i n,.i 0]).run=some (0,[]):=key;have r:(qU [.r x]).run=some (0,[.i (-1)]):=by rw[uD];simp only[STD,lx,key',qT key']
  refine⟨false,by simp only[STD,r];rfl,⟨fun h=>(by cases h),fun⟨k,hk,h⟩=>?_⟩⟩;have:=q6W hs k (by omega) (by omega);simp only[if_pos h] at this;cases this
 | some r=>
  rw[hs] at key;obtain⟨k,h1,h2,h3⟩:=qkZ hs;have h0:w k<0:=qM7 fun h=>by simp only[if_neg h] at h3;cases h3
  simp only[if_pos h0] at h3;cases h3;have key':(qh qH [.r x,.i n,.i 0]).run=some (1,[.i (k:Int)]):=key;have r:(qU [.r x]).run=some (0,[.i (k:Int)]):=by rw[uD];simp only[STD,lx,key',qT key',show ¬((1:Nat)=0) by decide]
  refine⟨true,?_,⟨fun _=>⟨k,by omega,h0⟩,fun _=>rfl⟩⟩;simp only[STD,r];rw[show ile 0 (k:Int)=true from by simp[ile]]
theorem qFe{n:Nat}(hn:n<=1000){w:Nat->Rat}(hw:∀k,k<n->okQ (w k))(s1 s2 s3 s4:Bs) :∃b,(j4 [.s s1,.s s2,.s s3,.s s4,.r (txR ((List.range n).map fun k=>tQ (w k)))]).run=some (0,[.b b])/\(b=true↔∀k,k<n->0<=w k):=by
 obtain⟨b,h1,h2⟩:=qFD hn hw;refine⟨!b,by rw[qeF];simp only[STD,h1],?_⟩;constructor
 ·intro h k hk;apply Rat.not_lt.1;intro hl;have:=h2.2 ⟨k,hk,hl⟩;rw[this] at h;cases h
 ·intro h;cases b with
  | false=>rfl
  | true=>
   obtain⟨k,hk,hl⟩:=h2.1 rfl;exact absurd (h k hk) (Rat.not_le.2 hl)
theorem qAl{l:R}(h:q9n l){c:V3}(hc:CB c){s:Rat}(hs:bnd 317 223 s)(wl:R) :∃b,(va [.s (tQ c.x),.s (tQ c.y),.s (tQ c.z),.s (tQ s),.r wl,.r l]).run=some (0,[.b b,.i 0])/\(b=true↔∀k,k<l.length->d2 c (pV l k)<=s):=by
 have hl:=h.1;have lx:qm l=(l.length:Int):=rfl;have aw:∀k,k<l.length->(j3 [.s (tQ c.x),.s (tQ c.y),.s (tQ c.z),.i (cI l (k:Int) 0),.i (cI l (k:Int) 1),.i (cI l (k:Int) 2)]).run=some (0,[.s (tQ (d2 c (pV l k))),.i 0]):=fun k hk=>by obtain⟨h1,h2,h3⟩:=h.row hk;exact qGS hc h1 h2 h3
 have cp:∀k,k<l.length->(uG [.s (tQ (d2 c (pV l k))),.s (tQ s)]).run=some (0,[.i (sgn ((d2 c (pV l k)).num*(s.den:Int)-s.num*((d2 c (pV l k)).den:Int))),.i 0]):=fun k hk=>by obtain⟨h1,h2,h3⟩:=h.row hk;exact qqd (qzD hc h1 h2 h3) hs (by omega) (by omega)
 have key:=q4o (S:=ze) (fun k=>[.r l,.i l.length,.i (k:Int),.s (tQ c.x),.s (tQ c.y),.s (tQ c.z),.s (tQ s),.r wl]) (fun k=>if s<d2 c (pV l k) then some (1,[.b false,.i 0]) else none) (0,[]) l.length (by omega)
  (fun k hk hf=>by
   have h0:¬s<d2 c (pV l k):=fun h=>by rw[if_pos h] at hf;cases hf
   rw[u9];simp only[STD,lx,aw k hk,cp k hk,qGy,qGA,h0,kD hk (show l.length<9223372036854775808 by omega),show (k:Int)<l.length by omega,show (0:Int)<=k by omega,and_self])
  (fun k r hk hf=>by
   have h0:s<d2 c (pV l k):=qM7 fun h=>by rw[if_neg h] at hf;cases hf
   rw[if_pos h0] at hf;cases hf;rw[u9];simp only[STD,lx,aw k hk,cp k hk,qGy,qGA,h0,show (k:Int)<l.length by omega,show (0:Int)<=k by omega,and_self])
  (by rw[u9];simp only[STD,show ¬(l.length:Int)<l.length by omega])
 rw[qc1];cases hs:q0z (fun k=>if s<d2 c (pV l k) then some (1,[PV.b false,.i 0]) else (none:Option (Nat×List PV))) 0 l.length with
 | none=>
  rw[hs] at key;have key':(qh ze [.r l,.i l.length,.i 0,.s (tQ c.x),.s (tQ c.y),.s (tQ c.z),.s (tQ s),.r wl]).run=some (0,[]):=key;refine⟨true,by simp only[STD,lx,key',qT key'],⟨fun _ k hk=>?_,fun _=>rfl⟩⟩;apply Rat.not_lt.1;intro h0;have:=q6W hs k (by omega) (by omega);simp only[if_pos h0] at this;cases this
 | some r=>
  rw[hs] at key;obtain⟨k,h1,h2,h3⟩:=qkZ hs;have h0:s<d2 c (pV l k):=qM7 fun h=>by simp only[if_neg h] at h3;cases h3
  simp only[if_pos h0] at h3;cases h3;have key':(qh ze [.r l,.i l.length,.i 0,.s (tQ c.x),.s (tQ c.y),.s (tQ c.z),.s (tQ s),.r wl]).run=some (1,[.b false,.i 0]):=key;refine⟨false,by simp only[STD,lx,key',qT key'];rfl,⟨fun h=>(by cases h),fun h=>?_⟩⟩;exact absurd (h k (by omega)) (Rat.not_le.2 h0)
variable {L:List Nat}{l:R}
def rN(L:List Nat):R:=rI (L.map fun k:Nat=>(k:Int))
def chR(l:R)(L:List Nat):R:=L.map fun k:Nat=>[.i (cI l (k:Int) 0),.i (cI l (k:Int) 1),.i (cI l (k:Int) 2)]
theorem qjq (L:List Nat):qm (rN L)=(L.length:Int):=by unfold rN;rw[qhy,qLF]
theorem qH2 {j k:Nat}(h:L[j]?=some k):cI (rN L) (j:Int) 0=(k:Int):=by unfold rN;rw[qD3,qLD,qLr,qLC,h];rfl
theorem qnr (l:R)(L:List Nat):(chR l L).length=L.length:=by unfold chR;rw[qLF]
theorem qF6 (hL:L.length<=1000)(h:∀k,k∈L->k<l.length):(q1U [.r l,.r (rN L)]).run=some (0,[.r (chR l L)]):=by
 have key:=zu (S:=yC) (fun j=>[.r l,.r (rN L),.i L.length,.i (j:Int),.r (chR l (L.take j))]) (0,[.r (chR l L)]) L.length (by omega) (fun j hj=>by
  obtain⟨k,hk⟩:∃k,L[j]?=some k:=⟨L[j],qLz hj⟩;have hkl:=h k (qMJ hk);have e1:chR l (L.take (j+1))=kN (chR l (L.take j)) [[.i (cI l (k:Int) 0),.i (cI l (k:Int) 1),.i (cI l (k:Int) 2)]]:=by unfold chR kN;rw[List.take_add_one,hk,qM0];rfl
  have e2:qm (chR l (L.take j))=(j:Int):=by unfold qm;rw[qnr,qMw,qMI (by omega)]
  have e3:qm [[U.i (cI l (k:Int) 0),.i (cI l (k:Int) 1),.i (cI l (k:Int) 2)]]=1:=rfl;have e4:qm l=(l.length:Int):=rfl;rw[qb2];simp only[STD,qjq,qH2 hk,e1,e2,e3,e4,kD hj (show L.length<9223372036854775808 by omega),show (j:Int)<L.length by omega,show (0:Int)<=j by omega,show (0:Int)<=k by omega,show (k:Int)<l.length by omega,
   show (j:Int)+1<=5864062014805 by omega,and_self]) (by
  rw[qb2];simp only[STD,show ¬(L.length:Int)<L.length by omega,qML])
 have key':(qh yC [.r l,.r (rN L),.i (L.length:Int),.i 0,.r []]).run=some (0,[.r (chR l L)]):=key;rw[qnf];simp only[STD,qjq,key']
theorem qCS {j k:Nat}(h:L[j]?=some k):cI (chR l L) (j:Int) 0=cI l (k:Int) 0/\cI (chR l L) (j:Int) 1=cI l (k:Int) 1/\cI (chR l L) (j:Int) 2=cI l (k:Int) 2:=by
 have e:(chR l L).getD ((j:Int).toNat) []=[.i (cI l (k:Int) 0),.i (cI l (k:Int) 1),.i (cI l (k:Int) 2)]:=by unfold chR;rw[qLD,qLr,qLC,h];rfl
 refine⟨?_,?_,?_⟩<;>(conv=>lhs;unfold cI wD)<;>rw[e]<;>rfl
theorem qCA (hs:q9n l)(hL:L.length<=64)(h:∀k,k∈L->k<l.length):q9n (chR l L):=by refine⟨by rw[qnr];exact hL,fun j hj=>?_⟩;rw[qnr] at hj;obtain⟨k,hk⟩:∃k,L[j]?=some k:=⟨L[j],qLz hj⟩;obtain⟨e1,e2,e3⟩:=qCS (l:=l) hk;have:=hs.2 k (h k (qMJ hk));unfold qHD at this ⊢;rw[e1,e2,e3];exact this
def Lf(l:R)(L:List Nat)(j:Nat):Nat:=L.getD j l.length
theorem qGG (l:R)(L:List Nat):pV (chR l L)=fun j=>pV l (Lf l L j):=by
 funext j;unfold pV Lf;cases h:L[j]? with
 | some k=>
  obtain⟨e1,e2,e3⟩:=qCS (l:=l) h;rw[e1,e2,e3,qLr,h];rfl
 | none=>
  have h1:=List.getElem?_eq_none_iff.1 h;have e:(chR l L).getD ((j:Int).toNat) []=[]:=by rw[qLD,qLr,qLS (by rw[qnr];exact h1)];rfl
  have e':l.getD (((l.length:Nat):Int).toNat) []=[]:=by rw[qLD,qLr,qLS (qLs _)];rfl
  rw[qLr,h];show V3.mk _ _ _=V3.mk _ _ _;unfold cI wD;simp only[Option.getD_none];rw[e,e']
def qAf(p:Nat->V3)(m n:Nat)(L:Nat->Nat)(t:Nat->Rat):Prop:=Bl n (fun j=>p (L j)) t/\(∀j,j<n+1->0<=wts t n j)/\∀i,i<m->d2 (cen (n+1) (wts t n) fun j=>p (L j)) (p i)<=d2 (cen (n+1) (wts t n) fun j=>p (L j)) (p (L 0))
theorem qzm {n:Nat}{c:Nat->V3}{t t':Nat->Rat}(h:Bl n c t)(h':Bl n c t'):∀j,j<n+1->wts t n j=wts t' n j:=fun j hj=>by
 unfold wts;have:=qI9 h h';rw[qo this];by_cases e:j=0
 ·rw[if_pos e,if_pos e]
 ·rw[if_neg e,if_neg e];exact this (j-1) (by omega)
theorem qqE {n:Nat}{w w':Nat->Rat}{c:Nat->V3}(h:∀j,j<n->w j=w' j):cen n w c=cen n w' c:=by
 have e:∀f:Nat->Rat,su n (fun j=>w j*f j)=su n fun j=>w' j*f j:=fun f=>qo fun j hj=>by rw[h j hj]
 unfold cen;rw[e,e,e]
end Go.Eng

namespace Go.Eng
theorem qIo{l:R}(h:q9n l){c:V3}(hc:CB c){k:Nat}(hk:k<l.length):bnd 317 223 (d2 c (pV l k)):=by obtain⟨h1,h2,h3⟩:=h.row hk;exact qzD hc h1 h2 h3
theorem qBL{p:Nat->V3}{m n:Nat}{L:Nat->Nat}{t t':Nat->Rat}(h:qAf p m n L t)(h':Bl n (fun j=>p (L j)) t'):qAf p m n L t':=by
 have e:=qzm h.1 h';have ec:=qqE (c:=fun j=>p (L j)) e;refine⟨h',fun j hj=>?_,fun i hi=>?_⟩
 ·rw[<-e j hj];exact h.2.1 j hj
 ·rw[<-ec];exact h.2.2 i hi
theorem qrj{l:R}(hs:q9n l){L:List Nat}{n:Nat}(hL:L.length=n+1)(hn:n<=3)(hlt:∀k,k∈L->k<l.length) :(∃t,qAf (pV l) l.length n (Lf l L) t/\(∀j,j<n+1->bnd 36 36 (wts t n j))/\CB (cen (n+1) (wts t n) fun j=>pV l (Lf l L j)) /\(zX [.r l,.r (rN L)]).run=some (0,[.s (tQ (cen (n+1) (wts t n) fun j=>pV l (Lf l L j)).x),.s (tQ (cen (n+1) (wts t n) fun j=>pV l (Lf l L j)).y),.s (tQ (cen (n+1) (wts t n) fun j=>pV l (Lf l L j)).z),.s (tQ (d2 (cen (n+1) (wts t n) fun j=>pV l (Lf l L j)) (pV l (Lf l L 0)))),.r (txR ((List.range (n+1)).map fun j=>tQ (wts t n j))),.b true,.i 0])) \/((∀t,¬qAf (pV l) l.length n (Lf l L) t)/\∃s1 s2 s3 s4 wl,(zX [.r l,.r (rN L)]).run=some (0,[.s s1,.s s2,.s s3,.s s4,.r wl,.b false,.i 0])):=by
 have ch:=qF6 (l:=l) (L:=L) (by omega) hlt;have sp:=qCA hs (show L.length<=64 by omega) hlt;have key:=qEW sp (n:=n) (by rw[qnr];exact hL) hn;rw[qGG] at key;rcases key with⟨t,h1,h2,h3,h4⟩|⟨h1,h4⟩
 ·obtain⟨c,hc⟩:∃c,c=cen (n+1) (wts t n) fun j=>pV l (Lf l L j):=⟨_,rfl⟩;have l0:Lf l L 0<l.length:=by unfold Lf;rw[qLr,qLz (show 0<L.length by omega)];exact hlt _ (qMg _)
  rw[<-hc] at h3 h4;have fb:=qIo hs h3 l0;obtain⟨b1,i1,i2⟩:=qFe (show n+1<=1000 by omega) (w:=wts t n) (fun k hk=>(h2 k hk).ok (by omega) (by omega)) (tQ c.x) (tQ c.y) (tQ c.z) (tQ (d2 c (pV l (Lf l L 0))));obtain⟨b2,j1,j2⟩:=qAl hs h3 fb (txR ((List.range (n+1)).map fun j=>tQ (wts t n j)));have nope:(b1=false\/b2=false)->∀t',¬qAf (pV l) l.length n (Lf l L) t':=fun hb t' ht'=>by
   have hh:=qBL ht' h1;unfold qAf at hh;rw[<-hc] at hh;rcases hb with e|e
   ·rw[i2.2 hh.2.1] at e;cases e
   ·rw[j2.2 hh.2.2] at e;cases e
  rw[q9t];cases b1 with
  | false=>
   right;refine⟨nope (Or.inl rfl),[],[],[],[],[],?_⟩;simp only[STD,ch,h4,i1]
  | true=>
   cases b2 with
   | false=>
    right;refine⟨nope (Or.inr rfl),tQ c.x,tQ c.y,tQ c.z,tQ (d2 c (pV l (Lf l L 0))),txR ((List.range (n+1)).map fun j=>tQ (wts t n j)),?_⟩;simp only[STD,ch,h4,i1,j1]
   | true=>
    left;refine⟨t,⟨h1,i2.1 rfl,?_⟩,h2,by rw[<-hc];exact h3,?_⟩
    ·rw[<-hc];exact j2.1 rfl
    ·rw[<-hc];simp only[STD,ch,h4,i1,j1]
 ·right;refine⟨fun t ht=>h1 ht.1.ind,[],[],[],[],[],?_⟩;rw[q9t];simp only[STD,ch,h4]
structure NxOk (P:Nat->Nat->Rat) (n C c:Nat):Prop where
 cell:∀i j,i<n->j<C->sm 100000 (P i j)
 quo:∀j,j<C->sm 100000 (P c j/P c c)
 prod:∀i j,i<n->j<C->sm 100000 (P i c*(P c j/P c c))
variable {l:R}
theorem qFX {m:Nat}{p:Nat->V3}{n:Nat}{L:Nat->Nat}{t:Nat->Rat}(h:qAf p m n L t)(lt:∀j,j<n+1->L j<m)(asc:Asc (n+1) L) :Sup m p (n+1) L (wts t n) (d2 (cen (n+1) (wts t n) fun j=>p (L j)) (p (L 0))):=qF0 h.1 lt asc h.2.1 h.2.2
theorem qFm {m:Nat}{p:Nat->V3}{n:Nat}{L:Nat->Nat}{u:Nat->Rat}{s:Rat}(h:Sup m p (n+1) L u s):qAf p m n L (fun j=>u (j+1)):=by
 obtain⟨b,e⟩:=qFo h;have ec:=qqE (c:=fun j=>p (L j)) e;refine⟨b,fun j hj=>?_,fun i hi=>?_⟩
 ·rw[<-e j hj];exact h.nn j hj
 ·rw[<-ec,h.eq 0 (by omega)];exact h.all i hi
noncomputable def q7h(l:R)(L:List Nat):Bool:=@decide (∃t,qAf (pV l) l.length (L.length-1) (Lf l L) t) (Classical.propDecidable _)
theorem qnU {L:List Nat}:q7h l L=true↔∃t,qAf (pV l) l.length (L.length-1) (Lf l L) t:=by unfold q7h;exact @decide_eq_true_iff _ (Classical.propDecidable _)
theorem qrI {L:List Nat}:q7h l L=false↔∀t,¬qAf (pV l) l.length (L.length-1) (Lf l L) t:=by unfold q7h;rw[@decide_eq_false_iff_not _ (Classical.propDecidable _)];exact⟨fun h t ht=>h ⟨t,ht⟩,fun h ⟨t,ht⟩=>h t ht⟩
def Mst(l:R)(m:Nat):Prop:=m=4\/m=3/\∀k,k<l.length->(pV l k).z=0
theorem qAO (hl:0<l.length){m:Nat}(hm:Mst l m):∃L n,qhX (q7h l) l.length 1 m=some L/\L.length=n+1/\n<m/\n<=3/\(∀a,a∈L->a<l.length)/\L.Pairwise (·<·)/\∃t,qAf (pV l) l.length n (Lf l L) t:=by
 cases e:qhX (q7h l) l.length 1 m with
 | some L=>
  obtain⟨h1,j,h2,h3,h4⟩:=qrF e;obtain⟨q1,q2,q3⟩:=qry.1 h4;have hm4:m<=4:=by rcases hm with e|e<;>omega
  obtain⟨t,ht⟩:=qnU.1 h1;rw[q1] at ht;exact⟨L,j-1,rfl,by omega,by omega,by omega,q2,q3,t,ht⟩
 | none=>
  exfalso;obtain⟨L,u,s,h1,h2,h3,h4,h5,h6⟩:=qFG (pV l) hl l.length;have hm4:L.length<1+m:=by
   rcases hm with e|⟨e,hz⟩
   ·omega
   ·have:=h3 hz;omega
  have:=qrk e L.length (by omega) hm4 L (qry.2 ⟨rfl,h4,h5⟩);obtain⟨n,hn⟩:∃n,L.length=n+1:=⟨L.length-1,by omega⟩;rw[hn] at h6;refine qrI.1 this (fun j=>u (j+1)) ?_;rw[show L.length-1=n from by omega];exact qFm h6
end Go.Eng

namespace Go.Eng
variable {j:Nat}
def lsR(ls:List (List Nat)):R:=ls.map fun L=>[U.l (rN L)]
theorem qhd (ls:List (List Nat)):qm (lsR ls)=(ls.length:Int):=by unfold lsR qm;rw[qLF]
theorem qun {ls:List (List Nat)}{L:List Nat}(h:ls[j]?=some L):cR (lsR ls) (j:Int) 0=rN L:=by
 have e:(lsR ls).getD ((j:Int).toNat) []=[U.l (rN L)]:=by unfold lsR;rw[qLD,qLr,qLC,h];rfl
 unfold cR wD;rw[e];rfl
theorem qEw (ls:List (List Nat))(L:List Nat):kN (lsR ls) [[.l (rN L)]]=lsR (ls++[L]):=by unfold lsR kN;rw[qM0];rfl
theorem qGX (l:List Nat)(i:Nat):kN (rN l) [[.i (i:Int)]]=rN (l++[i]):=by unfold rN rI kN;rw[qM0,qM0];rfl
theorem qIt {l:List Nat}(h:0<l.length):cI (rN l) ((l.length:Int)-1) 0+1=(nxL l:Int):=by
 rcases List.eq_nil_or_concat l with e|⟨l',b,e⟩
 ·subst e;cases h
 ·rw[List.concat_eq_append] at e;subst e;rw[qE2];have:(((l'++[b]).length:Nat):Int)-1=((l'.length:Nat):Int):=by rw[qLR];show ((l'.length+1:Nat):Int)-1=_;omega
  rw[this,qH2 (k:=b) (by rw[qLP (qLs _),qMb];rfl)];omega
def exT(l:List Nat)(j:Nat):List (List Nat):=(List.range' (nxL l) j).map fun i=>l++[i]
theorem qF2 (l:List Nat):exT l 0=[]:=rfl
theorem qFa (l:List Nat)(j:Nat):exT l (j+1)=exT l j++[l++[nxL l+j]]:=by unfold exT;rw[show List.range' (nxL l) (j+1)=List.range' (nxL l) j++[nxL l+j] from by rw[List.range'_concat,qNa],qM0];rfl
theorem qHy (n:Nat)(l:List Nat):exT l (n-nxL l)=exL n l:=rfl
theorem qCn (l:List Nat)(j:Nat):(exT l j).length=j:=by unfold exT;rw[qLF,List.length_range']
theorem qDH {α β:Type}(f:α->List β){ls:List α}{a:α}(h:ls[j]?=some a):(ls.take (j+1)).flatMap f=(ls.take j).flatMap f++f a:=by rw[List.take_add_one,h,List.flatMap_append];show _++[a].flatMap f=_;rw[List.flatMap_cons,List.flatMap_nil,qMC]
theorem qvS{α:Type}{P:List Nat->Bool}(g:List Nat->α)(f:List Nat->List (List Nat)):∀(ls pre:List (List Nat)),q0z (fun j=>((f ((pre++ls).getD j [])).find? P).map g) pre.length ls.length=((ls.flatMap f).find? P).map g
 | [],pre=>rfl
 | L::ls,pre=>by
  have e:(pre++L::ls).getD pre.length []=L:=by rw[qLr,qLP (qLs _),qMb];rfl
  have ih:=qvS (P:=P) g f ls (pre++[L]);rw[qM4,qLR] at ih;rw[qM5];simp only[q0z];rw[e,List.flatMap_cons,List.find?_append];cases h:(f L).find? P with
  | some a=>rfl
  | none=>exact ih
theorem qt9{α:Type}{P:List Nat->Bool}(g:List Nat->α)(n:Nat):∀(m k:Nat),q0z (fun j=>((lsN n (j+1)).find? P).map g) k m=(qhX P n (k+1) m).map g
 | 0,k=>rfl
 | m+1,k=>by
  simp only[q0z];rw[qhX];cases h:(lsN n (k+1)).find? P with
  | some a=>rfl
  | none=>exact qt9 g n m (k+1)
theorem qDD{α:Type}{P:List Nat->Bool}(g:List Nat->α)(L:List Nat):∀(m k:Nat),q0z (fun j=>if P (L++[nxL L+j])=true then some (g (L++[nxL L+j])) else none) k m=(((List.range' (nxL L+k) m).map fun i=>L++[i]).find? P).map g
 | 0,k=>rfl
 | m+1,k=>by
  have ih:=qDD (P:=P) g L m (k+1);rw[List.range'_succ,qMn,List.find?_cons];simp only[q0z];cases h:P (L++[nxL L+k]) with
  | true=>rw[if_pos rfl];rfl
  | false=>rw[if_neg (by decide)];exact ih
theorem qDO {ls:List (List Nat)}(hj:j<ls.length):ls[j]?=some (ls.getD j []):=by rw[qLr,qLz hj];rfl
end Go.Eng

namespace Go.Eng
theorem qCw{l:List Nat}(h:0<l.length)(hl:l.length<=64)(hx:nxL l<=64):qC .i64 (cI (rN l) (yF .i64 (l.length:Int) 1) 0) 1=(nxL l:Int):=by have e:=qIt h;have e1:yF .i64 (l.length:Int) 1=(l.length:Int)-1:=vV ⟨by omega,by omega⟩;rw[e1,zb ⟨by omega,by omega⟩];exact e
theorem qCH{n k:Nat}(hn:n<=64)(hk:k<=3):(lsN n k).length<=10000000:=by refine qLu (qEE n k) (qLu (Nat.pow_le_pow_left hn k) (qLu (qN1 (by decide) hk) (by decide)))
variable {L:List Nat}{l:R}
noncomputable def tO(l:R)(L:List Nat):Nat->Rat:=Classical.epsilon fun t=>qAf (pV l) l.length (L.length-1) (Lf l L) t
noncomputable def cO(l:R)(L:List Nat):V3:=cen (L.length-1+1) (wts (tO l L) (L.length-1)) fun j=>pV l (Lf l L j)
noncomputable def sO(l:R)(L:List Nat):Rat:=d2 (cO l L) (pV l (Lf l L 0))
noncomputable def wO(l:R)(L:List Nat):R:=txR ((List.range (L.length-1+1)).map fun j=>tQ (wts (tO l L) (L.length-1) j))
theorem qDQ (h:q7h l L=true):qAf (pV l) l.length (L.length-1) (Lf l L) (tO l L):=Classical.epsilon_spec (qnU.1 h)
theorem qwt (hs:q9n l){n:Nat}(hL:L.length=n+1)(hn:n<=3)(hlt:∀k,k∈L->k<l.length)(h:q7h l L=true) :CB (cO l L)/\(zX [.r l,.r (rN L)]).run=some (0,[.s (tQ (cO l L).x),.s (tQ (cO l L).y),.s (tQ (cO l L).z),.s (tQ (sO l L)),.r (wO l L),.b true,.i 0]):=by
 have eL:L.length-1=n:=by omega
 have sp:=qDQ h;unfold sO wO;unfold cO;rw[eL] at sp ⊢;rcases qrj hs hL hn hlt with⟨t,h1,h2,h3,h4⟩|⟨h1,_⟩
 ·have e:=qzm h1.1 sp.1;have ec:=qqE (c:=fun j=>pV l (Lf l L j)) e;have el:((List.range (n+1)).map fun j=>tQ (wts t n j))=(List.range (n+1)).map fun j=>tQ (wts (tO l L) n j):=qMV fun j hj=>by rw[e j (qMK.1 hj)]
  rw[ec,el] at h4;rw[ec] at h3;exact⟨h3,h4⟩
 ·exact absurd sp (h1 _)
theorem qG5 (hs:q9n l){n:Nat}(hL:L.length=n+1)(hn:n<=3)(hlt:∀k,k∈L->k<l.length)(h:q7h l L=false) :∃s1 s2 s3 s4 wl,(zX [.r l,.r (rN L)]).run=some (0,[.s s1,.s s2,.s s3,.s s4,.r wl,.b false,.i 0]):=by
 have eL:L.length-1=n:=by omega
 have hh:=qrI.1 h;rw[eL] at hh;rcases qrj hs hL hn hlt with⟨t,h1,_⟩|⟨_,h4⟩
 ·exact absurd h1 (hh t)
 ·exact h4
noncomputable def lO(l:R)(n m:Int)(L:List Nat):Nat×List PV:=(1,[.r l,.s (tQ (cO l L).x),.s (tQ (cO l L).y),.s (tQ (cO l L).z),.s (tQ (sO l L)),.r (wO l L),.i 0,.i n,.i m,.r (rN L)])
theorem qKK (hs:q9n l)(hL:L.length<=3)(hlt:∀k,k∈L->k<l.length)(y2 y3 y4 y5 y13:Int)(y14:R)(acc:List (List Nat))(ha:acc.length<=1000000000) :(qh qV [.r (rN L),.i (nxL L:Int),.i y2,.i y3,.i y4,.i y5,.r l,.s [],.s [],.s [],.s [],.i 0,.i (l.length:Int),.i y13,.r y14,.r (lsR acc)]).run = some ((((exL l.length L).find? (q7h l)).map (lO l l.length y13)).getD (0,[.i y2,.i y3,.i y4,.i y5,.r l,.s [],.s [],.s [],.s [],.i 0,.i (l.length:Int),.i y13,.r y14,.r (lsR (acc++exL l.length L))])):=by
 have hn:=hs.1;have key:=q4o (S:=qV) (fun j=>[.r (rN L),.i ((nxL L+j:Nat):Int),.i y2,.i y3,.i y4,.i y5,.r l,.s [],.s [],.s [],.s [],.i 0,.i (l.length:Int),.i y13,.r y14,.r (lsR (acc++exT L j))])
  (fun j=>if q7h l (L++[nxL L+j])=true then some (lO l l.length y13 (L++[nxL L+j])) else none)
  (0,[.i y2,.i y3,.i y4,.i y5,.r l,.s [],.s [],.s [],.s [],.i 0,.i (l.length:Int),.i y13,.r y14,.r (lsR (acc++exL l.length L))]) (l.length-nxL L) (by omega) (fun j hj hf=>by
  have e:q7h l (L++[nxL L+j])=false:=by
   cases h:q7h l (L++[nxL L+j]) with
   | true=>rw[if_pos h] at hf;cases hf
   | false=>rfl
  have lj:(L++[nxL L+j]).length=L.length+1:=by rw[qLR];rfl
  have ltj:∀k,k∈L++[nxL L+j]->k<l.length:=fun k hk=>by
   rcases qLV.1 hk with q|q
   ·exact hlt k q
   ·rw[qLY.1 q];omega
  obtain⟨s1,s2,s3,s4,wl,r1⟩:=qG5 hs lj hL ltj e;have w:qC .i64 ((nxL L+j:Nat):Int) 1=((nxL L+j+1:Nat):Int):=kD (show nxL L+j<64 by omega) (by omega);have e2:∀x:U,qm [[x]]=1:=fun _=>rfl;have e3:(acc++exT L j).length=acc.length+j:=by rw[qLR,qCn]
  have cl:(wM [.r (rN L)]).run=some (0,[.r (rN L)]):=by rw[q6z];simp only[STD,qjq,show (L.length:Int)<=17592186044416 by omega]
  rw[q2k];simp only[STD,cl,e2,qGX,qjq,qhd,qEw,e3,w,r1,show ((nxL L+j:Nat):Int)<l.length by omega,show (L.length:Int)+1<=17592186044416 by omega,
   show ((acc.length+j:Nat):Int)+1<=5864062014805 by omega,qFa,qM4,qN8]) (fun j r hj hf=>by
  have e:q7h l (L++[nxL L+j])=true:=by
   cases h:q7h l (L++[nxL L+j]) with
   | false=>rw[if_neg (by rw[h];decide)] at hf;cases hf
   | true=>rfl
  rw[if_pos e] at hf;cases hf;have lj:(L++[nxL L+j]).length=L.length+1:=by rw[qLR];rfl
  have ltj:∀k,k∈L++[nxL L+j]->k<l.length:=fun k hk=>by
   rcases qLV.1 hk with q|q
   ·exact hlt k q
   ·rw[qLY.1 q];omega
  obtain⟨_,r1⟩:=qwt hs lj hL ltj e;have e2:∀x:U,qm [[x]]=1:=fun _=>rfl;have e3:(acc++exT L j).length=acc.length+j:=by rw[qLR,qCn]
  have cl:(wM [.r (rN L)]).run=some (0,[.r (rN L)]):=by rw[q6z];simp only[STD,qjq,show (L.length:Int)<=17592186044416 by omega]
  rw[q2k];unfold lO;simp only[STD,cl,e2,qGX,qjq,qhd,qEw,e3,r1,show ((nxL L+j:Nat):Int)<l.length by omega,show (L.length:Int)+1<=17592186044416 by omega,
   show ((acc.length+j:Nat):Int)+1<=5864062014805 by omega]) (by
  rw[q2k];simp only[STD,show ¬((nxL L+(l.length-nxL L):Nat):Int)<l.length by omega,qHy])
 have e:=qDD (P:=q7h l) (lO l l.length y13) L (l.length-nxL L) 0;rw[e] at key;have key':(qh qV [.r (rN L),.i ((nxL L+0:Nat):Int),.i y2,.i y3,.i y4,.i y5,.r l,.s [],.s [],.s [],.s [],.i 0,.i (l.length:Int),.i y13,.r y14,.r (lsR (acc++exT L 0))]).run=_:=key;rw[qF2,qMC,qM8] at key';exact key'
theorem qL9 (hs:q9n l){ls:List (List Nat)}{q:Nat}(hq:q<=3)(hls:ls.length<=10000000)(hm:∀L,L∈ls->L.length=q/\∀a,a∈L->a<l.length)(y0 y1 y11:Int) :(qh ji [.i y0,.i y1,.i (ls.length:Int),.i 0,.r l,.s [],.s [],.s [],.s [],.i 0,.i (l.length:Int),.i y11,.r (lsR ls),.r []]).run = some ((((ls.flatMap (exL l.length)).find? (q7h l)).map (lO l l.length y11)).getD (0,[.i y0,.i y1,.r l,.s [],.s [],.s [],.s [],.i 0,.i (l.length:Int),.i y11,.r (lsR (ls.flatMap (exL l.length)))])):=by
 have hn:=hs.1;have step:∀j,j<ls.length->∃L,ls[j]?=some L/\ls.getD j []=L/\(qh qV [.r (rN L),.i (nxL L:Int),.i y0,.i y1,.i (ls.length:Int),.i (j:Int),.r l,.s [],.s [],.s [],.s [],.i 0,.i (l.length:Int),.i y11,.r (lsR ls),.r (lsR ((ls.take j).flatMap (exL l.length)))]).run =
   some ((((exL l.length L).find? (q7h l)).map (lO l l.length y11)).getD (0,[.i y0,.i y1,.i (ls.length:Int),.i (j:Int),.r l,.s [],.s [],.s [],.s [],.i 0,.i (l.length:Int),.i y11,.r (lsR ls),.r (lsR ((ls.take (j+1)).flatMap (exL l.length)))])) /\
   L.length<=3/\nxL L<=64:=fun j hj=>by
  have hl:=qDO hj;obtain⟨h1,h2⟩:=hm _ (qMJ hl);have fl:((ls.take j).flatMap (exL l.length)).length<=1000000000:=by have:=qum (exL l.length) l.length (qE9 l.length) (ls.take j);rw[qMw,qMI (by omega)] at this;have:j*l.length<=10000000*64:=qMk (by omega) hn;omega
  have r0:=qKK hs (L:=ls.getD j []) (by omega) h2 y0 y1 (ls.length:Int) (j:Int) y11 (lsR ls) _ fl;rw[<-qDH (exL l.length) hl] at r0;exact⟨_,hl,rfl,r0,by omega,qLu (qGD h2) hn⟩
 have key:=q4o (S:=ji) (fun j=>[.i y0,.i y1,.i (ls.length:Int),.i (j:Int),.r l,.s [],.s [],.s [],.s [],.i 0,.i (l.length:Int),.i y11,.r (lsR ls),.r (lsR ((ls.take j).flatMap (exL l.length)))])
  (fun j=>((exL l.length (ls.getD j [])).find? (q7h l)).map (lO l l.length y11))
  (0,[.i y0,.i y1,.r l,.s [],.s [],.s [],.s [],.i 0,.i (l.length:Int),.i y11,.r (lsR (ls.flatMap (exL l.length)))]) ls.length (by omega) (fun j hj hf=>by
  obtain⟨L,hl,hg,r0,h3,h4⟩:=step j hj;rw[hg] at hf;rw[hf] at r0;simp only[Option.getD_none] at r0;have w:qC .i64 (j:Int) 1=((j+1:Nat):Int):=kD hj (by omega);rw[q2W];by_cases h0:0<L.length
  ·have w1:yF .i64 (L.length:Int) 1=(L.length:Int)-1:=vV ⟨by omega,by omega⟩;have e:=qCw h0 (by omega) h4;rw[w1] at e;simp only[STD,qhd,qun hl,qjq,w1,e,r0,qT r0,w,show (j:Int)<ls.length by omega,show (0:Int)<=j by omega,show (0:Int)<L.length by omega,show (0:Int)<=(L.length:Int)-1 by omega,show (L.length:Int)-1<L.length by omega,and_self]
  ·have e:L=[]:=qNd (by omega);subst e;have r1:(qh qV [.r (rN []),.i 0,.i y0,.i y1,.i (ls.length:Int),.i (j:Int),.r l,.s [],.s [],.s [],.s [],.i 0,.i (l.length:Int),.i y11,.r (lsR ls),.r (lsR ((ls.take j).flatMap (exL l.length)))]).run=_:=r0;simp only[STD,qhd,qun hl,qjq,r1,qT r1,w,show (j:Int)<ls.length by omega,show (0:Int)<=j by omega,show ¬(0:Int)<(([]:List Nat).length:Int) from by decide,and_self]) (fun j r hj hf=>by
  obtain⟨L,hl,hg,r0,h3,h4⟩:=step j hj;rw[hg] at hf;rw[hf] at r0;simp only[qMv] at r0;obtain⟨L2,hL2,e2⟩:=qNg.1 hf;subst e2;unfold lO at r0 ⊢;rw[q2W];by_cases h0:0<L.length
  ·have w1:yF .i64 (L.length:Int) 1=(L.length:Int)-1:=vV ⟨by omega,by omega⟩;have e:=qCw h0 (by omega) h4;rw[w1] at e;simp only[STD,qhd,qun hl,qjq,w1,e,r0,qT r0,show (j:Int)<ls.length by omega,show (0:Int)<=j by omega,show (0:Int)<L.length by omega,show (0:Int)<=(L.length:Int)-1 by omega,show (L.length:Int)-1<L.length by omega,and_self];rw[if_neg (by decide)]
  ·have e:L=[]:=qNd (by omega);subst e;have r1:(qh qV [.r (rN []),.i 0,.i y0,.i y1,.i (ls.length:Int),.i (j:Int),.r l,.s [],.s [],.s [],.s [],.i 0,.i (l.length:Int),.i y11,.r (lsR ls),.r (lsR ((ls.take j).flatMap (exL l.length)))]).run=_:=r0;simp only[STD,qhd,qun hl,qjq,r1,qT r1,show (j:Int)<ls.length by omega,show (0:Int)<=j by omega,show ¬(0:Int)<(([]:List Nat).length:Int) from by decide,and_self];rw[if_neg (by decide)]) (by
  rw[q2W];simp only[STD,show ¬(ls.length:Int)<ls.length by omega,qML])
 have e:=qvS (P:=q7h l) (lO l l.length y11) (exL l.length) ls [];simp only[qMD,qMA] at e;rw[e] at key;exact key
theorem qHs (hs:q9n l){m:Nat}(hm:m<=4)(h:qhX (q7h l) l.length 1 m=some L) :(q0F [.r l,.i (m:Int)]).run=some (0,[.s (tQ (cO l L).x),.s (tQ (cO l L).y),.s (tQ (cO l L).z),.s (tQ (sO l L)),.r (wO l L),.r (rN L),.i 0]):=by
 have hn:=hs.1;have hms:∀q,∀L,L∈lsN l.length q->L.length=q/\∀a,a∈L->a<l.length:=fun q L hL=>by obtain⟨h1,h2,_⟩:=qry.1 hL;exact⟨h1,h2⟩
 have key:=q4o (S:=jl) (fun q=>[.i (m:Int),.i (q:Int),.r l,.s [],.s [],.s [],.s [],.i 0,.i (l.length:Int),.i (m:Int),.r (lsR (lsN l.length q))])
  (fun q=>((lsN l.length (q+1)).find? (q7h l)).map (lO l l.length m))
  (0,[.r l,.s [],.s [],.s [],.s [],.i 0,.i (l.length:Int),.i (m:Int)]) m (by omega) (fun q hq hf=>by
  have r0:=qL9 hs (q:=q) (by omega) (qCH (k:=q) hn (by omega)) (hms q) (m:Int) (q:Int) (m:Int);have hf':((((lsN l.length q).flatMap (exL l.length)).find? (q7h l)).map (lO l l.length m))=none:=hf;rw[hf'] at r0;simp only[Option.getD_none] at r0;have w:qC .i64 (q:Int) 1=((q+1:Nat):Int):=kD hq (by omega);rw[q2R];simp only[STD,qhd,r0,qT r0,w,show (q:Int)<m by omega];rfl) (fun q r hq hf=>by
  have r0:=qL9 hs (q:=q) (by omega) (qCH (k:=q) hn (by omega)) (hms q) (m:Int) (q:Int) (m:Int);have hf':((((lsN l.length q).flatMap (exL l.length)).find? (q7h l)).map (lO l l.length m))=some r:=hf;rw[hf'] at r0;simp only[qMv] at r0;obtain⟨L2,hL2,e2⟩:=qNg.1 hf';subst e2;unfold lO at r0 ⊢;rw[q2R];simp only[STD,qhd,r0,qT r0,show (q:Int)<m by omega];rw[if_neg (by decide)]) (by
  rw[q2R];simp only[STD,show ¬(m:Int)<m by omega])
 rw[qt9 (P:=q7h l) (lO l l.length m) l.length m 0,h] at key;have key':(qh jl [.i (m:Int),.i 0,.r l,.s [],.s [],.s [],.s [],.i 0,.i (l.length:Int),.i (m:Int),.r [[.l []]]]).run=some (lO l l.length m L):=key;unfold lO at key';have lx:qm l=(l.length:Int):=rfl;rw[qoR];simp only[STD,lx,key',qT key'];rw[if_neg (by decide)]
end Go.Eng

namespace Go.Eng
variable {l:R}
def ptE(x y:Int):Int:=if -100000<=x/\x<=100000/\-100000<=y/\y<=100000 then 0 else 2
def ptA(l:R)(i:Nat):Int:=ptE (cI l i 0) (cI l i 1)
def qBK(l:R):Int:=if 64<qm l then 5 else qcp (ptA l) l.length
theorem qvD (x y:Int):ptE x y=0\/ptE x y=2:=by unfold ptE;split<;>simp
theorem qFM {x y:Int}(h:ptE x y=0):-100000<=x/\x<=100000/\-100000<=y/\y<=100000:=by
 unfold ptE at h;split at h
 ·assumption
 ·omega
theorem qrs (x:Int):(yf [.i x]).run=some (0,[.b (decide (-100000<=x/\x<=100000))]):=by rw[qp3];simp only[STD];by_cases h:-100000<=x<;>simp[h,ile]
theorem qBu (x:Int):(q5V [.i x]).run=some (0,[.b (decide (-100000<=x/\x<=100000))]):=by rw[qyq];simp only[STD];by_cases h:-100000<=x<;>simp[h,ile]
theorem qub (x y:Int):(kC [.i x,.i y]).run=some (0,[.b (decide (ptE x y=0))]):=by rw[qsy];simp only[STD,qrs];unfold ptE;by_cases h:-100000<=x<;>by_cases h2:x<=100000<;>by_cases h3:-100000<=y<;>by_cases h4:y<=100000<;>simp[h,h2,h3,h4]
theorem qtL (x y:Int):(q3P [.i x,.i y]).run=some (0,[.b (decide (ptE x y=0))]):=by rw[qsD];simp only[STD,qBu];unfold ptE;by_cases h:-100000<=x<;>by_cases h2:x<=100000<;>by_cases h3:-100000<=y<;>by_cases h4:y<=100000<;>simp[h,h2,h3,h4]
theorem qx7 (l:R)(hl:l.length<9223372036854775808):(jw [.r l]).run=some (0,[.i (qcp (ptA l) l.length)]):=by
 rw[qf1];have k:=qut (S:=zy) (fun i=>[.r l,.i (qm l),.i (i:Int)]) (ptA l) [] [] l.length hl (fun i hi=>by
  rw[q4L];simp only[STD,qzf hi,qbz,qub,and_self,kD hi hl];show (if ¬ptA l i=0 then _ else _)=_;have:=qvD (cI l i 0) (cI l i 1);by_cases he:ptA l i=0
  ·simp[he]
  ·have:ptA l i=2:=by unfold ptA at *;omega
   simp[this]) (by
  rw[q4L];simp only[STD,qxC])
 by_cases hf:qcp (ptA l) l.length=0
 ·rw[if_pos hf] at k;have k':(qh zy [.r l,.i (qm l),.i 0]).run=_:=k;simp only[STD,k',qT k',hf]
 ·rw[if_neg hf] at k;have k':(qh zy [.r l,.i (qm l),.i 0]).run=_:=k;simp only[STD,k',qT k',show ¬((1:Nat)=0) by decide]
theorem qjP (l:R):(q4y [.r l]).run=some (0,[.i (qBK l)]):=by
 rw[qrh];have e:(wy [.r l]).run=some (0,[.i (qBK l)]):=by
  rw[qbT];unfold qBK;by_cases h:64<qm l
  ·simp only[STD,h]
  ·simp only[STD,h,qx7 l (by unfold qm at h;omega)]
 simp only[STD,e]
theorem qeK (l:R):(q1y [.r l]).run=some (0,[.i (qBK l)]):=by
 rw[qsJ];unfold qBK;by_cases h:64<qm l
 ·simp only[STD,h]
 ·have hl:l.length<9223372036854775808:=by unfold qm at h;omega
  have k:=qut (S:=uH) (fun i=>[.r l,.i (i:Int)]) (ptA l) [] [] l.length hl (fun i hi=>by
   rw[qgG];simp only[STD,qzf hi,qbz,qtL,and_self,kD hi hl];show (if ¬ptA l i=0 then _ else _)=_;have:=qvD (cI l i 0) (cI l i 1);by_cases he:ptA l i=0
   ·simp[he]
   ·have:ptA l i=2:=by unfold ptA at *;omega
    simp[this]) (by
   rw[qgG];simp only[STD,qxC])
  by_cases hf:qcp (ptA l) l.length=0
  ·rw[if_pos hf] at k;have k':(qh uH [.r l,.i 0]).run=_:=k;simp only[STD,k',qT k',hf,h]
  ·rw[if_neg hf] at k;have k':(qh uH [.r l,.i 0]).run=_:=k;simp only[STD,k',qT k',h,show ¬((1:Nat)=0) by decide]
def qxP(l:R):Int:=if qBK l=0 then (if qm l=0 then 13 else 0) else qBK l
theorem qsv (x:Int):(q4h [.i x]).run=some (0,[.i (if x=0 then 13 else 0)]):=by rw[qpE];by_cases h:x=0<;>simp[STD,h]
theorem qsz (l:R):(q4D [.r l]).run=some (0,[.i (qxP l)]):=by
 rw[qpX];unfold qxP;by_cases h:qBK l=0
 ·by_cases h2:qm l=0<;>simp only[STD,qjP,qsv,h,h2]
 ·simp only[STD,qjP,h]
def raR(l:R):R:=(List.range l.length).map fun i:Nat=>[.i (cI l (i:Int) 0),.i (cI l (i:Int) 1),.i 0]
def raN(l:R)(n:Nat):R:=(List.range n).map fun i:Nat=>[.i (cI l (i:Int) 0),.i (cI l (i:Int) 1),.i 0]
theorem qHx (l:R)(n:Nat):qm (raN l n)=(n:Int):=by unfold raN qm;rw[qLF,qMa]
theorem qfh (l:R):(raR l).length=l.length:=by unfold raR;rw[qLF,qMa]
theorem qGc (l:R)(n:Nat):raN l (n+1)=kN (raN l n) [[.i (cI l (n:Int) 0),.i (cI l (n:Int) 1),.i 0]]:=by unfold raN kN;rw[qN5,qM0];rfl
theorem qyx {i:Nat}(h:i<l.length):cI (raR l) (i:Int) 0=cI l (i:Int) 0/\cI (raR l) (i:Int) 1=cI l (i:Int) 1/\cI (raR l) (i:Int) 2=0:=by
 have e:(raR l).getD ((i:Int).toNat) []=[.i (cI l (i:Int) 0),.i (cI l (i:Int) 1),.i 0]:=by unfold raR;rw[qLD,qLr,qLC,qMp h];rfl
 refine⟨?_,?_,?_⟩<;>(conv=>lhs;unfold cI wD)<;>rw[e]<;>rfl
theorem qFu (hl:l.length<=64):(q1Z [.r l]).run=some (0,[.r (raR l)]):=by
 have key:=zu (S:=yp) (fun i=>[.r l,.i (l.length:Int),.i (i:Int),.r (raN l i)]) (0,[.r (raR l)]) l.length (by omega) (fun i hi=>by
  have e3:qm [[U.i (cI l (i:Int) 0),.i (cI l (i:Int) 1),.i 0]]=1:=rfl;have e4:qm l=(l.length:Int):=rfl;rw[qaA];simp only[STD,qHx,qGc,e3,e4,kD hi (show l.length<9223372036854775808 by omega),show (i:Int)<l.length by omega,show (0:Int)<=i by omega,show (i:Int)+1<=5864062014805 by omega,and_self]) (by
  rw[qaA];simp only[STD,show ¬(l.length:Int)<l.length by omega];rfl)
 have key':(qh yp [.r l,.i (qm l),.i 0,.r []]).run=some (0,[.r (raR l)]):=key;rw[qn4];simp only[STD,key']
theorem qvt (h:qBK l=0):l.length<=64/\∀i,i<l.length->co (cI l (i:Int) 0)/\co (cI l (i:Int) 1):=by
 unfold qBK at h;split at h
 ·omega
 ·rename_i h64;unfold qm at h64;refine⟨by omega,fun i hi=>?_⟩;obtain⟨h1,h2,h3,h4⟩:=qFM (qyn h i hi);exact⟨⟨h1,h2⟩,⟨h3,h4⟩⟩
theorem qAw (h:qxP l=0):qBK l=0/\l.length<=64/\0<l.length/\q9n (raR l)/\Mst (raR l) 3:=by
 unfold qxP at h;split at h
 ·rename_i h1;split at h
  ·omega
  ·rename_i h2;unfold qm at h2;obtain⟨q1,q2⟩:=qvt h1;refine⟨h1,q1,by omega,⟨by rw[qfh];exact q1,fun i hi=>?_⟩,.inr ⟨rfl,fun k hk=>?_⟩⟩
   ·rw[qfh] at hi;obtain⟨e1,e2,e3⟩:=qyx hi;obtain⟨k1,k2⟩:=q2 i hi;unfold qHD;rw[e1,e2,e3];exact⟨k1,k2,by unfold co;omega⟩
   ·rw[qfh] at hk;obtain⟨e1,e2,e3⟩:=qyx hk;show ((cI (raR l) (k:Int) 2:Int):Rat)=0;rw[e3];rfl
 ·rename_i h1;exact absurd h h1
end Go.Eng

namespace Go.Eng
variable {l:R}
structure LO (l:R) (m:Nat) (L:List Nat) (n:Nat):Prop where
 first:qhX (q7h l) l.length 1 m=some L
 len:L.length=n+1
 most:n<m
 three:n<=3
 lt:∀a,a∈L->a<l.length
 asc:L.Pairwise (·<·)
 supp:q7h l L=true
 cb:CB (cO l L)
 sup:Sup l.length (pV l) (n+1) (Lf l L) (wts (tO l L) n) (sO l L)
 cen:cO l L=Go.Eng.cen (n+1) (wts (tO l L) n) fun j=>pV l (Lf l L j)
theorem qKH {L:List Nat}{n:Nat}(hL:L.length=n+1)(hlt:∀a,a∈L->a<l.length){j:Nat}(hj:j<n+1):Lf l L j<l.length:=by unfold Lf;rw[qLr,qLz (show j<L.length by omega)];exact hlt _ (qMg _)
theorem qGj (hs:q9n l)(hl:0<l.length){m:Nat}(hm:Mst l m):∃L n,LO l m L n:=by
 obtain⟨L,n,h1,h2,h3,h4,h5,h6,t,ht⟩:=qAO hl hm;have eL:L.length-1=n:=by omega
 have sb:q7h l L=true:=qnU.2 ⟨t,by rw[eL];exact ht⟩;have st:=qDQ sb;rw[eL] at st;have ec:cO l L=cen (n+1) (wts (tO l L) n) fun j=>pV l (Lf l L j):=by unfold cO;rw[eL]
 have su:=qFX st (fun j hj=>qKH h2 h5 hj) (by have:=qFR h6 l.length;rw[h2] at this;exact this);rw[<-ec] at su;exact⟨L,n,h1,h2,h3,h4,h5,h6,sb,(qwt hs h2 h4 h5 sb).1,su,ec⟩
theorem qAY (h0:qxP l=0):∃L n,LO (raR l) 3 L n /\(q1X [.r l]).run=some (0,[.s (tQ (cO (raR l) L).x),.s (tQ (cO (raR l) L).y),.s (tQ (sO (raR l) L)),.r (rN L),.i 0]):=by obtain⟨h1,h2,h3,h4,h5⟩:=qAw h0;obtain⟨L,n,lo⟩:=qGj h4 (by rw[qfh];exact h3) h5;have r1:(q0F [.r (raR l),.i 3]).run=_:=qHs h4 (m:=3) (by omega) lo.first;refine⟨L,n,lo,?_⟩;rw[qnN];simp only[STD,qsz,h0,qFu h2,r1,qf8]
end Go.Eng

namespace Go.Eng
def shN(s:qLp):Prop:=(spn s).length<=30/\(spd s).length<=30
instance (s:qLp):Decidable (shN s):=by unfold shN;infer_instance
def E4:R:=[[.i 0,.i 0],[.i 6,.i 0],[.i 3,.i 1]]
def qLj(a b:Rat):Nat->Rat:=fun j=>if j=0 then a else b
def T2:Nat->Rat:=qLj (17/50) (8/25)
theorem qGF(x:Int):0<=x*x:=by
 rcases Int.le_total 0 x with h|h
 ·exact qNh h h
 ·exact Int.mul_nonneg_of_nonpos_of_nonpos h h
theorem qKO{l:R}{L:List Nat}{j:Nat}(h:j<L.length):Lf l L j=L[j]:=by unfold Lf;rw[qLr,qLz h];rfl
theorem sub_le{S:R}{m m' n n':Nat}{L L' L2:List Nat}(lo:LO S m L n)(hlt:∀a,a∈L'->a<S.length)(lo2:LO (chR S L') m' L2 n'):sO (chR S L') L2<=sO S L:=by have h2:=lo2.sup;rw[qnr,qGG] at h2;exact qFf (f:=Lf S L') (fun i hi=>by rw[qKO hi];exact hlt _ (qMg _)) lo.sup h2
theorem qtu{l:R}{i:Nat}(hi:i<l.length):pV (raR l) i=⟨(cI l i 0:Rat),(cI l i 1:Rat),0⟩:=by obtain⟨e1,e2,e3⟩:=qyx hi;unfold pV;rw[e1,e2,e3];rfl
theorem qHF{a0 a1 b0 b1 w0 w1 x y:Rat}(h1:w0+w1=1)(hx:w0*a0+w1*a1=x)(hy:w0*b0+w1*b1=y)(e:(x-a0)*(x-a0)+(y-b0)*(y-b0)=(x-a1)*(x-a1)+(y-b1)*(y-b1))(ne:¬(a0=a1/\b0=b1)):x*2=a0+a1/\y*2=b0+b1:=by
 have k:(w1-w0)*((a1-a0)*(a1-a0)+(b1-b0)*(b1-b0))=0:=by
  have e0:w0=1-w1:=by grind
  subst e0;subst hx;subst hy;grind
 have n0:(a1-a0)*(a1-a0)+(b1-b0)*(b1-b0)≠0:=fun h=>by
  have s1:=qei (a1-a0);have s2:=qei (b1-b0);have z1:(a1-a0)*(a1-a0)=0:=by grind
  have z2:(b1-b0)*(b1-b0)=0:=by grind
  have y1:a1-a0=0:=by rcases qMT.1 z1 with h|h<;>exact h
  have y2:b1-b0=0:=by rcases qMT.1 z2 with h|h<;>exact h
  exact ne ⟨by grind,by grind⟩
 have hw:w1-w0=0:=by
  rcases qMT.1 k with h|h
  ·exact h
  ·exact absurd h n0
 have e1:w1=1/2:=by grind
 have e0:w0=1/2:=by grind
 subst e1;subst e0;constructor<;>grind
theorem qEB{a0 a1 a2 b0 b1 b2 x y:Rat}(e1:(x-a0)*(x-a0)+(y-b0)*(y-b0)=(x-a1)*(x-a1)+(y-b1)*(y-b1))(e2:(x-a0)*(x-a0)+(y-b0)*(y-b0)=(x-a2)*(x-a2)+(y-b2)*(y-b2)) :x*(2*((a1-a0)*(b2-b0)-(b1-b0)*(a2-a0)))=((a1-a0)*(a1-a0)+(b1-b0)*(b1-b0))*(b2-b0)-((a2-a0)*(a2-a0)+(b2-b0)*(b2-b0))*(b1-b0)+2*((a1-a0)*(b2-b0)-(b1-b0)*(a2-a0))*a0 /\y*(2*((a1-a0)*(b2-b0)-(b1-b0)*(a2-a0)))=((a2-a0)*(a2-a0)+(b2-b0)*(b2-b0))*(a1-a0)-((a1-a0)*(a1-a0)+(b1-b0)*(b1-b0))*(a2-a0)+2*((a1-a0)*(b2-b0)-(b1-b0)*(a2-a0))*b0:=by
 have k1:2*((x-a0)*(a1-a0)+(y-b0)*(b1-b0))=(a1-a0)*(a1-a0)+(b1-b0)*(b1-b0):=by grind
 have k2:2*((x-a0)*(a2-a0)+(y-b0)*(b2-b0))=(a2-a0)*(a2-a0)+(b2-b0)*(b2-b0):=by grind
 obtain⟨p,hp⟩:∃p,p=x-a0:=⟨_,rfl⟩;obtain⟨q,hq⟩:∃q,q=y-b0:=⟨_,rfl⟩;obtain⟨u,hu⟩:∃u,u=a1-a0:=⟨_,rfl⟩;obtain⟨v,hv⟩:∃v,v=b1-b0:=⟨_,rfl⟩;obtain⟨r,hr⟩:∃r,r=a2-a0:=⟨_,rfl⟩;obtain⟨t,ht⟩:∃t,t=b2-b0:=⟨_,rfl⟩;rw[<-hp,<-hq,<-hu,<-hv] at k1;rw[<-hp,<-hq,<-hr,<-ht] at k2;rw[<-hu,<-hv,<-hr,<-ht,show x=p+a0 by grind,show y=q+b0 by grind,<-k1,<-k2];constructor<;>grind
theorem qFk{l:R}{L:List Nat}{n:Nat}(lo:LO (raR l) 3 L n){M:Int}(hM:1<=M)(hK:∀i j,i<l.length->j<l.length->(-M<=cI l (i:Nat) 0-cI l (j:Nat) 0/\cI l (i:Nat) 0-cI l (j:Nat) 0<=M)/\(-M<=cI l (i:Nat) 1-cI l (j:Nat) 1/\cI l (i:Nat) 1-cI l (j:Nat) 1<=M)) :∃D P Q:Int,D≠0/\(-(2*(M*M))<=D/\D<=2*(M*M))/\(cO (raR l) L).x*((2*D:Int):Rat)=(P:Rat)/\(cO (raR l) L).y*((2*D:Int):Rat)=(Q:Rat)/\(cO (raR l) L).z=0:=by
 have MM:1<=M*M:=by have:=Int.mul_le_mul hM hM (by omega) (by omega);omega
 have su:=lo.sup;have hc:=lo.cen;have lt:∀j,j<n+1->Lf (raR l) L j<l.length:=fun j hj=>by have:=su.lt j hj;rwa [qfh] at this
 have pt:∀j,j<n+1->pV (raR l) (Lf (raR l) L j)=⟨(cI l (Lf (raR l) L j:Nat) 0:Rat),(cI l (Lf (raR l) L j:Nat) 1:Rat),0⟩:=fun j hj=>qtu (lt j hj);obtain⟨w,hw⟩:∃w,w=wts (tO (raR l) L) n:=⟨_,rfl⟩;obtain⟨F,hF⟩:∃F:Nat->Nat,F=Lf (raR l) L:=⟨_,rfl⟩;rw[<-hw,<-hF] at su hc;rw[<-hF] at lt pt;obtain⟨c,hC⟩:∃c,c=cO (raR l) L:=⟨_,rfl⟩;rw[<-hC] at hc ⊢;have one:=su.one;have eq:=su.eq;have ind:=su.ind;rw[<-hc] at eq;have cx:c.x=Go.Eng.su (n+1) fun j=>w j*(pV (raR l) (F j)).x:=by rw[hc];rfl
 have cy:c.y=Go.Eng.su (n+1) fun j=>w j*(pV (raR l) (F j)).y:=by rw[hc];rfl
 have cz:c.z=0:=by
  have e:c.z=Go.Eng.su (n+1) fun j=>w j*(pV (raR l) (F j)).z:=by rw[hc];rfl
  rw[e,qo (g:=fun _=>0) (fun j hj=>by rw[pt j hj];grind)];exact q6u _
 rcases (show n=0\/n=1\/n=2 by have:=lo.most;omega) with rfl|rfl|rfl
 ·simp only[Go.Eng.su] at one cx cy;rw[pt 0 (by omega)] at cx cy;refine⟨1,2*cI l (F 0:Nat) 0,2*cI l (F 0:Nat) 1,by omega,by omega,?_,?_,cz⟩
  ·rw[qLK,qLK];simp only[] at cx;grind
  ·rw[qLK,qLK];simp only[] at cy;grind
 ·have q0:=eq 0 (by omega);have q1:=eq 1 (by omega);simp only[Go.Eng.su] at one cx cy;rw[pt 0 (by omega),pt 1 (by omega)] at cx cy;rw[pt 0 (by omega)] at q0;rw[pt 1 (by omega)] at q1;unfold d2 at q0 q1;simp only[] at cx cy q0 q1;have ne:¬((cI l (F 0:Nat) 0:Rat)=(cI l (F 1:Nat) 0:Rat)/\(cI l (F 0:Nat) 1:Rat)=(cI l (F 1:Nat) 1:Rat)):=fun⟨h1,h2⟩=>by have:=ind (fun j=>if j=0 then 1 else -1) (by simp only[Go.Eng.su];grind) (by unfold cen;simp only[Go.Eng.su];rw[pt 0 (by omega),pt 1 (by omega)];simp only[];rw[<-h1,<-h2];simp only[V3.mk.injEq];refine⟨?_,?_,?_⟩<;>grind) 0 (by omega);simp at this
  obtain⟨r1,r2⟩:=qHF (x:=c.x) (y:=c.y) (w0:=w 0) (w1:=w 1) (by grind) (by grind) (by grind) (by grind) ne;refine⟨1,cI l (F 0:Nat) 0+cI l (F 1:Nat) 0,cI l (F 0:Nat) 1+cI l (F 1:Nat) 1,by omega,by omega,?_,?_,cz⟩
  ·rw[qMl,<-r1];rfl
  ·rw[qMl,<-r2];rfl
 ·have q0:=eq 0 (by omega);have q1:=eq 1 (by omega);have q2:=eq 2 (by omega);rw[pt 0 (by omega)] at q0;rw[pt 1 (by omega)] at q1;rw[pt 2 (by omega)] at q2;unfold d2 at q0 q1 q2;simp only[] at q0 q1 q2;obtain⟨r1,r2⟩:=qEB (x:=c.x) (y:=c.y) (a0:=cI l (F 0:Nat) 0) (a1:=cI l (F 1:Nat) 0) (a2:=cI l (F 2:Nat) 0) (b0:=cI l (F 0:Nat) 1) (b1:=cI l (F 1:Nat) 1) (b2:=cI l (F 2:Nat) 1) (by grind) (by grind);obtain⟨D,hD⟩:∃D,D=(cI l (F 1:Nat) 0-cI l (F 0:Nat) 0)*(cI l (F 2:Nat) 1-cI l (F 0:Nat) 1)-(cI l (F 1:Nat) 1-cI l (F 0:Nat) 1)*(cI l (F 2:Nat) 0-cI l (F 0:Nat) 0):=⟨_,rfl⟩;have hb:-(2*(M*M))<=D/\D<=2*(M*M):=by obtain⟨⟨k1,k2⟩,⟨k3,k4⟩⟩:=hK (F 1) (F 0) (lt 1 (by omega)) (lt 0 (by omega));obtain⟨⟨k5,k6⟩,⟨k7,k8⟩⟩:=hK (F 2) (F 0) (lt 2 (by omega)) (lt 0 (by omega));have m1:=qBp k1 k2 k7 k8;have m2:=qBp k3 k4 k5 k6;omega
  have hD':(D:Rat)=((cI l (F 1:Nat) 0:Rat)-(cI l (F 0:Nat) 0:Rat))*((cI l (F 2:Nat) 1:Rat)-(cI l (F 0:Nat) 1:Rat))-((cI l (F 1:Nat) 1:Rat)-(cI l (F 0:Nat) 1:Rat))*((cI l (F 2:Nat) 0:Rat)-(cI l (F 0:Nat) 0:Rat)):=by rw[hD];simp only[qLK,qM9]
  have n0:D≠0:=fun h=>by
   have hz:(D:Rat)=0:=by rw[h];rfl
   have three:∀f0 f1 f2:Rat,f0+f1+f2=0->f0*(cI l (F 0:Nat) 0:Rat)+f1*(cI l (F 1:Nat) 0:Rat)+f2*(cI l (F 2:Nat) 0:Rat)=0->f0*(cI l (F 0:Nat) 1:Rat)+f1*(cI l (F 1:Nat) 1:Rat)+f2*(cI l (F 2:Nat) 1:Rat)=0->f0=0/\f1=0/\f2=0:=fun f0 f1 f2 g1 g2 g3=>by have key:=ind (fun j=>if j=0 then f0 else if j=1 then f1 else f2) (by simp only[Go.Eng.su];grind) (by unfold cen;simp only[Go.Eng.su];rw[pt 0 (by omega),pt 1 (by omega),pt 2 (by omega)];simp only[V3.mk.injEq];refine⟨?_,?_,?_⟩<;>grind);have j0:=key 0 (by omega);have j1:=key 1 (by omega);have j2:=key 2 (by omega);simp at j0 j1 j2;exact⟨j0,j1,j2⟩
   rw[hz] at hD';have z1:=three (-(((cI l (F 2:Nat) 0:Rat)-(cI l (F 0:Nat) 0:Rat))+-((cI l (F 1:Nat) 0:Rat)-(cI l (F 0:Nat) 0:Rat)))) ((cI l (F 2:Nat) 0:Rat)-(cI l (F 0:Nat) 0:Rat)) (-((cI l (F 1:Nat) 0:Rat)-(cI l (F 0:Nat) 0:Rat))) (by grind) (by grind) (by grind);have z2:=three (-(((cI l (F 2:Nat) 1:Rat)-(cI l (F 0:Nat) 1:Rat))+-((cI l (F 1:Nat) 1:Rat)-(cI l (F 0:Nat) 1:Rat)))) ((cI l (F 2:Nat) 1:Rat)-(cI l (F 0:Nat) 1:Rat)) (-((cI l (F 1:Nat) 1:Rat)-(cI l (F 0:Nat) 1:Rat))) (by grind) (by grind) (by grind);have z3:=three (-1) 1 0 (by grind) (by grind) (by grind);exact absurd z3.2.1 (by decide)
  refine⟨D,((cI l (F 1:Nat) 0-cI l (F 0:Nat) 0)*(cI l (F 1:Nat) 0-cI l (F 0:Nat) 0)+(cI l (F 1:Nat) 1-cI l (F 0:Nat) 1)*(cI l (F 1:Nat) 1-cI l (F 0:Nat) 1))*(cI l (F 2:Nat) 1-cI l (F 0:Nat) 1)-((cI l (F 2:Nat) 0-cI l (F 0:Nat) 0)*(cI l (F 2:Nat) 0-cI l (F 0:Nat) 0)+(cI l (F 2:Nat) 1-cI l (F 0:Nat) 1)*(cI l (F 2:Nat) 1-cI l (F 0:Nat) 1))*(cI l (F 1:Nat) 1-cI l (F 0:Nat) 1)+2*D*cI l (F 0:Nat) 0,
   ((cI l (F 2:Nat) 0-cI l (F 0:Nat) 0)*(cI l (F 2:Nat) 0-cI l (F 0:Nat) 0)+(cI l (F 2:Nat) 1-cI l (F 0:Nat) 1)*(cI l (F 2:Nat) 1-cI l (F 0:Nat) 1))*(cI l (F 1:Nat) 0-cI l (F 0:Nat) 0)-((cI l (F 1:Nat) 0-cI l (F 0:Nat) 0)*(cI l (F 1:Nat) 0-cI l (F 0:Nat) 0)+(cI l (F 1:Nat) 1-cI l (F 0:Nat) 1)*(cI l (F 1:Nat) 1-cI l (F 0:Nat) 1))*(cI l (F 2:Nat) 0-cI l (F 0:Nat) 0)+2*D*cI l (F 0:Nat) 1,n0,hb,?_,?_,cz⟩
  ·rw[<-hD'] at r1;have e2:((2:Int):Rat)=2:=rfl;simp only[qLK,qMl,qM9,e2];exact r1
  ·rw[<-hD'] at r2;have e2:((2:Int):Rat)=2:=rfl;simp only[qLK,qMl,qM9,e2];exact r2
theorem qBi{a b:Rat}{N D N' D':Nat}(ha:bnd N D a)(hb:bnd N' D' b)(h1:N+D'<=1023)(h2:N'+D<=1023)(h3:D+D'<=1024):(zp [.s (tQ a),.s (tQ b),.i 0]).run=some (0,[.s (tQ (a+b)),.i 0]):=by
 rw[qnH];have:(v7 [.s (tQ a),.s (tQ b),.i 0]).run=some (0,[.s (tQ (a+b)),.i 0]):=by rw[qc7];simp only[STD,qf0 ha hb h1 h2 h3]
 simp only[STD,this]
theorem quP{a b:Rat}{N D N' D':Nat}(ha:bnd N D a)(hb:bnd N' D' b)(h1:N+D'<=1023)(h2:N'+D<=1023)(h3:D+D'<=1024):(qN [.s (tQ a),.s (tQ b),.i 0]).run=some (0,[.s (tQ (a-b)),.i 0]):=by
 rw[qo1];have:(wU [.s (tQ a),.s (tQ b),.i 0]).run=some (0,[.s (tQ (a-b)),.i 0]):=by rw[qc9];simp only[STD,q7V ha hb h1 h2 h3]
 simp only[STD,this]
theorem quC{a b:Rat}{N D N' D':Nat}(ha:bnd N D a)(hb:bnd N' D' b)(h1:N+N'<=1024)(h2:D+D'<=1024):(qR [.s (tQ a),.s (tQ b),.i 0]).run=some (0,[.s (tQ (a*b)),.i 0]):=by
 rw[qn5];have:(v8 [.s (tQ a),.s (tQ b),.i 0]).run=some (0,[.s (tQ (a*b)),.i 0]):=by rw[qcc];simp only[STD,qfZ ha hb h1 h2]
 simp only[STD,this]
theorem qK6{a b:Rat}{N D N' D':Nat}(h0:b≠0)(ha:bnd N D a)(hb:bnd N' D' b)(h1:N+D'<=1024)(h2:D+N'<=1024):(zQ [.s (tQ a),.s (tQ b),.i 0]).run=some (0,[.s (tQ (a/b)),.i 0]):=by rw[qbY];simp only[STD,qqG h0 ha hb h1 h2]
theorem qE8{ax ay bx by_:Rat}{N D N' D':Nat}(h1:bnd N D ax)(h2:bnd N D ay)(h3:bnd N' D' bx)(h4:bnd N' D' by_)(c1:N+D'<=1023)(c2:N'+D<=1023)(c3:D+D'<=1024) :(wk [.s (tQ ax),.s (tQ ay),.s (tQ bx),.s (tQ by_),.i 0]).run=some (0,[.s (tQ (ax-bx)),.s (tQ (ay-by_)),.i 0]):=by rw[qm8];simp only[STD,quP h1 h3 c1 c2 c3,quP h2 h4 c1 c2 c3]
theorem qEF{ax ay bx by_:Rat}{N D N' D':Nat}(h1:bnd N D ax)(h2:bnd N D ay)(h3:bnd N' D' bx)(h4:bnd N' D' by_)(c1:N+N'+(D+D')<=1023)(c2:D+D'+(D+D')<=1024) :(zL [.s (tQ ax),.s (tQ ay),.s (tQ bx),.s (tQ by_),.i 0]).run=some (0,[.s (tQ (ax*bx+ay*by_)),.i 0]):=by rw[qmQ];simp only[STD,quC h1 h3 (by omega) (by omega),quC h2 h4 (by omega) (by omega),qBi (h1.mul h3) (h2.mul h4) (by omega) (by omega) (by omega)]
theorem qqT{ax ay bx by_:Rat}{N D N' D':Nat}(h1:bnd N D ax)(h2:bnd N D ay)(h3:bnd N' D' bx)(h4:bnd N' D' by_):bnd (N+N'+(D+D')+1) (D+D'+(D+D')) (ax*bx+ay*by_):=(h1.mul h3).add (h2.mul h4) (by omega) (by omega)
def q32(ax ay bx by_:Rat):Rat:=(ax-bx)*(ax-bx)+(ay-by_)*(ay-by_)
theorem q87{a b:Rat}(ha:bnd 12 10 a)(hb:bnd 12 10 b):bnd 23 20 (a-b):=ha.sub hb (by omega) (by omega)
theorem quk{ax ay bx by_:Rat}(h1:bnd 12 10 ax)(h2:bnd 12 10 ay)(h3:bnd 12 10 bx)(h4:bnd 12 10 by_):bnd 87 80 (q32 ax ay bx by_):=qqT (q87 h1 h3) (q87 h2 h4) (q87 h1 h3) (q87 h2 h4)
theorem qJh{ax ay bx by_:Rat}(h1:bnd 12 10 ax)(h2:bnd 12 10 ay)(h3:bnd 12 10 bx)(h4:bnd 12 10 by_) :(yO [.s (tQ ax),.s (tQ ay),.s (tQ bx),.s (tQ by_),.i 0]).run=some (0,[.s (tQ (q32 ax ay bx by_)),.i 0]):=by rw[qnm];have k1:=q87 h1 h3;have k2:=q87 h2 h4;simp only[STD,qE8 h1 h2 h3 h4 (by omega) (by omega) (by omega),qEF k1 k2 k1 k2 (by omega) (by omega)];rfl
structure DQ where
 x:Rat
 y:Rat
 s:Rat
def DQ.sh(d:DQ):Prop:=bnd 12 10 d.x/\bnd 12 10 d.y/\bnd 17 13 d.s
theorem qJK{a b:Rat}(ha:bnd 17 13 a)(hb:bnd 17 13 b):bnd 31 26 (a+b):=ha.add hb (by omega) (by omega)
def qxf(a b:DQ)(k:Rat):Int:=qeX (q32 a.x a.y b.x b.y-(a.s+b.s)) k (a.s*b.s)
theorem qE5{a b c:Rat}(h:RootOk a b c)(hc:0<=c):(wi [.s (tQ a),.s (tQ b),.s (tQ c),.i 0]).run=some (0,[.i (qeX a b c),.i 0]):=by rw[qlJ];simp only[STD,qAk h hc]
theorem qtF(a:Rat):qeX a 0 0=sgq a:=by
 unfold qeX;rw[show sgq 0=0 from rfl,qMH,qMH,if_pos (by omega)];split
 ·rename_i h;rw[h]
 ·rfl
theorem qD8{a b:Rat}{N D N' D':Nat}(ha:bnd N D a)(hb:bnd N' D' b)(c1:N+D'+1<=500)(c2:N'+D+1<=500)(c3:D+D'<=300):(jh [.s (tQ a),.s (tQ b),.i 0]).run=some (0,[.i (sgq (a-b)),.i 0]):=by rw[qkv];have k:bnd 500 (D+D') (a-b):=ha.sub hb (by omega) (by omega);have hr:=qE5 (a:=a-b) (b:=0) (c:=0) (RootOk.of k q0q q0q (by omega) (by omega)) (by decide);rw[qtF,show tQ 0=[48] from rfl] at hr;simp only[STD,quP ha hb (by omega) (by omega) (by omega),hr]
theorem qJ0{a b:Rat}(ha:0<=a)(hb:0<=b):0<=a*b:=qLJ ha hb
theorem qGZ{a b:DQ}(ha:a.sh)(hb:b.sh)(na:0<=a.s)(nb:0<=b.s){k:Rat}(hk:bnd 1 1 k) :(jA [.s (tQ a.x),.s (tQ a.y),.s (tQ a.s),.s (tQ b.x),.s (tQ b.y),.s (tQ b.s),.s (tQ k),.i 0]).run=some (0,[.i (qxf a b k),.i 0]):=by rw[qly];obtain⟨a1,a2,a3⟩:=ha;obtain⟨b1,b2,b3⟩:=hb;have f1:=quk a1 a2 b1 b2;have f2:=qJK a3 b3;have f3:bnd 114 106 (q32 a.x a.y b.x b.y-(a.s+b.s)):=f1.sub f2 (by omega) (by omega);have f4:bnd 34 26 (a.s*b.s):=a3.mul b3;have hr:=qE5 (RootOk.of f3 hk f4 (by omega) (by omega)) (qJ0 na nb);simp only[STD,qJh a1 a2 b1 b2,qBi a3 b3 (by omega) (by omega) (by omega),quP f1 f2 (by omega) (by omega) (by omega),quC a3 b3 (by omega) (by omega),hr];rfl
theorem qCZ:tQ 2=[50]:=qFg 2
theorem qHS:tQ (-2)=[45,50]:=by
 have:(-2:Rat)=((-2:Int):Rat):=by simp
 rw[this,qtT];rfl
def qip(a b:DQ):Prop:=a.s<=b.s/\qxf a b 2<=0
instance (a b:DQ):Decidable (qip a b):=by unfold qip;infer_instance
theorem qiL(a b:Rat):(sgq (a-b)<=0)=(a<=b):=by rw[qiK];exact propext ⟨fun h=>by grind,fun h=>by grind⟩
theorem qAc{a b:DQ}(ha:a.sh)(hb:b.sh)(na:0<=a.s)(nb:0<=b.s) :(jC [.s (tQ a.x),.s (tQ a.y),.s (tQ a.s),.s (tQ b.x),.s (tQ b.y),.s (tQ b.s),.i 0]).run=some (0,[.b (decide (qip a b)),.i 0]):=by
 rw[qj6];have h1:=qD8 ha.2.2 hb.2.2 (by omega) (by omega) (by omega);have h2:=qGZ ha hb na nb qrH;rw[qCZ] at h2;unfold qip;by_cases c:a.s<=b.s
 ·have e:(ile (qxf a b 2) 0)=decide (qxf a b 2<=0):=rfl;simp only[STD,h1,qiL,c,h2,true_and,e]
 ·simp only[STD,h1,qiL,c,false_and];rfl
def qHJ(a b:DQ):Int:=if qip a b then 2 else if qip b a then 3 else -qxf a b (-2)
theorem qFl(a b c:Rat):-1<=qeX a b c/\qeX a b c<=1:=by
 have h1:=qhZ a;have h2:=qJ1 (qhZ b) (qhZ c);have h3:=qJ1 h1 (qhZ (a*a-b*b*c));unfold qeX;split
 ·split
  ·exact h2
  ·exact h1
 ·exact h3
theorem qGq(a b:DQ)(k:Rat):-1<=qxf a b k/\qxf a b k<=1:=qFl _ _ _
def shT(s:qLp):Prop:=s.length<=12
noncomputable def qHj(x y s:qLp):Int:=if qr1 x≠0 then qr1 x else if qr1 y≠0 then qr1 y else if qr1 s≠0 then qr1 s else if s.getD 0 0=45 then 2 else 0
theorem qKy{S:List PV->TR}{st:Nat->List PV}{e0 e1 e2:Int}{fin:List PV}(h0:(S (st 0)).run=if e0=0 then some (0,st 1) else some (2,[.i e0])) (h1:(S (st 1)).run=if e1=0 then some (0,st 2) else some (2,[.i e1])) (h2:(S (st 2)).run=if e2=0 then some (0,st 3) else some (2,[.i e2]))(h3:(S (st 3)).run=some (1,fin)):(qh S (st 0)).run=some (if e0≠0 then (1,[.i e0]) else if e1≠0 then (1,[.i e1]) else if e2≠0 then (1,[.i e2]) else (0,fin)):=by
 have hr:∃m,qhJ=m+4:=⟨qhJ-4,by unfold qhJ;omega⟩;obtain⟨m,hm⟩:=hr;unfold qh;rw[hm];by_cases c0:e0=0
 ·rw[if_pos c0] at h0;rw[qit h0];by_cases c1:e1=0
  ·rw[if_pos c1] at h1;rw[qit h1];by_cases c2:e2=0
   ·rw[if_pos c2] at h2;rw[qit h2,q8z h3];simp[c0,c1,c2]
   ·rw[if_neg c2] at h2;rw[q8z h2];simp[c0,c1,c2]
  ·rw[if_neg c1] at h1;rw[q8z h1];simp[c0,c1]
 ·rw[if_neg c0] at h0;rw[q8z h0];simp[c0]
theorem q9E(x y s:qLp)(h1:x.length<=1000000)(h2:y.length<=1000000)(h3:s.length<=1000000):(jM [.s x,.s y,.s s]).run=some (0,[.i (qHj x y s)]):=by
  rw[qrS];have c0:=qa5 x (by omega);have c1:=qa5 y (by omega);have c2:=qa5 s (by omega);have d0:cS [[.s x],[.s y],[.s s]] 0 0=x:=rfl;have d1:cS [[.s x],[.s y],[.s s]] 1 0=y:=rfl;have d2:cS [[.s x],[.s y],[.s s]] 2 0=s:=rfl;have d3:qm [[U.s x],[U.s y],[U.s s]]=3:=rfl;have w0:qC .i64 0 1=1:=by decide
  have w1:qC .i64 1 1=2:=by decide
  have w2:qC .i64 2 1=3:=by decide
  have key:=qKy (S:=q38) (st:=fun i=>[.i 3,.i (i:Int),.s x,.s y,.s s,.r [[.s x],[.s y],[.s s]]]) (e0:=qr1 x) (e1:=qr1 y) (e2:=qr1 s) (fin:=[.s x,.s y,.s s])
    (by rw [q55]; simp only [show (((0 : Nat)) : Int) = 0 from rfl, show (((1 : Nat)) : Int) = 1 from rfl, d0, d3]
        by_cases c:qr1 x=0
        · simp only[STD,c0,c,w0,show (0:Int)<3 by omega,qLG,and_self]
        · simp only[STD,c0,c,show (0:Int)<3 by omega,qLG,and_self])
    (by rw [q55]; simp only [show (((1 : Nat)) : Int) = 1 from rfl, show (((2 : Nat)) : Int) = 2 from rfl, d1, d3]
        by_cases c:qr1 y=0
        · simp only[STD,c1,c,w1,show (1:Int)<3 by omega,show (0:Int)<=1 by omega,and_self]
        · simp only[STD,c1,c,show (1:Int)<3 by omega,show (0:Int)<=1 by omega,and_self])
    (by rw [q55]; simp only [show (((2 : Nat)) : Int) = 2 from rfl, show (((3 : Nat)) : Int) = 3 from rfl, d2, d3]
        by_cases c:qr1 s=0
        · simp only[STD,c2,c,w2,show (2:Int)<3 by omega,show (0:Int)<=2 by omega,and_self]
        · simp only[STD,c2,c,show (2:Int)<3 by omega,show (0:Int)<=2 by omega,and_self])
    (by rw[q55];simp only[show (((3:Nat)):Int)=3 from rfl];simp only[STD,show ¬(3:Int)<3 by omega])
  simp only[show (((0:Nat)):Int)=0 from rfl] at key;unfold qHj;rw[d3];by_cases e0:qr1 x=0
  · by_cases e1:qr1 y=0
    · by_cases e2:qr1 s=0
      · simp only[e0,e1,e2,ne_eq,not_true,if_false] at key ⊢
        obtain⟨q,hq,_⟩:=qIb e2;have hl:(0:Int)<qw s:=by have h1:=qr5 q;have h2:=qlj q;rw[hq];unfold qw;omega
        by_cases hm:s.getD 0 0=45
        · simp only[STD,key,qT key,qLG,hl,and_self,ql7,hm]
        · simp only[STD,key,qT key,qLG,hl,and_self,ql7,hm]
      · simp only[e0,e1,e2,ne_eq,not_true,not_false_eq_true,if_false,if_true] at key ⊢
        simp only[STD,key,qT key,show ¬(1=0) by omega]
    · simp only[e0,e1,ne_eq,not_true,not_false_eq_true,if_false,if_true] at key ⊢
      simp only[STD,key,qT key,show ¬(1=0) by omega]
  · simp only[e0,ne_eq,not_false_eq_true,if_true] at key ⊢
    simp only[STD,key,qT key,show ¬(1=0) by omega]
theorem qHg{d:DQ}(h1:okQ d.x)(h2:okQ d.y)(h3:okQ d.s)(h:0<=d.s):qHj (tQ d.x) (tQ d.y) (tQ d.s)=0:=by unfold qHj;rw[qqj h1,qqj h2,qqj h3];have:=qIq h;rw[if_neg (by simp),if_neg (by simp),if_neg (by simp),if_neg this]
def Bd(C e:Nat)(x:Int):Prop:=x.natAbs<=C*10^e
theorem Bd.mul{C e C' e':Nat}{x y:Int}(h:Bd C e x)(h':Bd C' e' y):Bd (C*C') (e+e') (x*y):=by
 unfold Bd at *;rw[qMG,Nat.pow_add];have:=qMk h h';have e1:C*10^e*(C'*10^e')=C*C'*(10^e*10^e'):=by rw[Nat.mul_mul_mul_comm]
 omega
theorem Bd.mono{C e C' e':Nat}{x:Int}(h:Bd C e x)(hC:C<=C')(he:e<=e'):Bd C' e' x:=by unfold Bd at *;exact qLu h (qMk hC (qN1 (by omega) he))
theorem Bd.add{C C' e:Nat}{x y:Int}(h:Bd C e x)(h':Bd C' e y):Bd (C+C') e (x+y):=by unfold Bd at *;rw[qLH];have:=Int.natAbs_add_le x y;omega
theorem Bd.neg{C e:Nat}{x:Int}(h:Bd C e x):Bd C e (-x):=by unfold Bd at *;rw[Int.natAbs_neg];exact h
theorem Bd.sub{C C' e:Nat}{x y:Int}(h:Bd C e x)(h':Bd C' e y):Bd (C+C') e (x-y):=by rw[Int.sub_eq_add_neg];exact h.add h'.neg
theorem Bd.okL{C e k:Nat}{x:Int}(h:Bd C e x)(hC:C<=10^k)(he:k+e<=1023)(hne:0<e+k):okL x:=by unfold Go.Eng.okL nl;unfold Bd at h;have h1:C*10^e<=10^k*10^e:=qLT _ hC;rw[<-Nat.pow_add] at h1;have h2:(10:Nat)^(k+e)<10^(k+e+1):=Nat.pow_lt_pow_right (by omega) (by omega);have:=q21 (k+e) x.natAbs (by omega);omega
structure WtD (h v:Nat) (q:Rat):Prop where
 n:Bd 1 h q.num
 d:Bd 1 v (q.den:Int)
 dh:Bd 1 h (q.den:Int)
theorem qpj{q:Rat}{P M:Int}(hM:M≠0)(h:q*(M:Rat)=(P:Rat)):q.num.natAbs<=P.natAbs/\q.den<=M.natAbs:=by
 have hM':(M:Rat)≠0:=by intro e;exact hM (Rat.intCast_inj.1 (e.trans (by simp)))
 have e:q=Rat.divInt P M:=by rw[Rat.divInt_eq_div,<-h];exact(Rat.mul_div_cancel hM').symm
 rw[e];constructor
 ·rw[Rat.num_divInt];refine qLu (qNr _ _) ?_;rw[qMG,qNN hM];omega
 ·rw[Rat.den_divInt,if_neg hM];exact qNi _ _
structure SQ where
 fx:Rat
 fy:Rat
 ax:Rat
 ay:Rat
 h:Rat
def qt(a b:DQ)(neg:Bool):SQ:=
 let dx:=b.x-a.x
 let dy:=b.y-a.y
 let far:=dx*dx+dy*dy
 let t:=(far+a.s-b.s)/(2*far)
 ⟨a.x+t*dx,a.y+t*dy,if neg then dy else 0-dy,if neg then 0-dx else dx,a.s/far-t*t⟩
def kA(d:DQ)(p:SQ):Rat:=(p.fx-d.x)*(p.fx-d.x)+(p.fy-d.y)*(p.fy-d.y)+p.h*(p.ax*p.ax+p.ay*p.ay)-d.s
def kB(d:DQ)(p:SQ):Rat:=2*((p.fx-d.x)*p.ax+(p.fy-d.y)*p.ay)
def q1T(d:DQ)(p:SQ):Prop:=qeX (kA d p) (kB d p) p.h<=0
instance (d:DQ) (p:SQ):Decidable (q1T d p):=by unfold q1T;infer_instance
section
variable (a1 p1 b1 q1 c1 r1 a2 p2 b2 q2 c2 r2 a3 p3 b3 q3 c3 r3:Int)
def iU:Int:=a2*p1-a1*p2
def iN:Int:=iU a1 p1 a2 p2*iU a1 p1 a2 p2*((q1*q2)*(q1*q2))+iU b1 q1 b2 q2*iU b1 q1 b2 q2*((p1*p2)*(p1*p2))
def iD:Int:=(p1*p2*(q1*q2))*(p1*p2*(q1*q2))
def iT:Int:=iN a1 p1 b1 q1 a2 p2 b2 q2*(r1*r2)+(c1*r2-c2*r1)*iD p1 q1 p2 q2
def iE:Int:=a1*p3-a3*p1
def iG:Int:=iE a1 p1 a3 p3*iE a1 p1 a3 p3*((q1*q3)*(q1*q3))+iE b1 q1 b3 q3*iE b1 q1 b3 q3*((p1*p3)*(p1*p3))
def iH:Int:=iE a1 p1 a3 p3*iU a1 p1 a2 p2*((q1*q1)*(q2*q3))+iE b1 q1 b3 q3*iU b1 q1 b2 q2*((p1*p1)*(p2*p3))
def iSq:Int:=((p1*q1)*(p3*q3))*((p1*q1)*(p3*q3))
def iA:Int:=iG a1 p1 b1 q1 a3 p3 b3 q3*iN a1 p1 b1 q1 a2 p2 b2 q2*(r1*r2*r3)*(p2*q2)+iT a1 p1 b1 q1 c1 r1 a2 p2 b2 q2 c2 r2*iH a1 p1 b1 q1 a2 p2 b2 q2 a3 p3 b3 q3*r3*(p3*q3)
 + c1*iN a1 p1 b1 q1 a2 p2 b2 q2*(r2*r3)*iSq p1 q1 p3 q3*(p2*q2)-c3*iN a1 p1 b1 q1 a2 p2 b2 q2*(r1*r2)*iSq p1 q1 p3 q3*(p2*q2)
def iM:Int:=iN a1 p1 b1 q1 a2 p2 b2 q2*(r1*r2*r3)*iSq p1 q1 p3 q3*(p2*q2)
def iK:Int:=2*(iE b1 q1 b3 q3*iU a1 p1 a2 p2*(p3*q2)-iE a1 p1 a3 p3*iU b1 q1 b2 q2*(q3*p2))
def iQ:Int:=(p1*p2*p3)*(q1*q2*q3)
def iCn:Int:=4*(c1*iD p1 q1 p2 q2*iN a1 p1 b1 q1 a2 p2 b2 q2*r1*(r2*r2))-iT a1 p1 b1 q1 c1 r1 a2 p2 b2 q2 c2 r2*iT a1 p1 b1 q1 c1 r1 a2 p2 b2 q2 c2 r2
def iCd:Int:=4*(iN a1 p1 b1 q1 a2 p2 b2 q2*iN a1 p1 b1 q1 a2 p2 b2 q2)*((r1*r2)*(r1*r2))
end
section
variable {a1 p1 b1 q1 c1 r1 a2 p2 b2 q2 c2 r2 a3 p3 b3 q3 c3 r3:Int} {hx1 hy1 hs1 hx2 hy2 hs2 hx3 hy3 hs3 vx1 vy1 vs1 vx2 vy2 vs2 vx3 vy3 vs3:Nat}
theorem bU(h1:Bd 1 hx1 a1)(h2:Bd 1 hx1 p1)(h3:Bd 1 hx2 a2)(h4:Bd 1 hx2 p2):Bd 2 (hx1+hx2) (iU a1 p1 a2 p2):=((h3.mul h2).mono (qLs _) (by omega)).sub (h1.mul h4)
theorem bE(h1:Bd 1 hx1 a1)(h2:Bd 1 hx1 p1)(h3:Bd 1 hx3 a3)(h4:Bd 1 hx3 p3):Bd 2 (hx1+hx3) (iE a1 p1 a3 p3):=(h1.mul h4).sub ((h3.mul h2).mono (qLs _) (by omega))
theorem bN(x1:Bd 1 hx1 a1)(x1':Bd 1 hx1 p1)(y1:Bd 1 hy1 b1)(y1':Bd 1 hy1 q1)(x2:Bd 1 hx2 a2)(x2':Bd 1 hx2 p2)(y2:Bd 1 hy2 b2)(y2':Bd 1 hy2 q2) :Bd 8 (2*(hx1+hx2+hy1+hy2)) (iN a1 p1 b1 q1 a2 p2 b2 q2):=by have u:=bU x1 x1' x2 x2';have v:=bU y1 y1' y2 y2';have qq:=y1'.mul y2';have pp:=x1'.mul x2';exact(((u.mul u).mul (qq.mul qq)).mono (C':=4) (by omega) (by omega)).add (((v.mul v).mul (pp.mul pp)).mono (C':=4) (by omega) (by omega))
theorem bD(x1':Bd 1 hx1 p1)(y1':Bd 1 hy1 q1)(x2':Bd 1 hx2 p2)(y2':Bd 1 hy2 q2):Bd 1 (2*(hx1+hx2+hy1+hy2)) (iD p1 q1 p2 q2):=by have z:=(x1'.mul x2').mul (y1'.mul y2');exact(z.mul z).mono (by omega) (by omega)
theorem bT(x1:Bd 1 hx1 a1)(x1':Bd 1 hx1 p1)(y1:Bd 1 hy1 b1)(y1':Bd 1 hy1 q1)(x2:Bd 1 hx2 a2)(x2':Bd 1 hx2 p2)(y2:Bd 1 hy2 b2)(y2':Bd 1 hy2 q2)(s1:Bd 1 hs1 c1) (s1':Bd 1 hs1 r1) (s2:Bd 1 hs2 c2) (s2':Bd 1 hs2 r2):Bd 10 (2*(hx1+hx2+hy1+hy2)+hs1+hs2) (iT a1 p1 b1 q1 c1 r1 a2 p2 b2 q2 c2 r2):=by have n:=bN x1 x1' y1 y1' x2 x2' y2 y2';have d:=bD x1' y1' x2' y2';have s:=(s1.mul s2').sub ((s2.mul s1').mono (qLs _) (by omega));exact((n.mul (s1'.mul s2')).mono (C':=8) (by omega) (by omega)).add ((s.mul d).mono (C':=2) (by omega) (by omega))
theorem bG(x1:Bd 1 hx1 a1)(x1':Bd 1 hx1 p1)(y1:Bd 1 hy1 b1)(y1':Bd 1 hy1 q1)(x3:Bd 1 hx3 a3)(x3':Bd 1 hx3 p3)(y3:Bd 1 hy3 b3)(y3':Bd 1 hy3 q3) :Bd 8 (2*(hx1+hx3+hy1+hy3)) (iG a1 p1 b1 q1 a3 p3 b3 q3):=by have u:=bE x1 x1' x3 x3';have v:=bE y1 y1' y3 y3';have qq:=y1'.mul y3';have pp:=x1'.mul x3';exact(((u.mul u).mul (qq.mul qq)).mono (C':=4) (by omega) (by omega)).add (((v.mul v).mul (pp.mul pp)).mono (C':=4) (by omega) (by omega))
theorem bH(x1:Bd 1 hx1 a1)(x1':Bd 1 hx1 p1)(y1:Bd 1 hy1 b1)(y1':Bd 1 hy1 q1)(x2:Bd 1 hx2 a2)(x2':Bd 1 hx2 p2)(y2:Bd 1 hy2 b2)(y2':Bd 1 hy2 q2)(x3:Bd 1 hx3 a3) (x3':Bd 1 hx3 p3) (y3:Bd 1 hy3 b3) (y3':Bd 1 hy3 q3):Bd 8 (2*hx1+hx2+hx3+2*hy1+hy2+hy3) (iH a1 p1 b1 q1 a2 p2 b2 q2 a3 p3 b3 q3):=by have u:=bU x1 x1' x2 x2';have v:=bU y1 y1' y2 y2';have e:=bE x1 x1' x3 x3';have f:=bE y1 y1' y3 y3';exact(((e.mul u).mul ((y1'.mul y1').mul (y2'.mul y3'))).mono (C':=4) (by omega) (by omega)).add (((f.mul v).mul ((x1'.mul x1').mul (x2'.mul x3'))).mono (C':=4) (by omega) (by omega))
theorem bSq(x1':Bd 1 hx1 p1)(y1':Bd 1 hy1 q1)(x3':Bd 1 hx3 p3)(y3':Bd 1 hy3 q3):Bd 1 (2*(hx1+hx3+hy1+hy3)) (iSq p1 q1 p3 q3):=by have z:=(x1'.mul y1').mul (x3'.mul y3');exact(z.mul z).mono (by omega) (by omega)
theorem bA(x1:Bd 1 hx1 a1)(x1':Bd 1 hx1 p1)(y1:Bd 1 hy1 b1)(y1':Bd 1 hy1 q1)(x2:Bd 1 hx2 a2)(x2':Bd 1 hx2 p2)(y2:Bd 1 hy2 b2)(y2':Bd 1 hy2 q2)(x3:Bd 1 hx3 a3) (x3':Bd 1 hx3 p3) (y3:Bd 1 hy3 b3) (y3':Bd 1 hy3 q3) (s1:Bd 1 hs1 c1) (s1':Bd 1 hs1 r1) (s2:Bd 1 hs2 c2) (s2':Bd 1 hs2 r2) (s3:Bd 1 hs3 c3) (s3':Bd 1 hs3 r3) :Bd 160 (4*hx1+3*hx2+2*hx3+4*hy1+3*hy2+2*hy3+hs1+hs2+hs3) (iA a1 p1 b1 q1 c1 r1 a2 p2 b2 q2 c2 r2 a3 p3 b3 q3 c3 r3):=by have g:=bG x1 x1' y1 y1' x3 x3' y3 y3';have n:=bN x1 x1' y1 y1' x2 x2' y2 y2';have t:=bT x1 x1' y1 y1' x2 x2' y2 y2' s1 s1' s2 s2';have h:=bH x1 x1' y1 y1' x2 x2' y2 y2' x3 x3' y3 y3';have sq:=bSq x1' y1' x3' y3';have k1:=(((g.mul n).mul ((s1'.mul s2').mul s3')).mul (x2'.mul y2')).mono (C':=64) (e':=4*hx1+3*hx2+2*hx3+4*hy1+3*hy2+2*hy3+hs1+hs2+hs3) (by omega) (by omega);have k2:=(((t.mul h).mul s3').mul (x3'.mul y3')).mono (C':=80) (e':=4*hx1+3*hx2+2*hx3+4*hy1+3*hy2+2*hy3+hs1+hs2+hs3) (by omega) (by omega);have k3:=((((s1.mul n).mul (s2'.mul s3')).mul sq).mul (x2'.mul y2')).mono (C':=8) (e':=4*hx1+3*hx2+2*hx3+4*hy1+3*hy2+2*hy3+hs1+hs2+hs3) (by omega) (by omega);have k4:=((((s3.mul n).mul (s1'.mul s2')).mul sq).mul (x2'.mul y2')).mono (C':=8) (e':=4*hx1+3*hx2+2*hx3+4*hy1+3*hy2+2*hy3+hs1+hs2+hs3) (by omega) (by omega);exact((k1.add k2).add k3).sub k4
theorem bM(x1:Bd 1 hx1 a1)(x1':Bd 1 hx1 p1)(y1:Bd 1 hy1 b1)(y1':Bd 1 hy1 q1)(x2:Bd 1 hx2 a2)(x2':Bd 1 hx2 p2)(y2:Bd 1 hy2 b2)(y2':Bd 1 hy2 q2)(wx1:Bd 1 vx1 p1) (wy1:Bd 1 vy1 q1) (wx2:Bd 1 vx2 p2) (wy2:Bd 1 vy2 q2) (wx3:Bd 1 vx3 p3) (wy3:Bd 1 vy3 q3) (ws1:Bd 1 vs1 r1) (ws2:Bd 1 vs2 r2) (ws3:Bd 1 vs3 r3) :Bd 8 (2*(hx1+hx2+hy1+hy2)+(vs1+vs2+vs3)+2*(vx1+vx3+vy1+vy3)+(vx2+vy2)) (iM a1 p1 b1 q1 r1 a2 p2 b2 q2 r2 p3 q3 r3):=by have n:=bN x1 x1' y1 y1' x2 x2' y2 y2';have sq:=bSq wx1 wy1 wx3 wy3;exact(((n.mul ((ws1.mul ws2).mul ws3)).mul sq).mul (wx2.mul wy2)).mono (by omega) (by omega)
theorem bK(x1:Bd 1 hx1 a1)(x1':Bd 1 hx1 p1)(y1:Bd 1 hy1 b1)(y1':Bd 1 hy1 q1)(x2:Bd 1 hx2 a2)(x2':Bd 1 hx2 p2)(y2:Bd 1 hy2 b2)(y2':Bd 1 hy2 q2)(x3:Bd 1 hx3 a3) (x3':Bd 1 hx3 p3) (y3:Bd 1 hy3 b3) (y3':Bd 1 hy3 q3):Bd 16 (hx1+hx2+hx3+hy1+hy2+hy3) (iK a1 p1 b1 q1 a2 p2 b2 q2 a3 p3 b3 q3):=by
 have u:=bU x1 x1' x2 x2';have v:=bU y1 y1' y2 y2';have e:=bE x1 x1' x3 x3';have f:=bE y1 y1' y3 y3';have two:Bd 2 0 2:=by unfold Bd;decide
 have k1:=((f.mul u).mul (x3'.mul y2')).mono (C':=4) (e':=hx1+hx2+hx3+hy1+hy2+hy3) (by omega) (by omega);have k2:=((e.mul v).mul (y3'.mul x2')).mono (C':=4) (e':=hx1+hx2+hx3+hy1+hy2+hy3) (by omega) (by omega);exact(two.mul (k1.sub k2)).mono (by omega) (by omega)
theorem bQ(wx1:Bd 1 vx1 p1)(wy1:Bd 1 vy1 q1)(wx2:Bd 1 vx2 p2)(wy2:Bd 1 vy2 q2)(wx3:Bd 1 vx3 p3)(wy3:Bd 1 vy3 q3):Bd 1 (vx1+vx2+vx3+(vy1+vy2+vy3)) (iQ p1 q1 p2 q2 p3 q3):=(((wx1.mul wx2).mul wx3).mul ((wy1.mul wy2).mul wy3)).mono (by omega) (by omega)
theorem bCn(x1:Bd 1 hx1 a1)(x1':Bd 1 hx1 p1)(y1:Bd 1 hy1 b1)(y1':Bd 1 hy1 q1)(x2:Bd 1 hx2 a2)(x2':Bd 1 hx2 p2)(y2:Bd 1 hy2 b2)(y2':Bd 1 hy2 q2)(s1:Bd 1 hs1 c1) (s1':Bd 1 hs1 r1) (s2:Bd 1 hs2 c2) (s2':Bd 1 hs2 r2):Bd 132 (4*(hx1+hx2+hy1+hy2)+2*hs1+2*hs2) (iCn a1 p1 b1 q1 c1 r1 a2 p2 b2 q2 c2 r2):=by
 have n:=bN x1 x1' y1 y1' x2 x2' y2 y2';have d:=bD x1' y1' x2' y2';have t:=bT x1 x1' y1 y1' x2 x2' y2 y2' s1 s1' s2 s2';have four:Bd 4 0 4:=by unfold Bd;decide
 have k1:=(four.mul ((((s1.mul d).mul n).mul s1').mul (s2'.mul s2'))).mono (C':=32) (e':=4*(hx1+hx2+hy1+hy2)+2*hs1+2*hs2) (by omega) (by omega);have k2:=(t.mul t).mono (C':=100) (e':=4*(hx1+hx2+hy1+hy2)+2*hs1+2*hs2) (by omega) (by omega);exact k1.sub k2
theorem bCd(x1:Bd 1 hx1 a1)(x1':Bd 1 hx1 p1)(y1:Bd 1 hy1 b1)(y1':Bd 1 hy1 q1)(x2:Bd 1 hx2 a2)(x2':Bd 1 hx2 p2)(y2:Bd 1 hy2 b2)(y2':Bd 1 hy2 q2)(ws1:Bd 1 vs1 r1) (ws2:Bd 1 vs2 r2):Bd 256 (4*(hx1+hx2+hy1+hy2)+2*vs1+2*vs2) (iCd a1 p1 b1 q1 r1 a2 p2 b2 q2 r2):=by
 have n:=bN x1 x1' y1 y1' x2 x2' y2 y2';have four:Bd 4 0 4:=by unfold Bd;decide
 exact((four.mul (n.mul n)).mul ((ws1.mul ws2).mul (ws1.mul ws2))).mono (by omega) (by omega)
end
section
variable (a b d:DQ)
theorem qzN(q:Rat):(q.den:Rat)≠0:=by have:=q3U q;grind
theorem qy0(neg:Bool)(hf:(b.x-a.x)*(b.x-a.x)+(b.y-a.y)*(b.y-a.y)≠0) :kA d (qt a b neg)*((iM a.x.num a.x.den a.y.num a.y.den a.s.den b.x.num b.x.den b.y.num b.y.den b.s.den d.x.den d.y.den d.s.den:Int):Rat)=((iA a.x.num a.x.den a.y.num a.y.den a.s.num a.s.den b.x.num b.x.den b.y.num b.y.den b.s.num b.s.den d.x.num d.x.den d.y.num d.y.den d.s.num d.s.den:Int):Rat) /\kB d (qt a b neg)*((iQ a.x.den a.y.den b.x.den b.y.den d.x.den d.y.den:Int):Rat)=(((if neg then -1 else 1)*iK a.x.num a.x.den a.y.num a.y.den b.x.num b.x.den b.y.num b.y.den d.x.num d.x.den d.y.num d.y.den:Int):Rat) /\(qt a b neg).h*((iCd a.x.num a.x.den a.y.num a.y.den a.s.den b.x.num b.x.den b.y.num b.y.den b.s.den:Int):Rat)=((iCn a.x.num a.x.den a.y.num a.y.den a.s.num a.s.den b.x.num b.x.den b.y.num b.y.den b.s.num b.s.den:Int):Rat) /\iN a.x.num a.x.den a.y.num a.y.den b.x.num b.x.den b.y.num b.y.den≠0:=by
 obtain⟨far,hfar⟩:∃far,far=(b.x-a.x)*(b.x-a.x)+(b.y-a.y)*(b.y-a.y):=⟨_,rfl⟩;obtain⟨t,ht⟩:∃t,t=(far+a.s-b.s)/(2*far):=⟨_,rfl⟩;obtain⟨h,hh⟩:∃h,h=a.s/far-t*t:=⟨_,rfl⟩;rw[<-hfar] at hf;have h2f:2*far≠0:=by grind
 have ht':2*far*t=far+a.s-b.s:=by rw[ht,Rat.mul_comm];exact Rat.div_mul_cancel h2f
 have hh':far*h=a.s-far*(t*t):=by have:a.s/far*far=a.s:=Rat.div_mul_cancel hf;rw[hh];grind
 have hc:qt a b neg=⟨a.x+t*(b.x-a.x),a.y+t*(b.y-a.y),if neg then b.y-a.y else 0-(b.y-a.y),if neg then 0-(b.x-a.x) else b.x-a.x,h⟩:=by rw[hh,ht,hfar];rfl
 rw[hc];have nx1:=qg7 a.x;have ny1:=qg7 a.y;have ns1:=qg7 a.s;have nx2:=qg7 b.x;have ny2:=qg7 b.y;have ns2:=qg7 b.s;have nx3:=qg7 d.x;have ny3:=qg7 d.y;have ns3:=qg7 d.s;have px1:=qzN a.x;have py1:=qzN a.y;have px2:=qzN b.x;have py2:=qzN b.y;obtain⟨x1,y1,s1⟩:=a;obtain⟨x2,y2,s2⟩:=b;obtain⟨x3,y3,s3⟩:=d;simp only at *;have hU:((iU x1.num x1.den x2.num x2.den:Int):Rat)=(x2-x1)*((x1.den:Rat)*x2.den):=by unfold iU;simp only[qM9,qLK,Rat.intCast_natCast,nx1,nx2];grind
 have hV:((iU y1.num y1.den y2.num y2.den:Int):Rat)=(y2-y1)*((y1.den:Rat)*y2.den):=by unfold iU;simp only[qM9,qLK,Rat.intCast_natCast,ny1,ny2];grind
 have hE:((iE x1.num x1.den x3.num x3.den:Int):Rat)=(x1-x3)*((x1.den:Rat)*x3.den):=by unfold iE;simp only[qM9,qLK,Rat.intCast_natCast,nx1,nx3];grind
 have hF:((iE y1.num y1.den y3.num y3.den:Int):Rat)=(y1-y3)*((y1.den:Rat)*y3.den):=by unfold iE;simp only[qM9,qLK,Rat.intCast_natCast,ny1,ny3];grind
 have hD:((iD x1.den y1.den x2.den y2.den:Int):Rat)=((x1.den:Rat)*x2.den*(y1.den*y2.den))*((x1.den:Rat)*x2.den*(y1.den*y2.den)):=by unfold iD;simp only[qLK,Rat.intCast_natCast]
 have hN:((iN x1.num x1.den y1.num y1.den x2.num x2.den y2.num y2.den:Int):Rat)=far*(((x1.den:Rat)*x2.den*(y1.den*y2.den))*((x1.den:Rat)*x2.den*(y1.den*y2.den))):=by unfold iN;simp only[qMl,qLK,Rat.intCast_natCast,hU,hV,hfar];grind
 have hN0:iN x1.num x1.den y1.num y1.den x2.num x2.den y2.num y2.den≠0:=by
  intro e;rw[e] at hN;have h1:(x1.den:Rat)*x2.den*(y1.den*y2.den)≠0:=by have:=qLU (qLU (q3U x1) (q3U x2)) (qLU (q3U y1) (q3U y2));grind
  have h2:far*(((x1.den:Rat)*x2.den*(y1.den*y2.den))*((x1.den:Rat)*x2.den*(y1.den*y2.den)))=0:=by rw[<-hN];simp
  rcases qMT.1 h2 with h3|h3
  ·exact hf h3
  ·rcases qMT.1 h3 with h4|h4<;>exact h1 h4
 have hT:((iT x1.num x1.den y1.num y1.den s1.num s1.den x2.num x2.den y2.num y2.den s2.num s2.den:Int):Rat)=2*t*far*(((x1.den:Rat)*x2.den*(y1.den*y2.den))*((x1.den:Rat)*x2.den*(y1.den*y2.den)))*((s1.den:Rat)*s2.den):=by
  unfold iT;simp only[qMl,qM9,qLK,Rat.intCast_natCast,hN,hD,ns1,ns2];generalize ((x1.den:Rat)*x2.den*(y1.den*y2.den))*((x1.den:Rat)*x2.den*(y1.den*y2.den))=D2;have:2*t*far*D2*((s1.den:Rat)*s2.den)=(2*far*t)*(D2*((s1.den:Rat)*s2.den)):=by grind
  rw[this,ht'];grind
 have hG:((iG x1.num x1.den y1.num y1.den x3.num x3.den y3.num y3.den:Int):Rat)=((x1-x3)*(x1-x3)+(y1-y3)*(y1-y3))*(((x1.den:Rat)*y1.den*(x3.den*y3.den))*((x1.den:Rat)*y1.den*(x3.den*y3.den))):=by unfold iG;simp only[qMl,qLK,Rat.intCast_natCast,hE,hF];grind
 have hH:((iH x1.num x1.den y1.num y1.den x2.num x2.den y2.num y2.den x3.num x3.den y3.num y3.den:Int):Rat)=((x1-x3)*(x2-x1)+(y1-y3)*(y2-y1))*(((x1.den:Rat)*x1.den*(x2.den*x3.den))*((y1.den:Rat)*y1.den*(y2.den*y3.den))):=by unfold iH;simp only[qMl,qLK,Rat.intCast_natCast,hE,hF,hU,hV];grind
 have hSq:((iSq x1.den y1.den x3.den y3.den:Int):Rat)=((x1.den:Rat)*y1.den*(x3.den*y3.den))*((x1.den:Rat)*y1.den*(x3.den*y3.den)):=by unfold iSq;simp only[qLK,Rat.intCast_natCast]
 refine⟨?_,?_,?_,hN0⟩
 ·unfold iM iA;simp only[qMl,qM9,qLK,Rat.intCast_natCast,hN,hT,hG,hH,hSq,ns1,ns3];have hA:kA ⟨x3,y3,s3⟩ ⟨x1+t*(x2-x1),y1+t*(y2-y1),if neg then y2-y1 else 0-(y2-y1),if neg then 0-(x2-x1) else x2-x1,h⟩=(x1-x3)*(x1-x3)+(y1-y3)*(y1-y3)+2*t*((x1-x3)*(x2-x1)+(y1-y3)*(y2-y1))+s1-s3:=by
   have e1:kA ⟨x3,y3,s3⟩ ⟨x1+t*(x2-x1),y1+t*(y2-y1),if neg then y2-y1 else 0-(y2-y1),if neg then 0-(x2-x1) else x2-x1,h⟩=(x1-x3)*(x1-x3)+(y1-y3)*(y1-y3)+2*t*((x1-x3)*(x2-x1)+(y1-y3)*(y2-y1))+far*(t*t)+far*h-s3:=by
    unfold kA;rw[hfar];cases neg
    ·simp only[qLQ,if_false];grind
    ·simp only[if_true];grind
   rw[e1,hh'];grind
  rw[hA];generalize (x1-x3)*(x1-x3)+(y1-y3)*(y1-y3)=e2;generalize (x1-x3)*(x2-x1)+(y1-y3)*(y2-y1)=ed;generalize (x1.den:Rat)=P1;generalize (x2.den:Rat)=P2;generalize (x3.den:Rat)=P3;generalize (y1.den:Rat)=Q1;generalize (y2.den:Rat)=Q2;generalize (y3.den:Rat)=Q3;generalize (s1.den:Rat)=R1;generalize (s2.den:Rat)=R2;generalize (s3.den:Rat)=R3;clear hU hV hE hF hD hN hN0 hT hG hH hSq nx1 nx2 nx3 ny1 ny2 ny3 ns1 ns2 ns3 px1 px2 py1 py2 hf h2f ht' hh' hc hfar;grind
 ·unfold iQ iK kB;simp only[qM9,qLK,Rat.intCast_natCast,hE,hF,hU,hV];cases neg
  ·simp only[qLQ,if_false];simp;grind
  ·simp only[if_true];simp;grind
 ·unfold iCd iCn;simp only[qM9,qLK,Rat.intCast_natCast,hN,hT,hD,ns1];generalize ((x1.den:Rat)*x2.den*(y1.den*y2.den))*((x1.den:Rat)*x2.den*(y1.den*y2.den))=D2;generalize (s1.den:Rat)=R1;generalize (s2.den:Rat)=R2;have e:s1=far*h+far*(t*t):=by rw[hh'];grind
  have f4:((4:Int):Rat)=4:=by simp
  rw[f4,e];clear hU hV hE hF hD hN hN0 hT hG hH hSq nx1 nx2 nx3 ny1 ny2 ny3 ns1 ns2 ns3 px1 px2 py1 py2 hf h2f ht' hh' hc hfar;grind
end
end Go.Eng

namespace Go.Eng
theorem quM{a b c:Rat}(hc:0<=c):qeX a b c<=0↔(a<=0/\(b<=0\/c=0\/b*b*c<=a*a))\/(0<a/\b<0/\a*a<=b*b*c):=by
 have hs:=qiK (a*a-b*b*c);have hs':(0<=sgq (a*a-b*b*c))=(b*b*c<=a*a):=by
  have h1:=qEH (a*a-b*b*c);have h2:=qiK (-(a*a-b*b*c));refine propext ⟨fun h=>?_,fun h=>?_⟩
  ·have:=h2▸(show sgq (-(a*a-b*b*c))<=0 by omega);grind
  ·have:sgq (-(a*a-b*b*c))<=0:=h2▸(show -(a*a-b*b*c)<=0 by grind);omega
 have bd:=qhZ (a*a-b*b*c);have pb:0<b->0<c->0<b*b*c:=fun h1 h2=>qLU (qLU h1 h1) h2;have pa:0<a->0<a*a:=fun h1=>qLU h1 h1;have za:a=0->a*a=0:=fun h=>by rw[h];grind
 have zc:c=0->b*b*c=0:=fun h=>by rw[h];grind
 unfold qeX;generalize hz:sgq (a*a-b*b*c)=z at *;rcases qen a with⟨ha,ea⟩|⟨ha,ea⟩|⟨ha,ea⟩<;>rcases qen b with⟨hb,eb⟩|⟨hb,eb⟩|⟨hb,eb⟩<;>rcases qen c with⟨hc',ec⟩|⟨hc',ec⟩|⟨hc',ec⟩<;>rw[ea,eb,ec]
 all_goals try (exfalso;grind)
 all_goals simp only[
  
  
  show (-1:Int)*0=0 by decide,show (-1:Int)*1=-1 by decide,show (0:Int)*0=0 by decide,show (0:Int)*1=0 by decide,show (1:Int)*0=0 by decide,show (1:Int)*1=1 by decide,qM3]
 all_goals simp
 all_goals first|(exfalso;grind)|skip
 all_goals grind
theorem qtY{a b:Rat}(h0:0<=a)(h:a<=b):a*a<=b*b:=by have:=qLJ (show 0<=b-a by grind) (show 0<=b+a by grind);grind
theorem qzE{a b:Rat}(hb:0<=b)(h:a*a<=b*b):a<=b:=by apply Rat.not_lt.1;intro hn;have:=qLU (show 0<a-b by grind) (show 0<a+b by grind);grind
theorem qBE{a b c T0 T1:Rat}(h0:0<=T0)(h1:T0<=T1)(k0:T0*T0<=c)(k1:c<=T1*T1)(e0:a+b*T0<=0)(e1:a+b*T1<=0):qeX a b c<=0:=by
 have hc:0<=c:=by have:=qLJ h0 h0;grind
 rw[quM hc];by_cases hb:b<=0
 ·by_cases ha:a<=0
  ·exact .inl ⟨ha,.inl hb⟩
  ·have hb':b<0:=by
    apply Rat.not_le.1;intro hn;have h:b=0:=by grind
    rw[h] at e0;grind
   refine .inr ⟨by grind,hb',?_⟩;have h1:=qtY (a:=a) (b:=(-b)*T0) (by grind) (by grind);have h2:=Rat.mul_le_mul_of_nonneg_left k0 (show 0<=b*b by have:=qLJ (show 0<=-b by grind) (show 0<=-b by grind);grind);grind
 ·have hb':0<=b:=by grind
  have h3:=qLJ hb' h0;refine .inl ⟨by grind,.inr (.inr ?_)⟩;have h3:=qLJ hb' (show 0<=T1 by grind);have h1:=qtY (a:=b*T1) (b:=-a) h3 (by grind);have h2:=Rat.mul_le_mul_of_nonneg_left k1 (qLJ hb' hb');grind
theorem qEK{a b c:Rat}(hc:0<=c)(h:qeX a b c<=0):∃T,0<=T/\T*T<=c/\∀S,T<=S->S*S<=c->a+b*S<=0:=by
 rw[quM hc] at h;by_cases hb:b<0
 ·by_cases ha:a<=0
  ·refine⟨0,by grind,by grind,fun S h1 h2=>?_⟩;have:=qLJ (show 0<=-b by grind) h1;grind
  ·rcases h with h|⟨h1,h2,h3⟩
   ·exact absurd h.1 ha
   ·have hq:a/(-b)*(-b)=a:=Rat.div_mul_cancel (by grind);have hq0:0<=a/(-b):=by apply Rat.not_lt.1;intro hn;have:=qLU (show 0 < -(a/(-b)) by grind) (show 0 < -b by grind);grind
    generalize a/(-b)=T at *;refine⟨T,hq0,?_,fun S hS _=>?_⟩
    ·apply Rat.not_lt.1;intro hn;have:=qLU (show 0<T*T-c by grind) (qLU (show 0 < -b by grind) (show 0 < -b by grind));have e:a*a=T*T*(b*b):=by rw[<-hq];grind
     rw[e] at h3;clear e hq;grind
    ·have:=qLJ (show 0<=-b by grind) (show 0<=S-T by grind);grind
 ·refine⟨0,by grind,by grind,fun S h1 h2=>?_⟩;rcases h with⟨h3,h4⟩|⟨_,h5,_⟩
  ·rcases h4 with h4|h4|h4
   ·have:b=0:=by grind
    rw[this];grind
   ·have:S*S<=0:=by grind
    have h6:=qzE (a:=S) (b:=0) (by grind) (by grind);have:S=0:=by grind
    rw[this];grind
   ·have k1:=Rat.mul_le_mul_of_nonneg_left h2 (qLJ (show 0<=b by grind) (show 0<=b by grind));have:=qzE (a:=b*S) (b:=-a) (by grind) (by grind);grind
  ·exact absurd h5 hb
def pw(d:DQ)(x y:Rat):Rat:=(x-d.x)*(x-d.x)+(y-d.y)*(y-d.y)-d.s
def qEP(l:List DQ):Prop:=∃x y:Rat,∀d∈l,pw d x y<=0
theorem qEP.mono{l l':List DQ}(h:qEP l)(hs:∀d∈l',d∈l):qEP l':=by obtain⟨x,y,h⟩:=h;exact⟨x,y,fun d hd=>h d (hs d hd)⟩
theorem qDm(d:DQ)(p:SQ)(T:Rat):pw d (p.fx+T*p.ax) (p.fy+T*p.ay)=kA d p+kB d p*T+(p.ax*p.ax+p.ay*p.ay)*(T*T-p.h):=by unfold pw kA kB;grind
theorem qp5(a:Rat):0<=a*a:=by
 rcases Rat.le_total (a:=0) (b:=a) with h|h
 ·exact qLJ h h
 ·have:=qLJ (show 0<=-a by grind) (show 0<=-a by grind);grind
theorem qsS(p:SQ)(hn:0<=p.h):∀l:List DQ,(∀d∈l,q1T d p)->∃T,0<=T/\T*T<=p.h/\∀d∈l,∀S,T<=S->S*S<=p.h->kA d p+kB d p*S<=0
 | [],_=>⟨0,by grind,by grind,fun d hd=>by cases hd⟩
 | a::l,h=>by
  obtain⟨T,h1,h2,h3⟩:=qsS p hn l fun d hd=>h d (qLO _ hd);obtain⟨T',k1,k2,k3⟩:=qEK hn (h a qLE);rcases Rat.le_total (a:=T) (b:=T') with hT|hT
  ·refine⟨T',k1,k2,fun d hd S hS hS2=>?_⟩;rcases qLx.1 hd with rfl|hd
   ·exact k3 S hS hS2
   ·exact h3 d hd S (Rat.le_trans hT hS) hS2
  ·refine⟨T,h1,h2,fun d hd S hS hS2=>?_⟩;rcases qLx.1 hd with rfl|hd
   ·exact k3 S (Rat.le_trans hT hS) hS2
   ·exact h3 d hd S hS hS2
theorem quX{l:List DQ}{p:SQ}(hn:0<=p.h)(h:∀d∈l,q1T d p):qEP l:=by obtain⟨T,h1,h2,h3⟩:=qsS p hn l h;refine⟨p.fx+T*p.ax,p.fy+T*p.ay,fun d hd=>?_⟩;rw[qDm];have k1:=h3 d hd T (qMF) h2;have k2:=qLJ (show 0<=p.ax*p.ax+p.ay*p.ay by have:=qp5 p.ax;have:=qp5 p.ay;grind) (show 0<=p.h-T*T by grind);grind
def qKs(x1 y1 x2 y2 x3 y3:Rat):Rat:=(x2-x1)*(y3-y1)-(x3-x1)*(y2-y1)
theorem qwY{ι:Type}(f:ι->Rat):∀(L:List ι),L≠[]->∃a∈L,∀k∈L,f k<=f a
 | [],h=>absurd rfl h
 | [a],_=>⟨a,by simp,fun k hk=>by simp at hk;rw[hk];exact qMF⟩
 | a::b::r,_=>by
  obtain⟨m,hm,h⟩:=qwY f (b::r) (by simp);rcases Rat.le_total (a:=f a) (b:=f m) with hle|hle
  ·refine⟨m,qLO _ hm,fun k hk=>?_⟩;rcases qLx.1 hk with rfl|hk
   ·exact hle
   ·exact h k hk
  ·refine⟨a,qLE,fun k hk=>?_⟩;rcases qLx.1 hk with rfl|hk
   ·exact qMF
   ·exact Rat.le_trans (h k hk) hle
theorem hit{ι:Type}(al be:ι->Rat):∀(L:List ι),(∀k∈L,al k<=0)->(∃k∈L,0<be k)->∃t,0<=t/\(∀k∈L,al k+be k*t<=0)/\∃b∈L,0<be b/\al b+be b*t=0
 | [],_,h=>by obtain⟨k,hk,_⟩:=h;cases hk
 | a::L,h0,h1=>by
  have hLn:∀k∈L,al k<=0:=fun k hk=>h0 k (qLO _ hk);have ha0:=h0 a qLE;by_cases ha:0<be a
  ·obtain⟨ta,hta⟩:∃ta,ta=-al a/be a:=⟨_,rfl⟩;have eta:ta*be a=-al a:=by rw[hta];exact Rat.div_mul_cancel (by grind)
   have ta0:0<=ta:=by apply Rat.not_lt.1;intro hn;have:=qLU (show 0 < -ta by grind) ha;grind
   have own:al a+be a*ta=0:=by grind
   by_cases hL:∃k∈L,0<be k
   ·obtain⟨t,k1,k2,b,hb,k3,k4⟩:=hit al be L hLn hL;rcases Rat.le_total (a:=t) (b:=ta) with hle|hle
    ·refine⟨t,k1,fun k hk=>?_,b,qLO _ hb,k3,k4⟩;rcases qLx.1 hk with rfl|hk
     ·have:=qLJ (show 0<=be k by grind) (show 0<=ta-t by grind);grind
     ·exact k2 k hk
    ·refine⟨ta,ta0,fun k hk=>?_,a,qLE,ha,own⟩;rcases qLx.1 hk with rfl|hk
     ·grind
     ·rcases Rat.le_total (a:=0) (b:=be k) with hb|hb
      ·have:=qLJ hb (show 0<=t-ta by grind);have:=k2 k hk;grind
      ·have:=qLJ (show 0<=-be k by grind) ta0;have:=hLn k hk;grind
   ·refine⟨ta,ta0,fun k hk=>?_,a,qLE,ha,own⟩;rcases qLx.1 hk with rfl|hk
    ·grind
    ·have hb:be k<=0:=Rat.not_lt.1 fun hn=>hL ⟨k,hk,hn⟩;have:=qLJ (show 0<=-be k by grind) ta0;have:=hLn k hk;grind
  ·have hL:∃k∈L,0<be k:=by
    obtain⟨k,hk,h⟩:=h1;rcases qLx.1 hk with rfl|hk
    ·exact absurd h ha
    ·exact⟨k,hk,h⟩
   obtain⟨t,k1,k2,b,hb,k3,k4⟩:=hit al be L hLn hL;refine⟨t,k1,fun k hk=>?_,b,qLO _ hb,k3,k4⟩;rcases qLx.1 hk with rfl|hk
   ·have:=qLJ (show 0<=-be k by grind) k1;grind
   ·exact k2 k hk
theorem quE{a:Rat}(h:a*a<=0):a=0:=by have:=qp5 a;rcases qMT.1 (show a*a=0 by grind) with h|h<;>exact h
theorem qpn{a b c d:Rat}(h:q32 a b c d=0):a=c/\b=d:=by unfold q32 at h;have s1:=qp5 (a-c);have s2:=qp5 (b-d);have:=quE (a:=a-c) (by grind);have:=quE (a:=b-d) (by grind);exact⟨by grind,by grind⟩
theorem qDW(a b c d:Rat):0<=q32 a b c d:=by unfold q32;have s1:=qp5 (a-c);have s2:=qp5 (b-d);grind
theorem qIx{l:List DQ}{x y:Rat}(hl:l≠[])(hs:∀d∈l,0<=d.s)(h:∀d∈l,pw d x y<=0) :(∃a∈l,∀d∈l,pw d a.x a.y<=0)\/∃a∈l,∃b∈l,∃X Y,q32 b.x b.y a.x a.y≠0/\pw b X Y=pw a X Y/\(∀d∈l,pw d X Y<=pw a X Y)/\pw a X Y<=0:=by
 obtain⟨a,ha,hmax⟩:=qwY (fun d=>pw d x y) l hl;by_cases hc:∀d∈l,pw d a.x a.y<=0
 ·exact .inl ⟨a,ha,hc⟩
 ·have hex:∃k∈l,0<pw k a.x a.y:=by
   by_cases hn:∃k∈l,0<pw k a.x a.y
   ·exact hn
   ·exact absurd (fun d hd=>Rat.not_lt.1 fun h0=>hn ⟨d,hd,h0⟩) hc
  obtain⟨k0,hk0,hp⟩:=hex;have hsa:=hs a ha;have paa:pw a a.x a.y=-a.s:=by unfold pw;grind
  obtain⟨al,hal⟩:∃al:DQ->Rat,al=fun k=>pw k x y-pw a x y:=⟨_,rfl⟩;obtain⟨be,hbe⟩:∃be:DQ->Rat,be=fun k=>pw k a.x a.y-pw a a.x a.y-(pw k x y-pw a x y):=⟨_,rfl⟩;have al0:∀k∈l,al k<=0:=fun k hk=>by rw[hal];have:=hmax k hk;simp only at this ⊢;grind
  have be0:al k0+be k0>0:=by rw[hal,hbe];simp only;grind
  obtain⟨t,t0,ht,b,hb,hb1,hb2⟩:=hit al be l al0 ⟨k0,hk0,by have:=al0 k0 hk0;grind⟩;have line:∀k,pw k (x+t*(a.x-x)) (y+t*(a.y-y))-pw a (x+t*(a.x-x)) (y+t*(a.y-y))=al k+be k*t:=fun k=>by rw[hal,hbe];simp only;unfold pw;grind
  have t1:t<=1:=by apply Rat.not_lt.1;intro hn;have h1:=ht k0 hk0;have h2:=al0 k0 hk0;have:=qLU (show 0<be k0 by grind) (show 0<t-1 by grind);grind
  refine .inr ⟨a,ha,b,hb,x+t*(a.x-x),y+t*(a.y-y),fun hf=>?_,?_,fun d hd=>?_,?_⟩
  ·obtain⟨e1,e2⟩:=qpn hf;have:be b=0:=by rw[hbe];simp only;unfold pw;rw[e1,e2];grind
   grind
  ·have:=line b;grind
  ·have:=line d;have:=ht d hd;grind
  ·have h1:=h a ha;have e:pw a (x+t*(a.x-x)) (y+t*(a.y-y))=(1-t)*(1-t)*((x-a.x)*(x-a.x)+(y-a.y)*(y-a.y))-a.s:=by unfold pw;grind
   have q:0<=(x-a.x)*(x-a.x)+(y-a.y)*(y-a.y):=by have:=qp5 (x-a.x);have:=qp5 (y-a.y);grind
   have m:=qtY (a:=1-t) (b:=1) (by grind) (by grind);have:=qLJ (show 0<=1-(1-t)*(1-t) by grind) q;rw[e];have:pw a x y=(x-a.x)*(x-a.x)+(y-a.y)*(y-a.y)-a.s:=rfl;grind
theorem qqz{a b:DQ}(neg:Bool)(hf:q32 b.x b.y a.x a.y≠0) :(qt a b neg).ax*(qt a b neg).ax+(qt a b neg).ay*(qt a b neg).ay=q32 b.x b.y a.x a.y /\(qt a b neg).ax*(b.x-a.x)+(qt a b neg).ay*(b.y-a.y)=0 /\(qt a b neg).ax*((qt a b neg).fx-a.x)+(qt a b neg).ay*((qt a b neg).fy-a.y)=0 /\2*(((qt a b neg).fx-a.x)*(b.x-a.x)+((qt a b neg).fy-a.y)*(b.y-a.y))=q32 b.x b.y a.x a.y+a.s-b.s /\kA a (qt a b neg)=0/\kB a (qt a b neg)=0/\kA b (qt a b neg)=0/\kB b (qt a b neg)=0:=by
 obtain⟨far,hfar⟩:∃far,far=q32 b.x b.y a.x a.y:=⟨_,rfl⟩;obtain⟨t,ht⟩:∃t,t=(far+a.s-b.s)/(2*far):=⟨_,rfl⟩;obtain⟨h,hh⟩:∃h,h=a.s/far-t*t:=⟨_,rfl⟩;rw[<-hfar] at hf;have h2f:2*far≠0:=by grind
 have ht':2*far*t=far+a.s-b.s:=by rw[ht,Rat.mul_comm];exact Rat.div_mul_cancel h2f
 have hh':far*h=a.s-far*(t*t):=by have:a.s/far*far=a.s:=Rat.div_mul_cancel hf;rw[hh];grind
 have hc:qt a b neg=⟨a.x+t*(b.x-a.x),a.y+t*(b.y-a.y),if neg then b.y-a.y else 0-(b.y-a.y),if neg then 0-(b.x-a.x) else b.x-a.x,h⟩:=by rw[hh,ht,hfar];rfl
 have hfar':far=(b.x-a.x)*(b.x-a.x)+(b.y-a.y)*(b.y-a.y):=hfar;rw[hc,<-hfar];unfold kA kB;clear hc hfar ht hh;cases neg
 ·simp only[qLQ,if_false];refine⟨by grind,by grind,by grind,by grind,by grind,by grind,by grind,by grind⟩
 ·simp only[if_true];refine⟨by grind,by grind,by grind,by grind,by grind,by grind,by grind,by grind⟩
theorem qAz(a b:DQ):(qt a b true).ax=-(qt a b false).ax/\(qt a b true).ay=-(qt a b false).ay:=by unfold qt;simp only[qLQ,if_false,if_true];exact⟨by grind,by grind⟩
theorem qxd{l:List DQ}{a b:DQ}{x y:Rat}(neg:Bool)(hf:q32 b.x b.y a.x a.y≠0)(hab:pw b x y=pw a x y)(hm:∀d∈l,pw d x y<=pw a x y)(h0:pw a x y<=0)(hv:0<=(qt a b neg).ax*(x-a.x)+(qt a b neg).ay*(y-a.y)) :(0<=(qt a b neg).h/\∀d∈l,q1T d (qt a b neg)) \/∃t k,0<=t/\k∈l/\(qt a b neg).ax*(k.x-a.x)+(qt a b neg).ay*(k.y-a.y)<0/\pw k (x+t*(qt a b neg).ax) (y+t*(qt a b neg).ay)=pw a (x+t*(qt a b neg).ax) (y+t*(qt a b neg).ay) /\pw b (x+t*(qt a b neg).ax) (y+t*(qt a b neg).ay)=pw a (x+t*(qt a b neg).ax) (y+t*(qt a b neg).ay)/\(∀d∈l,pw d (x+t*(qt a b neg).ax) (y+t*(qt a b neg).ay)<=pw a (x+t*(qt a b neg).ax) (y+t*(qt a b neg).ay)) /\pw a (x+t*(qt a b neg).ax) (y+t*(qt a b neg).ay)<=0:=by
 obtain⟨f1,f2,f3,f4,f5,f6,f7,f8⟩:=qqz neg hf;have hpos:0<q32 b.x b.y a.x a.y:=by have:=qDW b.x b.y a.x a.y;grind
 have hfd:q32 b.x b.y a.x a.y=(b.x-a.x)*(b.x-a.x)+(b.y-a.y)*(b.y-a.y):=rfl;have hax:(qt a b neg).ax=if neg then b.y-a.y else 0-(b.y-a.y):=rfl
 have hay:(qt a b neg).ay=if neg then 0-(b.x-a.x) else b.x-a.x:=rfl
 generalize qt a b neg=p at *;generalize q32 b.x b.y a.x a.y=far at *;obtain⟨T0,hT0⟩:∃T0,T0=(p.ax*(x-p.fx)+p.ay*(y-p.fy))/far:=⟨_,rfl⟩;have eT0:T0*far=p.ax*(x-p.fx)+p.ay*(y-p.fy):=by rw[hT0];exact Rat.div_mul_cancel hf
 have hp:(x-p.fx)*(b.x-a.x)+(y-p.fy)*(b.y-a.y)=0:=by unfold pw at hab;grind
 have cancel:∀z:Rat,z*far=0->z=0:=fun z hz=>by
  rcases qMT.1 hz with h|h
  ·exact h
  ·exact absurd h hf
 have ex:x=p.fx+T0*p.ax:=by
  have:x-p.fx-T0*p.ax=0:=cancel _ (by
   have e:(x-p.fx-T0*p.ax)*far=(x-p.fx)*far-p.ax*(T0*far):=by grind
   rw[e,eT0,hfd];cases neg
   ·simp only[qLQ,if_false] at hax hay;rw[hax,hay];clear hax hay eT0 hT0 f1 f2 f3 f4 f5 f6 f7 f8 hv hab;grind
   ·simp only[if_true] at hax hay;rw[hax,hay];clear hax hay eT0 hT0 f1 f2 f3 f4 f5 f6 f7 f8 hv hab;grind)
  grind
 have ey:y=p.fy+T0*p.ay:=by
  have:y-p.fy-T0*p.ay=0:=cancel _ (by
   have e:(y-p.fy-T0*p.ay)*far=(y-p.fy)*far-p.ay*(T0*far):=by grind
   rw[e,eT0,hfd];cases neg
   ·simp only[qLQ,if_false] at hax hay;rw[hax,hay];clear hax hay eT0 hT0 f1 f2 f3 f4 f5 f6 f7 f8 hv hab ex;grind
   ·simp only[if_true] at hax hay;rw[hax,hay];clear hax hay eT0 hT0 f1 f2 f3 f4 f5 f6 f7 f8 hv hab ex;grind)
  grind
 have T0n:0<=T0:=by apply Rat.not_lt.1;intro hn;have:=qLU (show 0 < -T0 by grind) hpos;grind
 have line:∀d T,pw d (p.fx+T*p.ax) (p.fy+T*p.ay)=kA d p+kB d p*T+far*(T*T-p.h):=fun d T=>by rw[qDm,f1]
 have lineA:∀T,pw a (p.fx+T*p.ax) (p.fy+T*p.ay)=far*(T*T-p.h):=fun T=>by rw[line,f5,f6];grind
 have lineB:∀T,pw b (p.fx+T*p.ax) (p.fy+T*p.ay)=far*(T*T-p.h):=fun T=>by rw[line,f7,f8];grind
 have at0:∀d∈l,kA d p+kB d p*T0<=0:=fun d hd=>by have:=hm d hd;rw[ex,ey,line,lineA] at this;grind
 have hT:T0*T0<=p.h:=by rw[ex,ey,lineA] at h0;apply Rat.not_lt.1;intro hn;have:=qLU hpos (show 0<T0*T0-p.h by grind);grind
 have hn:0<=p.h:=by have:=qp5 T0;grind
 have kb:∀d:DQ,kB d p=-(2*(p.ax*(d.x-a.x)+p.ay*(d.y-a.y))):=fun d=>by unfold kB;grind
 have all:∀T1,T0<=T1->p.h<=T1*T1->(∀d∈l,kA d p+kB d p*T1<=0)->0<=p.h/\∀d∈l,q1T d p:=fun T1 h1 h2 h3=>
  ⟨hn,fun d hd=>qBE T0n h1 hT h2 (at0 d hd) (h3 d hd)⟩
 by_cases hk:∃k∈l,0<kB k p
 ·obtain⟨t,t0,ht,k,hk,hk1,hk2⟩:=hit (fun d=>kA d p+kB d p*T0) (fun d=>kB d p) l at0 hk;by_cases hle:(T0+t)*(T0+t)<=p.h
  ·have eX:x+t*p.ax=p.fx+(T0+t)*p.ax:=by grind
   have eY:y+t*p.ay=p.fy+(T0+t)*p.ay:=by grind
   refine .inr ⟨t,k,t0,hk,?_,?_,?_,fun d hd=>?_,?_⟩
   ·rw[kb] at hk1;grind
   ·rw[eX,eY,line,lineA];grind
   ·rw[eX,eY,lineA,lineB]
   ·rw[eX,eY,line,lineA];have:=ht d hd;grind
   ·rw[eX,eY,lineA];have:=qLJ (show 0<=far by grind) (show 0<=p.h-(T0+t)*(T0+t) by grind);grind
  ·exact .inl (all (T0+t) (by grind) (by grind) fun d hd=>by have:=ht d hd;grind)
 ·refine .inl (all (T0+p.h+1) (by grind) ?_ fun d hd=>?_)
  ·have:=qtY (a:=p.h+1) (b:=T0+p.h+1) (by grind) (by grind);have:=qLJ hn hn;grind
  ·have h1:kB d p<=0:=Rat.not_lt.1 fun h=>hk ⟨d,hd,h⟩;have:=qLJ (show 0<=-kB d p by grind) (show 0<=p.h+1 by grind);have:=at0 d hd;grind
def Vx(l:List DQ)(x y:Rat)(t:DQ×DQ×DQ):Prop:=qKs t.1.x t.1.y t.2.1.x t.2.1.y t.2.2.x t.2.2.y≠0/\pw t.2.1 x y=pw t.1 x y/\pw t.2.2 x y=pw t.1 x y/\(∀d∈l,pw d x y<=pw t.1 x y)/\pw t.1 x y<=0
theorem qHr{l:List DQ}{x y x' y':Rat}{t:DQ×DQ×DQ}(h:Vx l x y t)(h':Vx l x' y' t):x=x'/\y=y':=by
 obtain⟨a,b,c⟩:=t;obtain⟨hA,h1,h2,-,-⟩:=h;obtain⟨-,h1',h2',-,-⟩:=h';unfold pw qKs at *;simp only at *;have e1:(x-x')*(b.x-a.x)+(y-y')*(b.y-a.y)=0:=by grind
 have e2:(x-x')*(c.x-a.x)+(y-y')*(c.y-a.y)=0:=by grind
 generalize b.x-a.x=p at *;generalize b.y-a.y=q at *;generalize c.x-a.x=r at *;generalize c.y-a.y=s at *;have k1:(x-x')*(p*s-r*q)=0:=by clear h1 h2 h1' h2' hA;grind
 have k2:(y-y')*(p*s-r*q)=0:=by clear h1 h2 h1' h2' hA;grind
 constructor
 ·rcases qMT.1 k1 with h|h
  ·grind
  ·exact absurd h hA
 ·rcases qMT.1 k2 with h|h
  ·grind
  ·exact absurd h hA
theorem qDf(l:List DQ):∀L:List (DQ×DQ×DQ),(∃t∈L,∃x y,Vx l x y t)->∃t∈L,∃x y,Vx l x y t/\∀t'∈L,∀x' y',Vx l x' y' t'->pw t'.1 x' y'<=pw t.1 x y
 | [],h=>by obtain⟨t,ht,_⟩:=h;cases ht
 | s::L,h=>by
  by_cases hs:∃x y,Vx l x y s
  ·obtain⟨x,y,hs⟩:=hs;have own:∀x' y',Vx l x' y' s->pw s.1 x' y'<=pw s.1 x y:=fun x' y' h'=>by obtain⟨rfl,rfl⟩:=qHr h' hs;exact qMF
   by_cases hL:∃t∈L,∃x y,Vx l x y t
   ·obtain⟨t,ht,u,v,hv,hmax⟩:=qDf l L hL;rcases Rat.le_total (a:=pw s.1 x y) (b:=pw t.1 u v) with hle|hle
    ·refine⟨t,qLO _ ht,u,v,hv,fun t' ht' x' y' h'=>?_⟩;rcases qLx.1 ht' with rfl|ht'
     ·exact Rat.le_trans (own x' y' h') hle
     ·exact hmax t' ht' x' y' h'
    ·refine⟨s,qLE,x,y,hs,fun t' ht' x' y' h'=>?_⟩;rcases qLx.1 ht' with rfl|ht'
     ·exact own x' y' h'
     ·exact Rat.le_trans (hmax t' ht' x' y' h') hle
   ·refine⟨s,qLE,x,y,hs,fun t' ht' x' y' h'=>?_⟩;rcases qLx.1 ht' with rfl|ht'
    ·exact own x' y' h'
    ·exact absurd ⟨t',ht',x',y',h'⟩ hL
  ·have hL:∃t∈L,∃x y,Vx l x y t:=by
    obtain⟨t,ht,h⟩:=h;rcases qLx.1 ht with rfl|ht
    ·exact absurd h hs
    ·exact⟨t,ht,h⟩
   obtain⟨t,ht,u,v,hv,hmax⟩:=qDf l L hL;refine⟨t,qLO _ ht,u,v,hv,fun t' ht' x' y' h'=>?_⟩;rcases qLx.1 ht' with rfl|ht'
   ·exact absurd ⟨x',y',h'⟩ hs
   ·exact hmax t' ht' x' y' h'
theorem qDq{l:List DQ}{x y:Rat}{t:DQ×DQ×DQ}(ht:t.1∈l/\t.2.1∈l/\t.2.2∈l)(hv:Vx l x y t) :∃a∈l,∃b∈l,∃neg,q32 b.x b.y a.x a.y≠0/\pw a x y=pw t.1 x y/\pw b x y=pw a x y/\0<=(qt a b neg).ax*(x-a.x)+(qt a b neg).ay*(y-a.y) /\∀k∈l,pw k x y=pw a x y->0<=(qt a b neg).ax*(k.x-a.x)+(qt a b neg).ay*(k.y-a.y):=by
 obtain⟨a0,b0,c0⟩:=t;obtain⟨hA,h1,h2,h3,h4⟩:=hv;simp only at *;obtain⟨I,hI⟩:∃I,I=l.filter fun k=>decide (pw k x y=pw a0 x y):=⟨_,rfl⟩;have memI:∀k,k∈I↔k∈l/\pw k x y=pw a0 x y:=fun k=>by rw[hI];simp
 have ia:a0∈I:=(memI _).2 ⟨ht.1,rfl⟩;have ib:b0∈I:=(memI _).2 ⟨ht.2.1,h1⟩;have ic:c0∈I:=(memI _).2 ⟨ht.2.2,h2⟩;obtain⟨a,haI,hmax⟩:=qwY (fun k:DQ=>q32 k.x k.y x y) I (by intro h;rw[h] at ia;cases ia);obtain⟨hal,hap⟩:=(memI a).1 haI;obtain⟨D,hD⟩:∃D:DQ->Rat,D=fun k=>(x-a.x)*(k.x-a.x)+(y-a.y)*(k.y-a.y):=⟨_,rfl⟩;obtain⟨X,hX⟩:∃X:DQ->Rat,X=fun k=>(x-a.x)*(k.y-a.y)-(y-a.y)*(k.x-a.x):=⟨_,rfl⟩;obtain⟨J,hJ⟩:∃J,J=I.filter fun k=>decide (q32 k.x k.y a.x a.y≠0):=⟨_,rfl⟩;have memJ:∀k,k∈J↔k∈I/\q32 k.x k.y a.x a.y≠0:=fun k=>by rw[hJ];simp
 have hDp:∀k∈J,0<D k:=fun k hk=>by obtain⟨hk1,hk2⟩:=(memJ k).1 hk;have e1:=hmax k hk1;have e2:=qDW k.x k.y a.x a.y;rw[hD];simp only at e1 ⊢;unfold q32 at e1 e2 hk2;grind
 have hJn:J≠[]:=by
  intro hJ0;have all:∀k∈I,k.x=a.x/\k.y=a.y:=fun k hk=>by
   by_cases hz:q32 k.x k.y a.x a.y=0
   ·exact qpn hz
   ·have:=(memJ k).2 ⟨hk,hz⟩;rw[hJ0] at this;cases this
  obtain⟨p1,q1⟩:=all a0 ia;obtain⟨p2,q2⟩:=all b0 ib;obtain⟨p3,q3⟩:=all c0 ic;apply hA;unfold qKs;rw[p1,p2,p3,q1,q2,q3];grind
 have slope:∀k b:DQ,0<D k->0<D b->X k/D k<=X b/D b->X k*D b<=X b*D k:=fun k b k0 b0 h=>by have e1:X k/D k*D k=X k:=Rat.div_mul_cancel (by grind);have e2:X b/D b*D b=X b:=Rat.div_mul_cancel (by grind);generalize X k/D k=u at *;generalize X b/D b=v at *;have:=qLJ (show 0<=v-u by grind) (qLJ (show 0<=D k by grind) (show 0<=D b by grind));rw[<-e1,<-e2];grind
 have lag:∀k b:DQ,((x-a.x)*(x-a.x)+(y-a.y)*(y-a.y))*((k.x-a.x)*(b.y-a.y)-(k.y-a.y)*(b.x-a.x))=D k*X b-X k*D b:=fun k b=>by rw[hD,hX];simp only;grind
 have upos:∀b,0<D b->0<(x-a.x)*(x-a.x)+(y-a.y)*(y-a.y):=fun b hb=>by apply Rat.not_le.1;intro hn;have s1:=qp5 (x-a.x);have s2:=qp5 (y-a.y);have z1:=quE (a:=x-a.x) (by grind);have z2:=quE (a:=y-a.y) (by grind);rw[hD] at hb;simp only at hb;rw[z1,z2] at hb;grind
 obtain⟨b,hb,hbm⟩:=qwY (fun k=>X k/D k) J hJn;have hbD:=hDp b hb;obtain⟨hbI,hbf⟩:=(memJ b).1 hb;obtain⟨hbl,hbp⟩:=(memI b).1 hbI;have onI:∀k∈l,pw k x y=pw a x y->k∈I:=fun k hk e=>(memI k).2 ⟨hk,by rw[e,hap]⟩;by_cases hXb:0<=X b
 ·refine⟨a,hal,b,hbl,true,hbf,hap,by rw[hbp,hap],?_,fun k hk hkp=>?_⟩
  ·have e:(qt a b true).ax*(x-a.x)+(qt a b true).ay*(y-a.y)=X b:=by rw[hX];unfold qt;simp only[if_true];grind
   rw[e];exact hXb
  ·have e:(qt a b true).ax*(k.x-a.x)+(qt a b true).ay*(k.y-a.y)=(k.x-a.x)*(b.y-a.y)-(k.y-a.y)*(b.x-a.x):=by unfold qt;simp only[if_true];grind
   rw[e];by_cases hz:q32 k.x k.y a.x a.y=0
   ·obtain⟨z1,z2⟩:=qpn hz;rw[z1,z2];grind
   ·have hkJ:=(memJ k).2 ⟨onI k hk hkp,hz⟩;have s:=slope k b (hDp k hkJ) hbD (hbm k hkJ);have g:=lag k b;apply Rat.not_lt.1;intro hn;have:=qLU (upos b hbD) (show 0 < -((k.x-a.x)*(b.y-a.y)-(k.y-a.y)*(b.x-a.x)) by grind);grind
 ·obtain⟨c,hc,hcm⟩:=qwY (fun k=>-(X k/D k)) J hJn;have hcD:=hDp c hc;obtain⟨hcI,hcf⟩:=(memJ c).1 hc;obtain⟨hcl,hcp⟩:=(memI c).1 hcI;have hXc:X c<0:=by have s:=slope c b hcD hbD (hbm c hc);apply Rat.not_le.1;intro hn;have m1:=qLJ hn (show 0<=D b by grind);have m2:=qLU (show 0 < -X b by grind) hcD;grind
  refine⟨a,hal,c,hcl,false,hcf,hap,by rw[hcp,hap],?_,fun k hk hkp=>?_⟩
  ·have e:(qt a c false).ax*(x-a.x)+(qt a c false).ay*(y-a.y)=-X c:=by rw[hX];unfold qt;simp only[qLQ,if_false];grind
   rw[e];grind
  ·have e:(qt a c false).ax*(k.x-a.x)+(qt a c false).ay*(k.y-a.y)=-((k.x-a.x)*(c.y-a.y)-(k.y-a.y)*(c.x-a.x)):=by unfold qt;simp only[qLQ,if_false];grind
   rw[e];by_cases hz:q32 k.x k.y a.x a.y=0
   ·obtain⟨z1,z2⟩:=qpn hz;rw[z1,z2];grind
   ·have hkJ:=(memJ k).2 ⟨onI k hk hkp,hz⟩;have hle:=hcm k hkJ;have s:=slope c k hcD (hDp k hkJ) (by grind);have g:=lag k c;apply Rat.not_lt.1;intro hn;have:=qLU (upos c hcD) (show 0<(k.x-a.x)*(c.y-a.y)-(k.y-a.y)*(c.x-a.x) by grind);grind
theorem qFH{l:List DQ}(hl:l≠[])(hs:∀d∈l,0<=d.s)(hm:qEP l) :(∃a∈l,∀d∈l,pw d a.x a.y<=0)\/∃a∈l,∃b∈l,∃neg,q32 b.x b.y a.x a.y≠0/\0<=(qt a b neg).h/\∀d∈l,q1T d (qt a b neg):=by
 obtain⟨x,y,hxy⟩:=hm;rcases qIx hl hs hxy with h|⟨a,ha,b,hb,X,Y,hf,hab,hmx,h0⟩
 ·exact .inl h
 ·right;have vtx:∀{a b k:DQ} {neg:Bool} {X Y:Rat},(qt a b neg).ax*(k.x-a.x)+(qt a b neg).ay*(k.y-a.y)<0->pw k X Y=pw a X Y->pw b X Y=pw a X Y->(∀d∈l,pw d X Y<=pw a X Y)->pw a X Y<=0->Vx l X Y (a,b,k):=by
   intro a b k neg X Y h1 h2 h3 h4 h5;refine⟨fun hA=>?_,h3,h2,h4,h5⟩;unfold qKs at hA;simp only at hA;unfold qt at h1;cases neg
   ·simp only[qLQ,if_false] at h1;grind
   ·simp only[if_true] at h1;grind
  have hneg:∃neg,0<=(qt a b neg).ax*(X-a.x)+(qt a b neg).ay*(Y-a.y):=by
   obtain⟨e1,e2⟩:=qAz a b;rcases Rat.le_total (a:=0) (b:=(qt a b false).ax*(X-a.x)+(qt a b false).ay*(Y-a.y)) with h|h
   ·exact⟨false,h⟩
   ·exact⟨true,by rw[e1,e2];grind⟩
  obtain⟨neg,hv⟩:=hneg;rcases qxd neg hf hab hmx h0 hv with⟨h1,h2⟩|⟨t,k,t0,hk,k1,k2,k3,k4,k5⟩
  ·exact⟨a,ha,b,hb,neg,hf,h1,h2⟩
  ·obtain⟨L,hL⟩:∃L,L=l.flatMap fun a=>l.flatMap fun b=>l.map fun c=>(a,b,c):=⟨_,rfl⟩;have memL:∀t:DQ×DQ×DQ,t∈L↔t.1∈l/\t.2.1∈l/\t.2.2∈l:=fun t=>by obtain⟨a,b,c⟩:=t;rw[hL];simp only[qNA,qMi,qM2];exact⟨fun⟨a',h1,b',h2,c',h3,e1,e2,e3⟩=>⟨e1▸h1,e2▸h2,e3▸h3⟩,fun⟨h1,h2,h3⟩=>⟨a,h1,b,h2,c,h3,rfl,rfl,rfl⟩⟩
   obtain⟨s,hs,u,v,hV,hmax⟩:=qDf l L ⟨(a,b,k),(memL _).2 ⟨ha,hb,hk⟩,_,_,vtx k1 k2 k3 k4 k5⟩;obtain⟨a',ha',b',hb',neg',hf',hp',hab',hv',hact⟩:=qDq ((memL s).1 hs) hV;rcases qxd neg' hf' hab' (fun d hd=>by rw[hp'];exact hV.2.2.2.1 d hd) (by rw[hp'];exact hV.2.2.2.2) hv' with⟨h1,h2⟩|⟨t,k,t0,hk,k1,k2,k3,k4,k5⟩
   ·exact⟨a',ha',b',hb',neg',hf',h1,h2⟩
   ·exfalso;have hm':=hmax (a',b',k) ((memL _).2 ⟨ha',hb',hk⟩) _ _ (vtx k1 k2 k3 k4 k5);simp only at hm';rw[<-hp'] at hm';obtain⟨f1,-⟩:=qqz neg' hf';have hpos:0<q32 b'.x b'.y a'.x a'.y:=by have:=qDW b'.x b'.y a'.x a'.y;grind
    generalize qt a' b' neg'=p at *;have t1:0<t:=by
     apply Rat.not_le.1;intro hn;have:t=0:=by grind
     rw[this] at k2;have e1:u+0*p.ax=u:=by grind
     have e2:v+0*p.ay=v:=by grind
     rw[e1,e2] at k2;have:=hact k hk k2;grind
    have e:pw a' (u+t*p.ax) (v+t*p.ay)=pw a' u v+2*(t*(p.ax*(u-a'.x)+p.ay*(v-a'.y)))+t*t*(p.ax*p.ax+p.ay*p.ay):=by unfold pw;grind
    rw[e,f1] at hm';have m1:=qLJ t0 hv';have m2:=qLU (qLU t1 t1) hpos;grind
variable {q:Rat}
def cls(q:Rat):Prop:=qn q<=5/\qd q<=1
def qJd(q:Rat):Prop:=qn q<=17/\qd q<=13
structure GD (d:DQ):Prop where
 x:cls d.x
 y:cls d.y
 s:qJd d.s
 nn:0<=d.s
theorem Bd.of_nl {m:Int}{k:Nat}(h:nl m<=k):Bd 1 k m:=by unfold Bd;have:=qIO h;omega
theorem Bd.of_le {C e:Nat}{x y:Int}(h:Bd C e y)(hxy:x.natAbs<=y.natAbs):Bd C e x:=qLu hxy h
theorem qtv (h:cls q):∃u v,WtD u v q/\u=5/\v=1:=⟨5,1,⟨Bd.of_nl h.1,Bd.of_nl (m:=(q.den:Int)) h.2,(Bd.of_nl (m:=(q.den:Int)) h.2).mono (by omega) (by omega)⟩,rfl,rfl⟩
theorem qKX (h:cls q):qJd q:=⟨by have:=h.1;omega,by have:=h.2;omega⟩
theorem qxi (h:qJd q):∃u v,WtD u v q/\u=17/\v=13:=⟨17,13,⟨Bd.of_nl h.1,Bd.of_nl (m:=(q.den:Int)) h.2,(Bd.of_nl (m:=(q.den:Int)) h.2).mono (by omega) (by omega)⟩,rfl,rfl⟩
theorem qmz (h:cls q):bnd 5 1 q:=h
theorem js (h:cls q):bnd 12 10 q:=(qmz h).mono (by omega) (by omega)
theorem q52 (h:qJd q):bnd 17 13 q:=h
theorem GD.sh {d:DQ}(h:GD d):d.sh:=⟨js h.x,js h.y,q52 h.s⟩
theorem qAm {a b d:DQ}(ga:GD a)(gb:GD b)(gd:GD d)(neg:Bool)(hf:(b.x-a.x)*(b.x-a.x)+(b.y-a.y)*(b.y-a.y)≠0)(oa:okQ (kA d (qt a b neg)))(ob:okQ (kB d (qt a b neg)))(oc:okQ (qt a b neg).h) :RootOk (kA d (qt a b neg)) (kB d (qt a b neg)) (qt a b neg).h:=by
 obtain⟨f1,f2,f3,f4⟩:=qy0 a b d neg hf;generalize kA d (qt a b neg)=A at *;generalize kB d (qt a b neg)=B at *;generalize (qt a b neg).h=H at *;obtain⟨hx1,vx1,wx1,ex1⟩:=qtv ga.x;obtain⟨hy1,vy1,wy1,ey1⟩:=qtv ga.y;obtain⟨hs1,vs1,ws1,es1⟩:=qxi ga.s;obtain⟨hx2,vx2,wx2,ex2⟩:=qtv gb.x;obtain⟨hy2,vy2,wy2,ey2⟩:=qtv gb.y;obtain⟨hs2,vs2,ws2,es2⟩:=qxi gb.s;obtain⟨hx3,vx3,wx3,ex3⟩:=qtv gd.x;obtain⟨hy3,vy3,wy3,ey3⟩:=qtv gd.y;obtain⟨hs3,vs3,ws3,es3⟩:=qxi gd.s;have k1:8*hx1+vx1<=41/\14*hx1+4*vx1<=74:=by omega
 have k2:8*hy1+vy1<=41/\14*hy1+4*vy1<=74:=by omega
 have k3:7*hx2+vx2<=36/\14*hx2+2*vx2<=72:=by omega
 have k4:7*hy2+vy2<=36/\14*hy2+2*vy2<=72:=by omega
 have k5:2*hx3+vx3<=11/\2*hx3+4*vx3<=14:=by omega
 have k6:2*hy3+vy3<=11/\2*hy3+4*vy3<=14:=by omega
 have k7:hs1+2*vs1<=43/\2*hs1+4*vs1<=86:=by omega
 have k8:hs2+2*vs2<=43/\2*hs2+4*vs2<=86:=by omega
 have k9:hs3<=17/\vs3<=13:=by omega
 clear ex1 ey1 es1 ex2 ey2 es2 ex3 ey3 es3;have p0:∀q:Rat,(q.den:Int)≠0:=fun q=>by have:=qBM q;omega
 have hM:iM a.x.num a.x.den a.y.num a.y.den a.s.den b.x.num b.x.den b.y.num b.y.den b.s.den d.x.den d.y.den d.s.den≠0:=by unfold iM iSq;have:=p0 a.x;have:=p0 a.y;have:=p0 a.s;have:=p0 b.x;have:=p0 b.y;have:=p0 b.s;have:=p0 d.x;have:=p0 d.y;have:=p0 d.s;exact Int.mul_ne_zero (Int.mul_ne_zero (Int.mul_ne_zero f4 (Int.mul_ne_zero (Int.mul_ne_zero ‹_› ‹_›) ‹_›)) (Int.mul_ne_zero (Int.mul_ne_zero (Int.mul_ne_zero ‹_› ‹_›) (Int.mul_ne_zero ‹_› ‹_›)) (Int.mul_ne_zero (Int.mul_ne_zero ‹_› ‹_›) (Int.mul_ne_zero ‹_› ‹_›)))) (Int.mul_ne_zero ‹_› ‹_›)
 have hQ:iQ a.x.den a.y.den b.x.den b.y.den d.x.den d.y.den≠0:=by unfold iQ;exact Int.mul_ne_zero (Int.mul_ne_zero (Int.mul_ne_zero (p0 _) (p0 _)) (p0 _)) (Int.mul_ne_zero (Int.mul_ne_zero (p0 _) (p0 _)) (p0 _))
 have hC:iCd a.x.num a.x.den a.y.num a.y.den a.s.den b.x.num b.x.den b.y.num b.y.den b.s.den≠0:=by unfold iCd;exact Int.mul_ne_zero (Int.mul_ne_zero (by omega) (Int.mul_ne_zero f4 f4)) (Int.mul_ne_zero (Int.mul_ne_zero (p0 _) (p0 _)) (Int.mul_ne_zero (p0 _) (p0 _)))
 obtain⟨g1,g2⟩:=qpj hM f1;obtain⟨g3,g4⟩:=qpj hQ f2;obtain⟨g5,g6⟩:=qpj hC f3;have b1:=(bA wx1.n wx1.dh wy1.n wy1.dh wx2.n wx2.dh wy2.n wy2.dh wx3.n wx3.dh wy3.n wy3.dh ws1.n ws1.dh ws2.n ws2.dh ws3.n ws3.dh).of_le (x:=A.num) g1;have b2:=(bM wx1.n wx1.dh wy1.n wy1.dh wx2.n wx2.dh wy2.n wy2.dh wx1.d wy1.d wx2.d wy2.d wx3.d wy3.d ws1.d ws2.d ws3.d).of_le (x:=(A.den:Int)) g2;have b3:Bd 16 (hx1+hx2+hx3+hy1+hy2+hy3) B.num:=by refine(bK wx1.n wx1.dh wy1.n wy1.dh wx2.n wx2.dh wy2.n wy2.dh wx3.n wx3.dh wy3.n wy3.dh).of_le (qLu g3 ?_);rw[qMG];cases neg<;>simp
 have b4:=(bQ wx1.d wy1.d wx2.d wy2.d wx3.d wy3.d).of_le (x:=(B.den:Int)) g4;have b5:=(bCn wx1.n wx1.dh wy1.n wy1.dh wx2.n wx2.dh wy2.n wy2.dh ws1.n ws1.dh ws2.n ws2.dh).of_le (x:=H.num) g5;have b6:=(bCd wx1.n wx1.dh wy1.n wy1.dh wx2.n wx2.dh wy2.n wy2.dh ws1.d ws2.d).of_le (x:=(H.den:Int)) g6;have X1:=b1.mul b4;have X:Bd 40960 500 (rX A B H):=(X1.mul b6).mono (by omega) (by omega);have Y:=b3.mul b2;have R:=b5.mul b6;have XX:=(X.mul X).mono (C':=1677721600) (e':=1000) (by omega) (by omega);have YY:=Y.mul Y;have YR:=(YY.mul R).mono (C':=553648128) (e':=972) (by omega) (by omega);have c10:(1000000000:Nat)<=10^9:=by decide
 exact { oa:=oa,ob:=ob,oc:=oc,x1:=X1.okL (k:=9) (by omega) (by omega) (by omega),x:=X.okL (k:=9) (by omega) (by omega) (by omega),y:=Y.okL (k:=9) (by omega) (by omega) (by omega),r:=R.okL (k:=9) (by omega) (by omega) (by omega),xx:=XX.okL (k:=10) (by decide) (by omega) (by omega),yy:=YY.okL (k:=9) (by omega) (by omega) (by omega),yr:=YR.okL (k:=9) (by omega) (by omega) (by omega),d:=((XX.mono (C':=1677721600) (e':=1000) (by omega) (by omega)).sub (YR.mono (C':=553648128) (e':=1000) (by omega) (by omega))).okL (k:=10) (by decide) (by omega) (by omega) }
end Go.Eng

namespace Go.Eng
theorem qL1{far c:Rat}(h0:far≠0)(hf:bnd 19 8 far)(hc:bnd 31 26 c):bnd 108 108 ((far+c)/(2*far)):=by
 have hn:far.num≠0:=fun h=>h0 (Rat.num_eq_zero.1 h);have hm:2*(far.num*(c.den:Int))≠0:=by have:=qBM c;exact Int.mul_ne_zero (by omega) (Int.mul_ne_zero hn (by omega))
 have h2f:2*far≠0:=by grind
 have key:(far+c)/(2*far)*((2*(far.num*(c.den:Int)):Int):Rat)=((far.num*(c.den:Int)+c.num*(far.den:Int):Int):Rat):=by
  have e1:=qg7 far;have e2:=qg7 c;have e3:(far+c)/(2*far)*(2*far)=far+c:=Rat.div_mul_cancel h2f;have f2:((2:Int):Rat)=2:=by simp
  simp only[qMl,qLK,Rat.intCast_natCast,e1,e2,f2];generalize (far+c)/(2*far)=q at *;generalize (far.den:Rat)=fd at *;generalize (c.den:Rat)=cd at *;have e4:q*(2*(far*fd*cd))=q*(2*far)*(fd*cd):=by grind
  rw[e4,e3];grind
 obtain⟨k1,k2⟩:=qpj hm key;have g1:=qkK k1;have g2:=qBX k2;have a1:=qwi (far.num*(c.den:Int)) (c.num*(far.den:Int));have a2:=q3a far.num (c.den:Int);have a3:=q3a c.num (far.den:Int);have a4:=q3a 2 (far.num*(c.den:Int));have a5:nl 2=1:=by decide
 have a6:dl (2*(far.num*(c.den:Int))).natAbs=nl (2*(far.num*(c.den:Int))):=rfl;have b1:nl far.num<=19:=hf.1;have b2:nl (far.den:Int)<=8:=hf.2;have b3:nl c.num<=31:=hc.1;have b4:nl (c.den:Int)<=26:=hc.2;refine⟨?_,?_⟩
 ·show nl _<=108;omega
 ·show dl _<=108;omega
structure PB (p:SQ):Prop where
 fx:bnd 142 138 p.fx
 fy:bnd 142 138 p.fy
 ax:bnd 23 20 p.ax
 ay:bnd 23 20 p.ay
 h:bnd 314 313 p.h
theorem qLb(a:Rat):0-a=-a:=by grind
theorem qzr{a b:DQ}(ga:GD a)(gb:GD b):bnd 7 2 (b.x-a.x)/\bnd 7 2 (b.y-a.y)/\bnd 19 8 (q32 b.x b.y a.x a.y):=by
 have k1:=(qmz gb.x).sub (qmz ga.x) (K:=7) (by omega) (by omega);have k2:=(qmz gb.y).sub (qmz ga.y) (K:=7) (by omega) (by omega);refine⟨k1,k2,?_⟩;have k3:=qqT k1 k2 k1 k2;have e:q32 b.x b.y a.x a.y=(b.x-a.x)*(b.x-a.x)+(b.y-a.y)*(b.y-a.y):=by unfold q32;grind
 rw[e];exact k3
theorem qDA{a b:DQ}(ga:GD a)(gb:GD b)(hf:q32 b.x b.y a.x a.y≠0):bnd 108 108 ((q32 b.x b.y a.x a.y+a.s-b.s)/(2*q32 b.x b.y a.x a.y)):=by rw[show q32 b.x b.y a.x a.y+a.s-b.s=q32 b.x b.y a.x a.y+(a.s-b.s) by grind];exact qL1 hf (qzr ga gb).2.2 ((q52 ga.s).sub (q52 gb.s) (by omega) (by omega))
theorem qlT(a b:DQ)(neg:Bool):qt a b neg=⟨a.x+(q32 b.x b.y a.x a.y+a.s-b.s)/(2*q32 b.x b.y a.x a.y)*(b.x-a.x),a.y+(q32 b.x b.y a.x a.y+a.s-b.s)/(2*q32 b.x b.y a.x a.y)*(b.y-a.y),if neg then b.y-a.y else 0-(b.y-a.y),if neg then 0-(b.x-a.x) else b.x-a.x,a.s/q32 b.x b.y a.x a.y-(q32 b.x b.y a.x a.y+a.s-b.s)/(2*q32 b.x b.y a.x a.y)*((q32 b.x b.y a.x a.y+a.s-b.s)/(2*q32 b.x b.y a.x a.y))⟩:=rfl
theorem qmH{a b:DQ}(ga:GD a)(gb:GD b)(neg:Bool)(hf:q32 b.x b.y a.x a.y≠0):PB (qt a b neg):=by
 have dx:=q87 (js gb.x) (js ga.x);have dy:=q87 (js gb.y) (js ga.y);have far:=(qzr ga gb).2.2;have ht:=qDA ga gb hf;rw[qlT];have nx:bnd 23 20 (0-(b.x-a.x)):=by rw[qLb];exact dx.neg
 have ny:bnd 23 20 (0-(b.y-a.y)):=by rw[qLb];exact dy.neg
 have hh:=(((q52 ga.s).div hf far).sub (ht.mul ht) (K:=314) (by omega) (by omega)).mono (N':=314) (D':=313) (by omega) (by omega);have hx:=(js ga.x).add (ht.mul dx) (K:=142) (by omega) (by omega);have hy:=(js ga.y).add (ht.mul dy) (K:=142) (by omega) (by omega);exact⟨hx,hy,by cases neg<;>assumption,by cases neg<;>assumption,hh⟩
theorem PB.m{p:SQ}{d:DQ}(hp:PB p)(gd:GD d):bnd 153 148 (p.fx-d.x)/\bnd 153 148 (p.fy-d.y):=⟨hp.fx.sub (js gd.x) (by omega) (by omega),hp.fy.sub (js gd.y) (by omega) (by omega)⟩
theorem PB.mm{p:SQ}{d:DQ}(hp:PB p)(gd:GD d):bnd 603 592 ((p.fx-d.x)*(p.fx-d.x)+(p.fy-d.y)*(p.fy-d.y)):=qqT (hp.m gd).1 (hp.m gd).2 (hp.m gd).1 (hp.m gd).2
theorem PB.aa{p:SQ}(hp:PB p):bnd 87 80 (p.ax*p.ax+p.ay*p.ay):=qqT hp.ax hp.ay hp.ax hp.ay
theorem PB.ha{p:SQ}(hp:PB p):bnd 401 393 (p.h*(p.ax*p.ax+p.ay*p.ay)):=hp.h.mul hp.aa
theorem PB.x{p:SQ}{d:DQ}(hp:PB p)(gd:GD d):bnd 997 985 ((p.fx-d.x)*(p.fx-d.x)+(p.fy-d.y)*(p.fy-d.y)+p.h*(p.ax*p.ax+p.ay*p.ay)):=(hp.mm gd).add hp.ha (by omega) (by omega)
theorem PB.ma{p:SQ}{d:DQ}(hp:PB p)(gd:GD d):bnd 345 336 ((p.fx-d.x)*p.ax+(p.fy-d.y)*p.ay):=qqT (hp.m gd).1 (hp.m gd).2 hp.ax hp.ay
theorem PB.kA{p:SQ}{d:DQ}(hp:PB p)(gd:GD d):bnd 1011 998 (kA d p):=(hp.x gd).sub (q52 gd.s) (by omega) (by omega)
theorem PB.kB{p:SQ}{d:DQ}(hp:PB p)(gd:GD d):bnd 346 337 (kB d p):=qrH.mul (hp.ma gd)
structure PG (p:SQ):Prop where
 pb:PB p
 nn:0<=p.h
 root:∀d,GD d->RootOk (kA d p) (kB d p) p.h
theorem qGs{a b:DQ}(ga:GD a)(gb:GD b)(neg:Bool)(hf:q32 b.x b.y a.x a.y≠0)(hn:0<=(qt a b neg).h):PG (qt a b neg):=⟨qmH ga gb neg hf,hn,fun _ gd=>qAm ga gb gd neg hf (((qmH ga gb neg hf).kA gd).ok (by omega) (by omega)) (((qmH ga gb neg hf).kB gd).ok (by omega) (by omega)) ((qmH ga gb neg hf).h.ok (by omega) (by omega))⟩
theorem qJt{a:DQ}(ga:GD a):PG ⟨a.x,a.y,0,0,0⟩:=by
 refine⟨⟨(js ga.x).mono (by omega) (by omega),(js ga.y).mono (by omega) (by omega),q0q.mono (by omega) (by omega),q0q.mono (by omega) (by omega),q0q.mono (by omega) (by omega)⟩,qMF,fun d gd=>?_⟩;have e1:Go.Eng.kA d ⟨a.x,a.y,0,0,0⟩=q32 a.x a.y d.x d.y-d.s:=by unfold Go.Eng.kA q32;grind
 have e2:Go.Eng.kB d ⟨a.x,a.y,0,0,0⟩=0:=by unfold Go.Eng.kB;grind
 rw[e1,e2];have f1:bnd 101 93 (q32 a.x a.y d.x d.y-d.s):=(quk (js ga.x) (js ga.y) (js gd.x) (js gd.y)).sub (q52 gd.s) (by omega) (by omega);exact RootOk.of f1 q0q q0q (by omega) (by omega)
theorem qD7{d:DQ}{p:SQ}(gd:GD d)(hp:PG p) :(yu [.s (tQ d.x),.s (tQ d.y),.s (tQ d.s),.s (tQ p.fx),.s (tQ p.fy),.s (tQ p.ax),.s (tQ p.ay),.s (tQ p.h),.i 0]).run=some (0,[.b (decide (q1T d p)),.i 0]):=by rw[qjY];have hr:=qE5 (hp.root d gd) hp.nn;obtain⟨hp,-,-⟩:=hp;obtain⟨m1,m2⟩:=hp.m gd;have h0:=qE8 hp.fx hp.fy (js gd.x) (js gd.y) (by omega) (by omega) (by omega);have h1:=qEF m1 m2 m1 m2 (by omega) (by omega);have h2:=qEF hp.ax hp.ay hp.ax hp.ay (by omega) (by omega);have h3:=quC hp.h hp.aa (by omega) (by omega);have h4:=qBi (hp.mm gd) hp.ha (by omega) (by omega) (by omega);have h5:=quP (hp.x gd) (q52 gd.s) (by omega) (by omega) (by omega);have h6:=qEF m1 m2 hp.ax hp.ay (by omega) (by omega);have h7:=quC qrH (hp.ma gd) (by omega) (by omega);rw[qCZ] at h7;have e:q1T d p=(qeX (Go.Eng.kA d p) (Go.Eng.kB d p) p.h<=0):=rfl;unfold Go.Eng.kA Go.Eng.kB at hr e;simp only[STD,h0,h1,h2,h3,h4,h5,h6,h7,hr,e];rfl
def qgU(d:DQ):List U:=[.s (tQ d.x),.s (tQ d.y),.s (tQ d.s)]
def rD(l:List DQ):R:=l.map qgU
def ix(l:List DQ)(i:Nat):DQ:=l.getD i ⟨0,0,0⟩
theorem ww(l:List DQ):qm (rD l)=(l.length:Int):=by simp[qm,rD]
theorem qtI{l:List DQ}{i:Nat}(h:i<l.length):cS (rD l) (i:Int) 0=tQ (ix l i).x/\cS (rD l) (i:Int) 1=tQ (ix l i).y/\cS (rD l) (i:Int) 2=tQ (ix l i).s:=by unfold cS wD rD ix;simp[h,qgU,U.toS]
theorem qH8{l:List DQ}{i:Nat}(h:i<l.length):ix l i∈l:=by unfold ix;simp[h]
def qci(a b:DQ)(same:Bool)(side:Int):Option SQ:=
 if same then (if side=0 then some ⟨a.x,a.y,0,0,0⟩ else none)
 else if q32 b.x b.y a.x a.y=0 then none
 else if 0<=(qt a b (decide (side<0))).h/\((qt a b (decide (side<0))).h=0↔side=0) then some (qt a b (decide (side<0))) else none
theorem qGd{a b:DQ}(ga:GD a)(gb:GD b){same:Bool}{side:Int}{p:SQ}(h:qci a b same side=some p):PG p:=by
 unfold qci at h;split at h
 ·split at h
  ·cases h;exact qJt ga
  ·cases h
 ·split at h
  ·cases h
  ·rename_i hf;split at h
   ·rename_i hc;cases h;exact qGs ga gb _ hf hc.1
   ·cases h
def q5w(l:List DQ)(i j:Nat)(side:Int):Bool:=
 match qci (ix l i) (ix l j) (decide (i=j)) side with
 | none=>false
 | some p=>l.all fun d=>decide (q1T d p)
def qq7(l:List DQ)(i j:Nat)(side:Int):Option (Nat×Nat×Int):=if q5w l i j side then some (i,j,side) else none
def qgC(l:List DQ)(i j:Nat):Option (Nat×Nat×Int):=
 match qq7 l i j 0 with
 | some w=>some w
 | none=>match qq7 l i j 1 with
  | some w=>some w
  | none=>qq7 l i j (-1)
def kK(l:List DQ):Option (Nat×Nat×Int):=
 match q0z (fun i=>qq7 l i i 0) 0 l.length with
 | some w=>some w
 | none=>q0z (fun i=>q0z (fun k=>qgC l i (i+1+k)) 0 (l.length-(i+1))) 0 l.length
theorem qBc(d a:DQ):q1T d ⟨a.x,a.y,0,0,0⟩↔pw d a.x a.y<=0:=by
 have e1:kA d ⟨a.x,a.y,0,0,0⟩=pw d a.x a.y:=by unfold kA pw;grind
 have e2:kB d ⟨a.x,a.y,0,0,0⟩=0:=by unfold kB;grind
 unfold q1T;rw[e1,e2];simp only[qtF,qiK]
theorem qwX{d:DQ}{p q:SQ}(hA:kA d p=kA d q)(hB:kB d p=kB d q)(hh:p.h=q.h):q1T d p↔q1T d q:=by unfold q1T;rw[hA,hB,hh]
theorem qru{d:DQ}{p:SQ}(hh:p.h=0):q1T d p↔kA d p<=0:=by
 unfold q1T;rw[hh,quM (by grind)];constructor
 ·rintro (⟨h,-⟩|⟨h1,h2,h3⟩)
  ·exact h
  ·have:=qLU h1 h1;grind
 ·intro h;exact .inl ⟨h,.inr (.inl rfl)⟩
theorem qAK{a b:DQ}(neg:Bool)(hf:q32 b.x b.y a.x a.y≠0) :(qt b a (!neg)).fx=(qt a b neg).fx/\(qt b a (!neg)).fy=(qt a b neg).fy/\(qt b a (!neg)).ax=(qt a b neg).ax/\(qt b a (!neg)).ay=(qt a b neg).ay/\(qt b a (!neg)).h=(qt a b neg).h:=by
 have hsw:q32 a.x a.y b.x b.y=q32 b.x b.y a.x a.y:=by unfold q32;grind
 rw[qlT,qlT,hsw];generalize q32 b.x b.y a.x a.y=far at *;have h2f:2*far≠0:=by grind
 have h1:(far+b.s-a.s)/(2*far)*(2*far)=far+b.s-a.s:=Rat.div_mul_cancel h2f;have h2:(far+a.s-b.s)/(2*far)*(2*far)=far+a.s-b.s:=Rat.div_mul_cancel h2f;have h3:a.s/far*far=a.s:=Rat.div_mul_cancel hf;have h4:b.s/far*far=b.s:=Rat.div_mul_cancel hf;generalize (far+b.s-a.s)/(2*far)=u at *;generalize (far+a.s-b.s)/(2*far)=t at *;generalize a.s/far=p at *;generalize b.s/far=q at *;have cancel:∀z:Rat,z*far=0->z=0:=fun z hz=>by
  rcases qMT.1 hz with h|h
  ·exact h
  ·exact absurd h hf
 have hu:u=1-t:=by have:=cancel (u-(1-t)) (by grind);grind
 have hpq:q=p-t*t+(1-t)*(1-t):=by have:=cancel (q-(p-t*t+(1-t)*(1-t))) (by grind);grind
 simp only;refine⟨by rw[hu];grind,by rw[hu];grind,?_,?_,by rw[hu,hpq];grind⟩
 ·cases neg<;>simp only[Bool.not_false,Bool.not_true,qLQ,if_false,if_true]<;>grind
 ·cases neg<;>simp only[Bool.not_false,Bool.not_true,qLQ,if_false,if_true]<;>grind
theorem qmb{l:List DQ}{d:DQ}(h:d∈l):∃i,i<l.length/\ix l i=d:=by obtain⟨i,hi,e⟩:=List.getElem_of_mem h;exact⟨i,hi,by unfold ix;simp[hi,e]⟩
def Wit(l:List DQ):Prop:=(∃i,i<l.length/\q5w l i i 0=true)\/∃i j side,i<j/\j<l.length/\(side=0\/side=1\/side=-1)/\q5w l i j side=true
theorem qe2{l:List DQ}{i j:Nat}{side:Int}:q5w l i j side=true↔∃p,qci (ix l i) (ix l j) (decide (i=j)) side=some p/\∀d∈l,q1T d p:=by
 unfold q5w;cases h:qci (ix l i) (ix l j) (decide (i=j)) side with
 | none=>simp
 | some p=>simp
theorem qFw{a b:DQ}{same:Bool}{side:Int}{p:SQ}(h:qci a b same side=some p):0<=p.h:=by
 unfold qci at h;split at h
 ·split at h
  ·cases h;exact qMF
  ·cases h
 ·split at h
  ·cases h
  ·split at h
   ·rename_i hc;cases h;exact hc.1
   ·cases h
theorem qs1{l:List DQ}{i j:Nat}{side:Int}(h:q5w l i j side=true):qEP l:=by obtain⟨p,h1,h2⟩:=qe2.1 h;exact quX (qFw h1) h2
theorem qy2{l:List DQ}(hl:l≠[])(hs:∀d∈l,0<=d.s)(hm:qEP l):Wit l:=by
 rcases qFH hl hs hm with⟨a,ha,h⟩|⟨a,ha,b,hb,neg,hf,h0,hk⟩
 ·obtain⟨i,hi,rfl⟩:=qmb ha;refine .inl ⟨i,hi,qe2.2 ⟨⟨(ix l i).x,(ix l i).y,0,0,0⟩,?_,fun d hd=>(qBc d _).2 (h d hd)⟩⟩;unfold qci;simp
 ·have main:∀(i j:Nat) (neg:Bool),i<j->j<l.length->q32 (ix l j).x (ix l j).y (ix l i).x (ix l i).y≠0->0<=(qt (ix l i) (ix l j) neg).h->(∀d∈l,q1T d (qt (ix l i) (ix l j) neg))->Wit l:=by
   intro i j neg hij hj hf h0 hk;by_cases hz:(qt (ix l i) (ix l j) neg).h=0
   ·have hz':(qt (ix l i) (ix l j) false).h=0:=hz;refine .inr ⟨i,j,0,hij,hj,.inl rfl,qe2.2 ⟨qt (ix l i) (ix l j) false,?_,fun d hd=>?_⟩⟩
    ·unfold qci;rw[if_neg (by simp;omega),if_neg hf];simp[hz']
    ·have:=(qru hz).1 (hk d hd);rw[qru hz'];have e:kA d (qt (ix l i) (ix l j) false)=kA d (qt (ix l i) (ix l j) neg):=by unfold kA;rw[hz,hz'];have e1:(qt (ix l i) (ix l j) false).fx=(qt (ix l i) (ix l j) neg).fx:=rfl;have e2:(qt (ix l i) (ix l j) false).fy=(qt (ix l i) (ix l j) neg).fy:=rfl;rw[e1,e2];grind
     rw[e];exact this
   ·cases neg
    ·refine .inr ⟨i,j,1,hij,hj,.inr (.inl rfl),qe2.2 ⟨qt (ix l i) (ix l j) false,?_,hk⟩⟩;unfold qci;rw[if_neg (by simp;omega),if_neg hf];simp[hz,h0]
    ·refine .inr ⟨i,j,-1,hij,hj,.inr (.inr rfl),qe2.2 ⟨qt (ix l i) (ix l j) true,?_,hk⟩⟩;unfold qci;rw[if_neg (by simp;omega),if_neg hf];simp[hz,h0]
  obtain⟨i,hi,rfl⟩:=qmb ha;obtain⟨j,hj,rfl⟩:=qmb hb;rcases Nat.lt_trichotomy i j with hij|rfl|hij
  ·exact main i j neg hij hj hf h0 hk
  ·exact absurd (by unfold q32;grind) hf
  ·obtain⟨e1,e2,e3,e4,e5⟩:=qAK neg hf;refine main j i (!neg) hij hi ?_ (by rw[e5];exact h0) fun d hd=>?_
   ·intro h;apply hf;unfold q32 at *;grind
   ·refine(qwX ?_ ?_ e5).2 (hk d hd)
    ·unfold kA;rw[e1,e2,e3,e4,e5]
    ·unfold kB;rw[e1,e2,e3,e4]
theorem qm6{l:List DQ}{i j:Nat}{side:Int}{w:Nat×Nat×Int}(h:qq7 l i j side=some w):w=(i,j,side)/\q5w l i j side=true:=by
 unfold qq7 at h;split at h
 ·cases h;exact⟨rfl,by assumption⟩
 ·cases h
theorem qm5{l:List DQ}{i j:Nat}{side:Int}(h:qq7 l i j side=none):q5w l i j side=false:=by
 unfold qq7 at h;split at h
 ·cases h
 ·simp_all
theorem qeB{α:Type}{f:Nat->Option α}{a:α}:∀{k i:Nat},q0z f i k=some a->∃j,i<=j/\j<i+k/\f j=some a/\∀m,i<=m->m<j->f m=none
 | 0,i,h=>by cases h
 | k+1,i,h=>by
  simp only[q0z] at h;cases hf:f i with
  | some b=>rw[hf] at h;exact⟨i,qLs _,by omega,by rw[hf];exact h,fun m h1 h2=>by omega⟩
  | none=>
   rw[hf] at h;obtain⟨j,h1,h2,h3,h4⟩:=qeB h;refine⟨j,by omega,by omega,h3,fun m m1 m2=>?_⟩;rcases qN4 m1 with rfl|m1
   ·exact hf
   ·exact h4 m m1 m2
theorem qyX{l:List DQ}{i j:Nat}{w:Nat×Nat×Int}(h:qgC l i j=some w):∃side,w=(i,j,side)/\(side=0\/side=1\/side=-1)/\q5w l i j side=true:=by
 unfold qgC at h;cases h0:qq7 l i j 0 with
 | some v=>rw[h0] at h;simp only at h;cases h;obtain⟨e1,e2⟩:=qm6 h0;exact⟨0,e1,.inl rfl,e2⟩
 | none=>
  rw[h0] at h;simp only at h;cases h1:qq7 l i j 1 with
  | some v=>rw[h1] at h;simp only at h;cases h;obtain⟨e1,e2⟩:=qm6 h1;exact⟨1,e1,.inr (.inl rfl),e2⟩
  | none=>
   rw[h1] at h;simp only at h;obtain⟨e1,e2⟩:=qm6 h;exact⟨-1,e1,.inr (.inr rfl),e2⟩
theorem qyH{l:List DQ}{i j:Nat}(h:qgC l i j=none):∀side:Int,side=0\/side=1\/side=-1->q5w l i j side=false:=by
 unfold qgC at h;cases h0:qq7 l i j 0 with
 | some v=>rw[h0] at h;cases h
 | none=>
  rw[h0] at h;simp only at h;cases h1:qq7 l i j 1 with
  | some v=>rw[h1] at h;cases h
  | none=>
   rw[h1] at h;simp only at h;rintro side (rfl|rfl|rfl)
   ·exact qm5 h0
   ·exact qm5 h1
   ·exact qm5 h
theorem qyt{l:List DQ}{w:Nat×Nat×Int}(h:kK l=some w):q5w l w.1 w.2.1 w.2.2=true/\w.1<=w.2.1/\w.2.1<l.length/\(w.2.2=0\/w.2.2=1\/w.2.2=-1)/\(w.1=w.2.1->w.2.2=0):=by
 unfold kK at h;cases h0:q0z (fun i=>qq7 l i i 0) 0 l.length with
 | some v=>
  rw[h0] at h;simp only at h;cases h;obtain⟨i,-,hi,hf,-⟩:=qeB h0;obtain⟨rfl,e⟩:=qm6 hf;exact⟨e,qLs _,by simpa using hi,.inl rfl,fun _=>rfl⟩
 | none=>
  rw[h0] at h;simp only at h;obtain⟨i,-,hi,hf,-⟩:=qeB h;obtain⟨k,-,hk,hf,-⟩:=qeB hf;obtain⟨side,rfl,h1,h2⟩:=qyX hf;exact⟨h2,by simp only;omega,by simp only;omega,h1,fun h=>by simp only at h;omega⟩
theorem qyg{l:List DQ}(h:kK l=none):¬Wit l:=by
 unfold kK at h;cases h0:q0z (fun i=>qq7 l i i 0) 0 l.length with
 | some v=>rw[h0] at h;cases h
 | none=>
  rw[h0] at h;simp only at h;rintro (⟨i,hi,hp⟩|⟨i,j,side,hij,hj,hs,hp⟩)
  ·have:=qm5 (q6W h0 i (by omega) (by omega));simp_all
  ·have h1:=q6W h i (by omega) (by omega);have h2:=q6W h1 (j-(i+1)) (by omega) (by omega);simp only[show i+1+(j-(i+1))=j by omega] at h2;have:=qyH h2 side hs;simp_all
theorem qAR{l:List DQ}(hl:l≠[])(hs:∀d∈l,0<=d.s):(kK l).isSome=true↔qEP l:=by
 constructor
 ·intro h;cases hf:kK l with
  | none=>rw[hf] at h;cases h
  | some w=>exact qs1 (qyt hf).1
 ·intro h;cases hf:kK l with
  | none=>exact absurd (qy2 hl hs h) (qyg hf)
  | some w=>rfl
def GDs(l:List DQ):Prop:=∀d∈l,GD d
theorem GDs.ix{l:List DQ}(h:GDs l){i:Nat}(hi:i<l.length):GD (ix l i):=h _ (qH8 hi)
theorem qFB(q:Rat):(seq (tQ q) [48]=true)=(q=0):=by rw[zj,qeO]
theorem qn9(q:Rat):(0:Int)<qw (tQ q):=by have h1:=qr5 q;have h2:=qlj q;unfold qw;omega
theorem qLc(i:Nat):((i:Int)=(i:Int))=True:=by simp
def plc(p:SQ):List PV:=[.s (tQ p.fx),.s (tQ p.fy),.s (tQ p.ax),.s (tQ p.ay),.s (tQ p.h)]
theorem qnE(q:Rat):(¬(tQ q).getD 0 0=45)=(0<=q):=by
 by_cases h:0<=q
 ·exact propext ⟨fun _=>h,fun _=>qIq h⟩
 ·have:=qK0 (c:=q) (by grind);exact propext ⟨fun h'=>absurd this h',fun h'=>absurd h' h⟩
theorem qIm(b:Bool)(p q:Prop)[Decidable p][Decidable q](hb:(b=true)=p):(Go.Eng.beq b (decide q))=decide (p↔q):=by subst hb;by_cases hq:q<;>cases b<;>simp[Go.Eng.beq,hq]<;>rfl
set_option maxHeartbeats 2000000 in
theorem qIC{l:List DQ}(hl:GDs l){i j:Nat}(hi:i<l.length)(hj:j<l.length)(side:Int) :(qci (ix l i) (ix l j) (decide (i=j)) side=none/\∃a b c d e,(jd [.r (rD l),.i (i:Int),.i (j:Int),.i side,.i 0]).run=some (0,[.s a,.s b,.s c,.s d,.s e,.b false,.i 0])) \/∃p,qci (ix l i) (ix l j) (decide (i=j)) side=some p/\(jd [.r (rD l),.i (i:Int),.i (j:Int),.i side,.i 0]).run=some (0,plc p++[.b true,.i 0]):=by
 rw[qkE];obtain⟨x1,x2,x3⟩:=qtI hi;obtain⟨y1,y2,y3⟩:=qtI hj;have ga:=hl.ix hi;have gb:=hl.ix hj;have bi:0<=(i:Int)/\(i:Int)<qm (rD l):=by rw[ww];omega
 have bj:0<=(j:Int)/\(j:Int)<qm (rD l):=by rw[ww];omega
 obtain⟨a,ha⟩:∃a,a=ix l i:=⟨_,rfl⟩;obtain⟨b,hb⟩:∃b,b=ix l j:=⟨_,rfl⟩;rw[<-ha] at x1 x2 x3 ga ⊢;rw[<-hb] at y1 y2 y3 gb ⊢;simp only[x1,x2,x3,y1,y2,y3];clear x1 x2 x3 y1 y2 y3 hb;unfold qci plc;by_cases hij:i=j
 ·subst hij;have z:tQ 0=[48]:=rfl;by_cases hs:side=0
  ·subst hs;right;refine⟨⟨a.x,a.y,0,0,0⟩,by simp,?_⟩;have e:ieq 0 0=true:=rfl;simp only[STD,bi,and_self,z,e];rfl
  ·left;refine⟨by simp[hs],tQ a.x,tQ a.y,[48],[48],[48],?_⟩;have e:ieq side 0=false:=by simp[ieq,hs]
   simp only[STD,bi,and_self,e]
 ·have hij':¬(i:Int)=(j:Int):=by omega
  obtain⟨a1,a2,a3⟩:=ga.sh;obtain⟨b1,b2,b3⟩:=gb.sh;have dx:=q87 b1 a1;have dy:=q87 b2 a2;have far:=quk b1 b2 a1 a2;have h0:=qE8 b1 b2 a1 a2 (by omega) (by omega) (by omega);have h1:=qEF dx dy dx dy (by omega) (by omega);have hfd:(b.x-a.x)*(b.x-a.x)+(b.y-a.y)*(b.y-a.y)=q32 b.x b.y a.x a.y:=rfl;rw[hfd] at h1;by_cases hf:q32 b.x b.y a.x a.y=0
  ·left;refine⟨by simp[hij,hf],[],[],[],[],[],?_⟩;simp only[STD,bi,bj,and_self,hij',h0,h1,qFB,hf]
  ·have hpb:=fun neg=>qmH ga gb neg hf;have ht:=qDA ga gb hf;have n1:bnd 101 93 (q32 b.x b.y a.x a.y+a.s):=far.add a3 (by omega) (by omega);have h2:=qBi far a3 (by omega) (by omega) (by omega);have n2:bnd 115 106 (q32 b.x b.y a.x a.y+a.s-b.s):=n1.sub b3 (by omega) (by omega);have h3:=quP n1 b3 (by omega) (by omega) (by omega);have h4:=quC qrH far (by omega) (by omega);rw[qCZ] at h4;have n4:=qrH.mul far;have hf2:2*q32 b.x b.y a.x a.y≠0:=by grind
   have h5:=qK6 hf2 n2 n4 (by omega) (by omega);have h6:=quC ht dx (by omega) (by omega);have h7:=qBi a1 (ht.mul dx) (by omega) (by omega) (by omega);have h8:=quC ht dy (by omega) (by omega);have h9:=qBi a2 (ht.mul dy) (by omega) (by omega) (by omega);have h10:=quP q0q dy (by omega) (by omega) (by omega);have h14:=quP q0q dx (by omega) (by omega) (by omega);rw[show tQ 0=[48] from rfl] at h10 h14;have h11:=qK6 hf a3 far (by omega) (by omega);have h12:=quC ht ht (by omega) (by omega);have h13:=quP (a3.div hf far) (ht.mul ht) (by omega) (by omega) (by omega);have hbd:=fun (q:Rat)=>qIm (seq (tQ q) [48]) (q=0) (side=0) (qFB q);have hie:ieq side 0=decide (side=0):=rfl;rw[if_neg (by simp[hij]),if_neg hf];obtain⟨p,hcr'⟩:∃p,p=qt a b (decide (side<0)):=⟨_,rfl⟩;rw[<-hcr'];have hcr:=hcr'.symm;clear hcr';rw[qlT] at hcr;obtain⟨t,htt⟩:∃t,t=(q32 b.x b.y a.x a.y+a.s-b.s)/(2*q32 b.x b.y a.x a.y):=⟨_,rfl⟩;rw[<-htt] at hcr h5 h6 h7 h8 h9 h12 h13;obtain⟨h,hh⟩:∃h,h=a.s/q32 b.x b.y a.x a.y-t*t:=⟨_,rfl⟩;rw[<-hh] at hcr h13;have hp5:p.h=h:=by rw[<-hcr]
   by_cases hs:side<0
   ·simp only[hs,decide_true,if_true] at hcr;by_cases hn:0<=h
    ·by_cases hz:(h=0↔side=0)
     ·right;refine⟨p,by rw[if_pos ⟨by rw[hp5];exact hn,by rw[hp5];exact hz⟩],?_⟩;rw[<-hcr];simp only[STD,bi,bj,and_self,hij',h0,h1,h2,h3,h4,h5,h6,h7,h8,h9,h10,h11,h12,h13,h14,qFB,hf,hs,qLG,qn9,ql7,qnE,hn,hie,hbd,hz,decide_true];rfl
     ·left;refine⟨by rw[if_neg (by rw[hp5];exact fun c=>hz c.2)],tQ p.fx,tQ p.fy,tQ p.ax,tQ p.ay,tQ p.h,?_⟩;rw[<-hcr];simp only[STD,bi,bj,and_self,hij',h0,h1,h2,h3,h4,h5,h6,h7,h8,h9,h10,h11,h12,h13,h14,qFB,hf,hs,qLG,qn9,ql7,qnE,hn,hie,hbd,hz,decide_false]
    ·left;refine⟨by rw[if_neg (by rw[hp5];exact fun c=>hn c.1)],tQ p.fx,tQ p.fy,tQ p.ax,tQ p.ay,tQ p.h,?_⟩;rw[<-hcr];simp only[STD,bi,bj,and_self,hij',h0,h1,h2,h3,h4,h5,h6,h7,h8,h9,h10,h11,h12,h13,h14,qFB,hf,hs,qLG,qn9,ql7,qnE,hn]
   ·simp only[hs,decide_false,qLQ,if_false] at hcr;by_cases hn:0<=h
    ·by_cases hz:(h=0↔side=0)
     ·right;refine⟨p,by rw[if_pos ⟨by rw[hp5];exact hn,by rw[hp5];exact hz⟩],?_⟩;rw[<-hcr];simp only[STD,bi,bj,and_self,hij',h0,h1,h2,h3,h4,h5,h6,h7,h8,h9,h10,h11,h12,h13,h14,qFB,hf,hs,qLG,qn9,ql7,qnE,hn,hie,hbd,hz,decide_true];rfl
     ·left;refine⟨by rw[if_neg (by rw[hp5];exact fun c=>hz c.2)],tQ p.fx,tQ p.fy,tQ p.ax,tQ p.ay,tQ p.h,?_⟩;rw[<-hcr];simp only[STD,bi,bj,and_self,hij',h0,h1,h2,h3,h4,h5,h6,h7,h8,h9,h10,h11,h12,h13,h14,qFB,hf,hs,qLG,qn9,ql7,qnE,hn,hie,hbd,hz,decide_false]
    ·left;refine⟨by rw[if_neg (by rw[hp5];exact fun c=>hn c.1)],tQ p.fx,tQ p.fy,tQ p.ax,tQ p.ay,tQ p.h,?_⟩;rw[<-hcr];simp only[STD,bi,bj,and_self,hij',h0,h1,h2,h3,h4,h5,h6,h7,h8,h9,h10,h11,h12,h13,h14,qFB,hf,hs,qLG,qn9,ql7,qnE,hn]
theorem qHm{α:Type}(p:Nat->Bool)(g:Nat->α)(n:Nat):(q0z (fun i=>if p i=true then none else some (g i)) 0 n=none/\∀i,i<n->p i=true)\/∃i,i<n/\p i=false/\q0z (fun i=>if p i=true then none else some (g i)) 0 n=some (g i):=by
 cases h:q0z (fun i=>if p i=true then none else some (g i)) 0 n with
 | none=>
  refine .inl ⟨rfl,fun i hi=>?_⟩;have:=q6W h i (by omega) (by omega);cases hp:p i
  ·rw[hp] at this;simp at this
  ·rfl
 | some a=>
  obtain⟨j,-,hj,hf,-⟩:=qeB h;cases hp:p j
  ·rw[hp] at hf;simp at hf;exact .inr ⟨j,by omega,hp,by rw[hf]⟩
  ·rw[hp] at hf;simp at hf
theorem qGP(l:List DQ)(p:DQ->Bool):l.all p=true↔∀i,i<l.length->p (ix l i)=true:=by
 rw[qLZ];constructor
 ·intro h i hi;exact h _ (qH8 hi)
 ·intro h d hd;obtain⟨i,hi,rfl⟩:=qmb hd;exact h i hi
theorem qI3{l:List DQ}{p:DQ->Bool}{i:Nat}(hi:i<l.length)(h:p (ix l i)=false):l.all p=false:=by
 cases ha:l.all p
 ·rfl
 ·have:=(qGP l p).1 ha i hi;simp_all
theorem qz4{l:List DQ}(hl:GDs l)(hn:l.length<1000000){i j:Nat}(hi:i<l.length)(hj:j<l.length)(side:Int) :(jy [.r (rD l),.i (i:Int),.i (j:Int),.i side,.i 0]).run=some (0,[.b (q5w l i j side),.i 0]):=by
 rw[qiX];unfold q5w;rcases qIC hl hi hj side with⟨h1,a,b,c,d,e,h2⟩|⟨p,h1,h2⟩
 ·rw[h1];simp only[STD,h2]
 ·rw[h1];have hp:=qGd (hl.ix hi) (hl.ix hj) h1;unfold plc at h2;simp only[qMr,qMD] at h2;have key:=q4o (S:=wZ)
   (fun k=>[.r (rD l),.i (qm (rD l)),.i (k:Int),.r (rD l),.r (rD l),.r (rD l),.i (i:Int),.i (j:Int),.i side,.b true,.s (tQ p.fx),.s (tQ p.fy),.s (tQ p.ax),.s (tQ p.ay),.s (tQ p.h),.b true,.r (rD l),.i (i:Int),.i (j:Int),.i side,.s (tQ p.fx),.s (tQ p.fy),.s (tQ p.ax),.s (tQ p.ay),.s (tQ p.h),.b true,.s (tQ p.fx),.s (tQ p.fy),.s (tQ p.ax),.s (tQ p.ay),.s (tQ p.h),.b true,.b true,.r (rD l),.i 0,.i (i:Int),.i (j:Int),.i side,.s (tQ p.fx),.s (tQ p.fy),.s (tQ p.ax),.s (tQ p.ay),.s (tQ p.h)])
   (fun k=>if decide (q1T (ix l k) p)=true then none else some (1,[.i (k:Int),.r (rD l),.r (rD l),.r (rD l),.i (i:Int),.i (j:Int),.i side,.b true,.s (tQ p.fx),.s (tQ p.fy),.s (tQ p.ax),.s (tQ p.ay),.s (tQ p.h),.b true,.r (rD l),.i (i:Int),.i (j:Int),.i side,.s (tQ p.fx),.s (tQ p.fy),.s (tQ p.ax),.s (tQ p.ay),.s (tQ p.h),.b true,.s (tQ p.fx),.s (tQ p.fy),.s (tQ p.ax),.s (tQ p.ay),.s (tQ p.h),.b true,.b true,.r (rD l),.i 0,.i (i:Int),.i (j:Int),.i side,.s (tQ p.fx),.s (tQ p.fy),.s (tQ p.ax),.s (tQ p.ay),.s (tQ p.h)]))
   (0,[.r (rD l),.r (rD l),.r (rD l),.i (i:Int),.i (j:Int),.i side,.b true,.s (tQ p.fx),.s (tQ p.fy),.s (tQ p.ax),.s (tQ p.ay),.s (tQ p.h),.b true,.r (rD l),.i (i:Int),.i (j:Int),.i side,.s (tQ p.fx),.s (tQ p.fy),.s (tQ p.ax),.s (tQ p.ay),.s (tQ p.h),.b true,.s (tQ p.fx),.s (tQ p.fy),.s (tQ p.ax),.s (tQ p.ay),.s (tQ p.h),.b true,.b true,.r (rD l),.i 0,.i (i:Int),.i (j:Int),.i side,.s (tQ p.fx),.s (tQ p.fy),.s (tQ p.ax),.s (tQ p.ay),.s (tQ p.h)])
   l.length (by omega)
   (fun k hk hf=>by
    rw[ka];obtain⟨x1,x2,x3⟩:=qtI hk;have hK:=qD7 (hl.ix hk) hp;by_cases hd:q1T (ix l k) p
    ·simp only[x1,x2,x3,STD,hK,hd,ww,kD hk (show l.length<9223372036854775808 by omega),show (k:Int)<(l.length:Int) by omega,show (0:Int)<=(k:Int) by omega,and_self,decide_true]
    ·simp[hd] at hf)
   (fun k r hk hf=>by
    rw[ka];obtain⟨x1,x2,x3⟩:=qtI hk;have hK:=qD7 (hl.ix hk) hp;by_cases hd:q1T (ix l k) p
    ·simp[hd] at hf
    ·simp only[hd,decide_false,qLQ,if_false,qLq] at hf;subst hf;simp only[x1,x2,x3,STD,hK,hd,ww,show (k:Int)<(l.length:Int) by omega,show (0:Int)<=(k:Int) by omega,and_self,decide_false])
   (by rw[ka];simp only[STD,ww,show ¬(l.length:Int)<(l.length:Int) by omega])
  rcases qHm (fun k=>decide (q1T (ix l k) p)) (fun k=>((1,[.i (k:Int),.r (rD l),.r (rD l),.r (rD l),.i (i:Int),.i (j:Int),.i side,.b true,.s (tQ p.fx),.s (tQ p.fy),.s (tQ p.ax),.s (tQ p.ay),.s (tQ p.h),.b true,.r (rD l),.i (i:Int),.i (j:Int),.i side,.s (tQ p.fx),.s (tQ p.fy),.s (tQ p.ax),.s (tQ p.ay),.s (tQ p.h),.b true,.s (tQ p.fx),.s (tQ p.fy),.s (tQ p.ax),.s (tQ p.ay),.s (tQ p.h),.b true,.b true,.r (rD l),.i 0,.i (i:Int),.i (j:Int),.i side,.s (tQ p.fx),.s (tQ p.fy),.s (tQ p.ax),.s (tQ p.ay),.s (tQ p.h)]):Nat×List PV)) l.length with⟨s1,s2⟩|⟨k,hk,s2,s1⟩
  ·rw[s1] at key;have hall:(l.all fun d=>decide (q1T d p))=true:=(qGP l _).2 s2;simp only[Option.getD_none] at key;simp only[STD,h2,hall];have key':=key;simp only[show ((0:Nat):Int)=0 from rfl] at key';simp only[STD,key',qT key',show ieq 0 0=true from rfl]
  ·rw[s1] at key;have hall:=qI3 (p:=fun d=>decide (q1T d p)) hk s2;simp only[qMv] at key;simp only[STD,h2,hall];have key':=key;simp only[show ((0:Nat):Int)=0 from rfl] at key';simp only[STD,key',qT key',show ¬(1=0) by omega,show (0:Int)<=(k:Int) by omega]
theorem q6o{S:List PV->TR}{α:Type}(st:Nat->List PV)(f:Nat->Option α)(g:α->List PV)(fin:List PV)(n:Nat)(hn:n<9223372036854775808)(h:∀i,i<n->(S (st i)).run=(f i).elim (some (0,st (i+1))) (fun a=>some (2,g a))) (h3:(S (st n)).run=some (1,fin)) :(qh S (st 0)).run=some ((q0z f 0 n).elim (0,fin) (fun a=>(1,g a))):=by
 have key:=q4o st (fun i=>(f i).map fun a=>(1,g a)) (0,fin) n hn (fun i hi hf=>by
  rw[h i hi];cases hfi:f i with
  | none=>rfl
  | some a=>rw[hfi] at hf;cases hf) (fun i r hi hf=>by
  rw[h i hi];cases hfi:f i with
  | none=>rw[hfi] at hf;cases hf
  | some a=>rw[hfi] at hf;simp at hf;rw[<-hf];rfl) h3
 rw[key,qtS];cases q0z f 0 n<;>rfl
def sd(s:Nat):Int:=cI [[.i 0],[.i 1],[.i (-1)]] (s:Int) 0
theorem qAS(l:List DQ)(i j:Nat):q0z (fun s=>qq7 l i j (sd s)) 0 3=qgC l i j:=by
 have e0:sd 0=0:=rfl;have e1:sd 1=1:=rfl;have e2:sd 2=-1:=rfl;simp only[q0z,e0,e1,e2];unfold qgC;cases qq7 l i j 0
 ·cases qq7 l i j 1
  ·cases qq7 l i j (-1)<;>rfl
  ·rfl
 ·rfl
def dex(l:List DQ)(w:Nat×Nat×Int):List PV:=[.i 0,.r (rD l),.i (w.1:Int),.i (w.2.1:Int),.i w.2.2,.b true,.i (l.length:Int)]
def fW(o:Option (Nat×Nat×Int)):List PV:=o.elim [.i 0,.i 0,.i 0,.b false] (fun w=>[.i (w.1:Int),.i (w.2.1:Int),.i w.2.2,.b true])
theorem n3:qm [[U.i 0],[U.i 1],[U.i (-1)]]=3:=rfl
set_option maxHeartbeats 600000 in
theorem qyy{l:List DQ}(hl:GDs l)(hn:l.length<1000000):(wI [.r (rD l),.i 0]).run=some (0,fW (kK l)++[.i 0]):=by
 rw[qkD];have big:l.length<9223372036854775808:=by omega
 have A:=q6o (S:=vP) (fun k=>[.i (l.length:Int),.i (k:Int),.i 0,.r (rD l),.i 0,.i 0,.i 0,.b false,.i (l.length:Int)]) (fun k=>qq7 l k k 0) (dex l)
  [.i 0,.r (rD l),.i 0,.i 0,.i 0,.b false,.i (l.length:Int)] l.length big
  (fun k hk=>by
   rw[q4q];have hp:=qz4 hl hn hk hk 0;unfold qq7;by_cases c:q5w l k k 0=true
   ·rw[if_pos c];simp only[STD,hp,c,show (k:Int)<(l.length:Int) by omega,dex]
   ·rw[if_neg c];simp only[STD,hp,c,show (k:Int)<(l.length:Int) by omega,kD hk big];rfl)
  (by rw[q4q];simp only[STD,show ¬(l.length:Int)<(l.length:Int) by omega])
 have B:=fun i j (hi:i<l.length) (hj:j<l.length)=>q6o (S:=vb) (fun s=>[.i (i:Int),.i (j:Int),.i (l.length:Int),.i (i:Int),.i 3,.i (s:Int),.i 0,.r (rD l),.i 0,.i 0,.i 0,.b false,.i (l.length:Int),.r [[.i 0],[.i 1],[.i (-1)]]]) (fun s=>qq7 l i j (sd s)) (dex l)
  [.i (i:Int),.i (j:Int),.i (l.length:Int),.i (i:Int),.i 0,.r (rD l),.i 0,.i 0,.i 0,.b false,.i (l.length:Int)] 3 (by omega)
  (fun s hs=>by
   rw[q3X];have hp:=qz4 hl hn hi hj (sd s);have esd:cI [[.i 0],[.i 1],[.i (-1)]] (s:Int) 0=sd s:=rfl;unfold qq7;by_cases c:q5w l i j (sd s)=true
   ·rw[if_pos c];simp only[STD,hp,c,esd,n3,show (s:Int)<3 by omega,show (0:Int)<=(s:Int) by omega,and_self,dex]
   ·rw[if_neg c];simp only[STD,hp,c,esd,n3,show (s:Int)<3 by omega,show (0:Int)<=(s:Int) by omega,and_self,kD hs (show 3<9223372036854775808 by omega)];rfl)
  (by rw[q3X];simp only[STD,show ((3:Nat):Int)=3 from rfl,show ¬(3:Int)<3 by omega])
 have C:=fun i (hi:i<l.length)=>q6o (S:=wX) (fun k=>[.i (i:Int),.i ((i+1+k:Nat):Int),.i (l.length:Int),.i (i:Int),.i 0,.r (rD l),.i 0,.i 0,.i 0,.b false,.i (l.length:Int)]) (fun k=>qgC l i (i+1+k)) (dex l)
  [.i (l.length:Int),.i (i:Int),.i 0,.r (rD l),.i 0,.i 0,.i 0,.b false,.i (l.length:Int)] (l.length-(i+1)) (by omega)
  (fun k hk=>by
   rw[q3W];have hj:i+1+k<l.length:=by omega
   have b:=B i (i+1+k) hi hj;rw[qAS] at b;simp only[show ((0:Nat):Int)=0 from rfl] at b;have w:=kD hj big;cases hs:qgC l i (i+1+k) with
   | none=>
    rw[hs] at b;simp only[Option.elim] at b ⊢;simp only[STD,b,qT b,n3,show ((i+1+k:Nat):Int)<(l.length:Int) by omega,w];rfl
   | some v=>
    rw[hs] at b;simp only[Option.elim,dex] at b ⊢;simp only[STD,b,qT b,n3,show ((i+1+k:Nat):Int)<(l.length:Int) by omega,show ¬(1=0) by omega])
  (by rw[q3W];simp only[STD,show ¬((i+1+(l.length-(i+1)):Nat):Int)<(l.length:Int) by omega])
 have D:=q6o (S:=vO) (fun i=>[.i (l.length:Int),.i (i:Int),.i 0,.r (rD l),.i 0,.i 0,.i 0,.b false,.i (l.length:Int)]) (fun i=>q0z (fun k=>qgC l i (i+1+k)) 0 (l.length-(i+1))) (dex l)
  [.i 0,.r (rD l),.i 0,.i 0,.i 0,.b false,.i (l.length:Int)] l.length big
  (fun i hi=>by
   rw[q4g];have c:=C i hi;simp only[qM8] at c;have w:=kD hi big;cases hs:q0z (fun k=>qgC l i (i+1+k)) 0 (l.length-(i+1)) with
   | none=>
    rw[hs] at c;simp only[Option.elim] at c ⊢;simp only[STD,w,c,qT c,show (i:Int)<(l.length:Int) by omega]
   | some v=>
    rw[hs] at c;simp only[Option.elim,dex] at c ⊢;simp only[STD,w,c,qT c,show (i:Int)<(l.length:Int) by omega,show ¬(1=0) by omega])
  (by rw[q4g];simp only[STD,show ¬(l.length:Int)<(l.length:Int) by omega])
 simp only[show ((0:Nat):Int)=0 from rfl] at A D;unfold kK;cases hs:q0z (fun i=>qq7 l i i 0) 0 l.length with
 | some v=>
  rw[hs] at A;simp only[Option.elim,dex] at A;simp only[STD,ww,A,qT A,show ¬(1=0) by omega,fW,Option.elim];rfl
 | none=>
  rw[hs] at A;simp only[Option.elim] at A;simp only[];cases hs':q0z (fun i=>q0z (fun k=>qgC l i (i+1+k)) 0 (l.length-(i+1))) 0 l.length with
  | none=>
   rw[hs'] at D;simp only[Option.elim] at D;simp only[STD,ww,A,qT A,D,qT D,fW,Option.elim];rfl
  | some v=>
   rw[hs'] at D;simp only[Option.elim,dex] at D;simp only[STD,ww,A,qT A,D,qT D,fW,Option.elim,show ¬(1=0) by omega];rfl
theorem qzt{d:DQ}(h:GD d):qHj (tQ d.x) (tQ d.y) (tQ d.s)=0:=qHg ((js h.x).ok (by omega) (by omega)) ((js h.y).ok (by omega) (by omega)) ((q52 h.s).ok (by omega) (by omega)) h.nn
theorem qxT{a b:DQ}(ga:GD a)(gb:GD b) :(q4x [.s (tQ a.x),.s (tQ a.y),.s (tQ a.s),.s (tQ b.x),.s (tQ b.y),.s (tQ b.s)]).run=some (0,[.i (qHJ a b),.i 0]):=by
 rw[qrb];have ca:=q9E _ _ _ (show (tQ a.x).length<=1000000 from by have:=q5r ((js ga.x).ok (by omega) (by omega));omega) (show (tQ a.y).length<=1000000 from by have:=q5r ((js ga.y).ok (by omega) (by omega));omega) (show (tQ a.s).length<=1000000 from by have:=q5r ((q52 ga.s).ok (by omega) (by omega));omega);have cb:=q9E _ _ _ (show (tQ b.x).length<=1000000 from by have:=q5r ((js gb.x).ok (by omega) (by omega));omega) (show (tQ b.y).length<=1000000 from by have:=q5r ((js gb.y).ok (by omega) (by omega));omega) (show (tQ b.s).length<=1000000 from by have:=q5r ((q52 gb.s).ok (by omega) (by omega));omega);rw[qzt ga] at ca;rw[qzt gb] at cb;have nr:qm [[U.s (tQ a.x),U.s (tQ a.y),U.s (tQ a.s)],[U.s (tQ b.x),U.s (tQ b.y),U.s (tQ b.s)]]=2:=rfl;have r0:∀j,cS [[U.s (tQ a.x),U.s (tQ a.y),U.s (tQ a.s)],[U.s (tQ b.x),U.s (tQ b.y),U.s (tQ b.s)]] 0 j=cS [[U.s (tQ a.x),U.s (tQ a.y),U.s (tQ a.s)]] 0 j:=fun j=>rfl;have r1:∀j,cS [[U.s (tQ a.x),U.s (tQ a.y),U.s (tQ a.s)],[U.s (tQ b.x),U.s (tQ b.y),U.s (tQ b.s)]] 1 j=cS [[U.s (tQ b.x),U.s (tQ b.y),U.s (tQ b.s)]] 0 j:=fun j=>rfl;have q0:∀d:DQ,cS [[U.s (tQ d.x),U.s (tQ d.y),U.s (tQ d.s)]] 0 0=tQ d.x/\cS [[U.s (tQ d.x),U.s (tQ d.y),U.s (tQ d.s)]] 0 1=tQ d.y/\cS [[U.s (tQ d.x),U.s (tQ d.y),U.s (tQ d.s)]] 0 2=tQ d.s:=fun d=>⟨rfl,rfl,rfl⟩;have L:=q6o (S:=q1Q) (fun k=>[.i 2,.i (k:Int),.s (tQ a.x),.s (tQ a.y),.s (tQ a.s),.s (tQ b.x),.s (tQ b.y),.s (tQ b.s),.r [[U.s (tQ a.x),U.s (tQ a.y),U.s (tQ a.s)],[U.s (tQ b.x),U.s (tQ b.y),U.s (tQ b.s)]]]) (fun _=>(none:Option Nat)) (fun _=>[])
  [.s (tQ a.x),.s (tQ a.y),.s (tQ a.s),.s (tQ b.x),.s (tQ b.y),.s (tQ b.s)] 2 (by omega)
  (fun k hk=>by
   rw[qef];have w:=kD hk (show 2<9223372036854775808 by omega);rcases (show k=0\/k=1 by omega) with rfl|rfl
   ·simp only[show ((0:Nat):Int)=0 from rfl,r0,q0,nr] at w ⊢;simp only[STD,ca,w,qLG,show (0:Int)<2 by omega,and_self];rfl
   ·simp only[show ((1:Nat):Int)=1 from rfl,r1,q0,nr] at w ⊢;simp only[STD,cb,w,show (0:Int)<=1 by omega,show (1:Int)<2 by omega,and_self];rfl)
  (by rw[qef];simp only[STD,show ((2:Nat):Int)=2 from rfl,show ¬(2:Int)<2 by omega])
 simp only[show ((0:Nat):Int)=0 from rfl,q0z,Option.elim] at L;have w1:=qAc ga.sh gb.sh ga.nn gb.nn;have w2:=qAc gb.sh ga.sh gb.nn ga.nn;have w3:=qGZ ga.sh gb.sh ga.nn gb.nn qFU;rw[qHS] at w3;have bd:=qGq a b (-2);have wn:=quB (x:=qxf a b (-2)) (by omega);unfold qHJ;by_cases c1:qip a b
 ·simp only[STD,nr,L,qT L,w1,c1]
 ·by_cases c2:qip b a
  ·simp only[STD,nr,L,qT L,w1,w2,c1,c2]
  ·simp only[STD,nr,L,qT L,w1,w2,w3,c1,c2,wn]
theorem qAv{d:DQ}{px py:Rat}(gd:GD d)(hx:bnd 12 10 px)(hy:bnd 12 10 py) :(kr [.s (tQ d.x),.s (tQ d.y),.s (tQ d.s),.s (tQ px),.s (tQ py)]).run=some (0,[.b (decide (q32 d.x d.y px py<=d.s)),.i 0]):=by
 rw[qnJ];have ca:=q9E _ _ _ (show (tQ d.x).length<=1000000 from by have:=q5r ((js gd.x).ok (by omega) (by omega));omega) (show (tQ d.y).length<=1000000 from by have:=q5r ((js gd.y).ok (by omega) (by omega));omega) (show (tQ d.s).length<=1000000 from by have:=q5r ((q52 gd.s).ok (by omega) (by omega));omega);rw[qzt gd] at ca;have c0:=q1F (hx.ok (by omega) (by omega));have c1:=q1F (hy.ok (by omega) (by omega));have L:=q6o (S:=kF) (fun k=>[.i 2,.i (k:Int),.s (tQ d.x),.s (tQ d.y),.s (tQ d.s),.s (tQ px),.s (tQ py),.r [[.s (tQ px)],[.s (tQ py)]]]) (fun _=>(none:Option Nat)) (fun _=>[])
  [.s (tQ d.x),.s (tQ d.y),.s (tQ d.s),.s (tQ px),.s (tQ py)] 2 (by omega)
  (fun k hk=>by
   rw[qbd];have w:=kD hk (show 2<9223372036854775808 by omega);rcases (show k=0\/k=1 by omega) with rfl|rfl
   ·have c:(qP [.s (cS [[.s (tQ px)],[.s (tQ py)]] ((0:Nat):Int) 0)]).run=_:=c0;simp only[STD,c,w,show ((0:Nat):Int)<2 by omega,show (0:Int)<=((0:Nat):Int) by omega,show qm [[U.s (tQ px)],[U.s (tQ py)]]=2 from rfl,and_self];rfl
   ·have c:(qP [.s (cS [[.s (tQ px)],[.s (tQ py)]] ((1:Nat):Int) 0)]).run=_:=c1;simp only[STD,c,w,show ((1:Nat):Int)<2 by omega,show (0:Int)<=((1:Nat):Int) by omega,show qm [[U.s (tQ px)],[U.s (tQ py)]]=2 from rfl,and_self];rfl)
  (by rw[qbd];simp only[STD,show ((2:Nat):Int)=2 from rfl,show ¬(2:Int)<2 by omega])
 simp only[show ((0:Nat):Int)=0 from rfl,q0z,Option.elim] at L;obtain⟨d1,d2,d3⟩:=gd.sh;have f:=qJh d1 d2 hx hy;have fb:=quk d1 d2 hx hy;have o:=qD8 fb d3 (by omega) (by omega) (by omega);by_cases c:q32 d.x d.y px py<=d.s
 ·simp only[STD,ca,show qm [[U.s (tQ px)],[U.s (tQ py)]]=2 from rfl,L,qT L,f,o,qiL,c,show ieq 0 0=true from rfl,decide_true]
 ·simp only[STD,ca,show qm [[U.s (tQ px)],[U.s (tQ py)]]=2 from rfl,L,qT L,f,o,qiL,c,decide_false]
noncomputable def cD(x:R)(i:Nat):Int:=qHj (cS x (i:Int) 0) (cS x (i:Int) 1) (cS x (i:Int) 2)
noncomputable def lE(x:R):Int:=if 64<x.length then 5 else if qcp (cD x) x.length=0 then (if x.length=0 then 13 else 0) else qcp (cD x) x.length
theorem qwx(x:R)(h:64<x.length\/∀i,i<x.length->∀j,(cS x (i:Int) j).length<=1000000):(q1m [.r x]).run=some (0,[.i (lE x)]):=by
 rw[qtP];unfold lE;by_cases hn:64<x.length
 ·have:(64:Int)<qm x:=by unfold qm;omega
  simp only[STD,this,hn]
 ·have h':∀i,i<x.length->∀j,(cS x (i:Int) j).length<=1000000:=by
   rcases h with h|h
   ·omega
   ·exact h
  have hn':¬(64:Int)<qm x:=by unfold qm;omega
  have L:=qut (S:=q4j) (fun k=>[.r x,.r x,.i (qm x),.i (k:Int)]) (cD x) [] [.r x] x.length (by omega)
   (fun i hi=>by
    rw[qhN];have c:=q9E _ _ _ (h' i hi 0) (h' i hi 1) (h' i hi 2);have w:=kD hi (show x.length<9223372036854775808 by omega);by_cases e:qHj (cS x (i:Int) 0) (cS x (i:Int) 1) (cS x (i:Int) 2)=0
    ·simp only[STD,c,e,w,qzf hi,qbz,and_self,cD]
    ·simp only[STD,c,e,qzf hi,qbz,and_self,cD])
   (by rw[qhN];simp only[STD,qxC])
  simp only[show ((0:Nat):Int)=0 from rfl] at L;by_cases e:qcp (cD x) x.length=0
  ·rw[if_pos e] at L;by_cases z:x.length=0
   ·have:qm x=0:=by unfold qm;omega
    rw[if_neg hn,if_pos e,if_pos z];have L':=L;rw[this] at L';simp only[STD,this,show ¬(64:Int)<0 by omega,L',qT L']
   ·have:¬qm x=0:=by unfold qm;omega
    simp only[STD,hn',L,qT L,hn,e,z,this]
  ·rw[if_neg e] at L;simp only[STD,hn',L,qT L,hn,e,show ¬(1=0) by omega]
instance (s:qLp):Decidable (shT s):=by unfold shT;infer_instance
theorem qIB(x:R)(i j:Nat):cS x (i:Int) j=((x.getD i []).getD j (.i 0)).toS:=rfl
theorem qKz{l:List DQ}(hl:GDs l)(h0:l≠[])(hn:l.length<=64):lE (rD l)=0:=by
 have hlen:(rD l).length=l.length:=by simp[rD]
 have hz:l.length≠0:=fun h=>h0 (List.length_eq_zero_iff.1 h);unfold lE;rw[hlen,if_neg (by omega),if_neg hz,if_pos];refine qDI fun i hi=>?_;obtain⟨x1,x2,x3⟩:=qtI hi;unfold cD;rw[x1,x2,x3];exact qzt (hl.ix hi)
theorem qIv{l:List DQ}(hl:GDs l):∀i,i<(rD l).length->∀j,(cS (rD l) (i:Int) j).length<=1000000:=by
 intro i hi j;have hi':i<l.length:=by simpa[rD] using hi
 obtain⟨x1,x2,x3⟩:=qtI hi';have g:=hl.ix hi'
 match j with
 | 0=>rw[x1];have:=q5r ((js g.x).ok (by omega) (by omega));omega
 | 1=>rw[x2];have:=q5r ((js g.y).ok (by omega) (by omega));omega
 | 2=>rw[x3];have:=q5r ((q52 g.s).ok (by omega) (by omega));omega
 | j+3=>
  rw[qIB];have e:(rD l).getD i []=qgU (ix l i):=by unfold rD ix;simp[hi']
  rw[e];simp[qgU,U.toS]
theorem qvI{l:List DQ}(hl:GDs l)(h0:l≠[])(hn:l.length<=64):(q1m [.r (rD l)]).run=some (0,[.i 0]):=by rw[qwx _ (.inr (qIv hl)),qKz hl h0 hn]
def cW(o:Option (Nat×Nat×Int)):List PV:=o.elim [.b false,.i 0,.i 0,.i 0,.i 0] (fun w=>[.b true,.i (w.1:Int),.i (w.2.1:Int),.i w.2.2,.i 0])
theorem qkl{l:List DQ}(hl:GDs l)(h0:l≠[])(hn:l.length<=64):(vY [.r (rD l)]).run=some (0,cW (kK l)):=by
 rw[qrA];have a:=qvI hl h0 hn;have b:=qyy hl (by omega);cases hf:kK l with
 | none=>
  rw[hf] at b;simp only[fW,Option.elim,qMr,qMD] at b;simp only[STD,a,b,cW,Option.elim]
 | some w=>
  rw[hf] at b;simp only[fW,Option.elim,qMr,qMD] at b;simp only[STD,a,b,cW,Option.elim]
theorem qbf(l:R)(h:l.length<9223372036854775808):(wN [.r l,.r l]).run=some (0,[.b true]):=by
 have e:(qh vD [.r l,.r l,.i (qm l),.i 0]).run=some (0,[]):=by
  refine zu (fun i=>[.r l,.r l,.i (qm l),.i (i:Int)]) (0,[]) l.length h (fun i hi=>?_) ?_
  ·have h1:(i:Int)<qm l:=by unfold qm;omega
   rw[q4C];simp only[STD,h1,kD hi h,show (0:Int)<=(i:Int) by omega,and_self]
  ·rw[q4C];simp only[STD,show ¬((l.length:Int)<qm l) by unfold qm;omega]
 rw[qeN];simp only[STD,e,qT e]
def two(i j:Nat):R:=[[.i (i:Int)],[.i (j:Int)]]
def three(i j k:Nat):R:=[[.i (i:Int)],[.i (j:Int)],[.i (k:Int)]]
def q8F(l:List DQ)(i j:Nat):Option R:=if (kK [ix l i,ix l j]).isSome=true then none else some (two i j)
def qhY(l:List DQ)(i j k:Nat):Option R:=if (kK [ix l i,ix l j,ix l k]).isSome=true then none else some (three i j k)
def qGg(l:List DQ):Option R:=q0z (fun i=>q0z (fun k=>q8F l i (i+1+k)) 0 (l.length-(i+1))) 0 l.length
def qIz(l:List DQ):Option R:=q0z (fun i=>q0z (fun k=>q0z (fun m=>qhY l i (i+1+k) (i+1+k+1+m)) 0 (l.length-(i+1+k+1))) 0 (l.length-(i+1))) 0 l.length
def qnB(l:List DQ):R:=(qGg l).elim ((qIz l).getD []) id
theorem qKq{a b:DQ}(ga:GD a)(gb:GD b):GDs [a,b]:=fun d hd=>by simp only[qLx,qNt,or_false] at hd;rcases hd with rfl|rfl<;>assumption
theorem qL8{a b c:DQ}(ga:GD a)(gb:GD b)(gc:GD c):GDs [a,b,c]:=fun d hd=>by simp only[qLx,qNt,or_false] at hd;rcases hd with rfl|rfl|rfl<;>assumption
theorem qEG(o:Option (Nat×Nat×Int)):∃a b c,fW o=[.i a,.i b,.i c,.b o.isSome]:=by
 cases o with
 | none=>exact⟨_,_,_,rfl⟩
 | some w=>exact⟨_,_,_,rfl⟩
theorem qKC(l:List DQ)(i j k:Nat)(hk:k<2):∃m,(m=i\/m=j)/\cI (two i j) (k:Int) 0=(m:Int)/\[qgU (ix l i),qgU (ix l j)].take (k+1)=[qgU (ix l i),qgU (ix l j)].take k++[qgU (ix l m)]:=by
 rcases (show k=0\/k=1 by omega) with rfl|rfl
 ·exact⟨i,.inl rfl,rfl,rfl⟩
 ·exact⟨j,.inr rfl,rfl,rfl⟩
theorem qKJ(l:List DQ)(i j o k:Nat)(hk:k<3):∃m,(m=i\/m=j\/m=o)/\cI (three i j o) (k:Int) 0=(m:Int)/\[qgU (ix l i),qgU (ix l j),qgU (ix l o)].take (k+1)=[qgU (ix l i),qgU (ix l j),qgU (ix l o)].take k++[qgU (ix l m)]:=by
 rcases (show k=0\/k=1\/k=2 by omega) with rfl|rfl|rfl
 ·exact⟨i,.inl rfl,rfl,rfl⟩
 ·exact⟨j,.inr (.inl rfl),rfl,rfl⟩
 ·exact⟨o,.inr (.inr rfl),rfl,rfl⟩
theorem qvY{x:R}{k:Nat}:qm (x.take k)<=qm x:=by unfold qm;rw[qMw];omega
theorem qzW(i j:Nat):qm (two i j)=2:=rfl
theorem qtn(i j k:Nat):qm (three i j k)=3:=rfl
theorem qDr{l:List DQ}(_:l.length<1000000){i j:Nat}(hi:i<l.length)(hj:j<l.length)(a b c d e f g h:Int) :(qh zo [.i (qm (two i j)),.i 0,.i a,.i b,.i c,.i d,.i e,.r (rD l),.i f,.i g,.i h,.r (rD l),.i 0,.r (two i j),.r []]).run=some (0,[.i a,.i b,.i c,.i d,.i e,.r (rD l),.i f,.i g,.i h,.r (rD l),.i 0,.r (two i j),.r (rD [ix l i,ix l j])]):=by
 have key:=zu (S:=zo) (fun k=>[.i (qm (two i j)),.i (k:Int),.i a,.i b,.i c,.i d,.i e,.r (rD l),.i f,.i g,.i h,.r (rD l),.i 0,.r (two i j),.r ([qgU (ix l i),qgU (ix l j)].take k)])
  (0,[.i a,.i b,.i c,.i d,.i e,.r (rD l),.i f,.i g,.i h,.r (rD l),.i 0,.r (two i j),.r (rD [ix l i,ix l j])]) 2 (by omega)
  (fun k hk=>by
   rw[q1j];obtain⟨m,hm,e1,e2⟩:=qKC l i j k hk;have hml:m<l.length:=by rcases hm with rfl|rfl<;>assumption
   obtain⟨x1,x2,x3⟩:=qtI hml;have w:=kD hk (show 2<9223372036854775808 by omega);have t:=qvY (x:=[qgU (ix l i),qgU (ix l j)]) (k:=k);have t2:qm [qgU (ix l i),qgU (ix l j)]=2:=rfl;have t1:qm [[U.s (tQ (ix l m).x),U.s (tQ (ix l m).y),U.s (tQ (ix l m).s)]]=1:=rfl;rw[e1,x1,x2,x3,e2];simp only[STD,qzW,show (k:Int)<2 by omega,qbz,ww,show (m:Int)<(l.length:Int) by omega,and_self,w,show qm ([qgU (ix l i),qgU (ix l j)].take k)+qm [[U.s (tQ (ix l m).x),U.s (tQ (ix l m).y),U.s (tQ (ix l m).s)]]<=2932031007402 by omega];rfl)
  (by rw[q1j];simp only[STD,qzW,show ¬((2:Nat):Int)<2 by omega];rfl)
 exact key
theorem qEp{l:List DQ}(_:l.length<1000000){i j o:Nat}(hi:i<l.length)(hj:j<l.length)(ho:o<l.length)(a b c d e f g h p q:Int) :(qh zn [.i (qm (three i j o)),.i 0,.i a,.i b,.i c,.i d,.i e,.i f,.r (rD l),.i g,.i h,.i p,.i q,.r (rD l),.i 0,.r (three i j o),.r []]).run=some (0,[.i a,.i b,.i c,.i d,.i e,.i f,.r (rD l),.i g,.i h,.i p,.i q,.r (rD l),.i 0,.r (three i j o),.r (rD [ix l i,ix l j,ix l o])]):=by
 have key:=zu (S:=zn) (fun k=>[.i (qm (three i j o)),.i (k:Int),.i a,.i b,.i c,.i d,.i e,.i f,.r (rD l),.i g,.i h,.i p,.i q,.r (rD l),.i 0,.r (three i j o),.r ([qgU (ix l i),qgU (ix l j),qgU (ix l o)].take k)])
  (0,[.i a,.i b,.i c,.i d,.i e,.i f,.r (rD l),.i g,.i h,.i p,.i q,.r (rD l),.i 0,.r (three i j o),.r (rD [ix l i,ix l j,ix l o])]) 3 (by omega)
  (fun k hk=>by
   rw[q1h];obtain⟨m,hm,e1,e2⟩:=qKJ l i j o k hk;have hml:m<l.length:=by rcases hm with rfl|rfl|rfl<;>assumption
   obtain⟨x1,x2,x3⟩:=qtI hml;have w:=kD hk (show 3<9223372036854775808 by omega);have t:=qvY (x:=[qgU (ix l i),qgU (ix l j),qgU (ix l o)]) (k:=k);have t2:qm [qgU (ix l i),qgU (ix l j),qgU (ix l o)]=3:=rfl;have t1:qm [[U.s (tQ (ix l m).x),U.s (tQ (ix l m).y),U.s (tQ (ix l m).s)]]=1:=rfl;rw[e1,x1,x2,x3,e2];simp only[STD,qtn,show (k:Int)<3 by omega,qbz,ww,show (m:Int)<(l.length:Int) by omega,and_self,w,show qm ([qgU (ix l i),qgU (ix l j),qgU (ix l o)].take k)+qm [[U.s (tQ (ix l m).x),U.s (tQ (ix l m).y),U.s (tQ (ix l m).s)]]<=2932031007402 by omega];rfl)
  (by rw[q1h];simp only[STD,qtn,show ¬((3:Nat):Int)<3 by omega];rfl)
 exact key
theorem qqv{l:List DQ}(hl:GDs l)(h0:l≠[])(hn:l.length<=64):(vK [.r (rD l)]).run=some (0,[.r (qnB l),.i 0]):=by
 rw[qgQ];have a:=qvI hl h0 hn;have big:l.length<9223372036854775808:=by omega
 have A:=fun i (hi:i<l.length)=>q6o (S:=vF) (fun k=>[.i (i:Int),.i ((i+1+k:Nat):Int),.i (l.length:Int),.i (i:Int),.r (rD l),.i 0]) (fun k=>q8F l i (i+1+k)) (fun r=>[.i 0,.r r])
  [.i (l.length:Int),.i (i:Int),.r (rD l),.i 0] (l.length-(i+1)) (by omega)
  (fun k hk=>by
   rw[q4k];have hj:i+1+k<l.length:=by omega
   have g:=qDr (l:=l) (by omega) hi hj (i:Int) ((i+1+k:Nat):Int) (l.length:Int) (i:Int) ((i+1+k:Nat):Int) (l.length:Int) (i:Int) ((i+1+k:Nat):Int);have f:=qyy (qKq (hl.ix hi) (hl.ix hj)) (by simp);obtain⟨u,v,w,hfw⟩:=qEG (kK [ix l i,ix l (i+1+k)]);rw[hfw] at f;simp only[qMr,qMD] at f;have ws:=kD hj big;have tw:[[U.i (i:Int)],[U.i ((i+1+k:Nat):Int)]]=two i (i+1+k):=rfl;rw[tw];unfold q8F;cases hs:(kK [ix l i,ix l (i+1+k)]).isSome
   ·rw[hs] at f;simp only[STD,ww,g,f,show ((i+1+k:Nat):Int)<(l.length:Int) by omega,show ieq 0 0=true from rfl,Option.elim,tw]
   ·rw[hs] at f;simp only[STD,ww,g,f,show ((i+1+k:Nat):Int)<(l.length:Int) by omega,Option.elim,ws];rfl)
  (by rw[q4k];simp only[STD,ww,show ¬((i+1+(l.length-(i+1)):Nat):Int)<(l.length:Int) by omega])
 have B:=q6o (S:=jc) (fun i=>[.i (l.length:Int),.i (i:Int),.r (rD l),.i 0]) (fun i=>q0z (fun k=>q8F l i (i+1+k)) 0 (l.length-(i+1))) (fun r=>[.i 0,.r r])
  [.r (rD l),.i 0] l.length big
  (fun i hi=>by
   rw[q5Y];have c:=A i hi;simp only[qM8] at c;have w:=kD hi big;cases hs:q0z (fun k=>q8F l i (i+1+k)) 0 (l.length-(i+1)) with
   | none=>
    rw[hs] at c;simp only[Option.elim] at c ⊢;simp only[STD,w,c,qT c,show (i:Int)<(l.length:Int) by omega]
   | some v=>
    rw[hs] at c;simp only[Option.elim] at c ⊢;simp only[STD,w,c,qT c,show (i:Int)<(l.length:Int) by omega,show ¬(1=0) by omega])
  (by rw[q5Y];simp only[STD,show ¬(l.length:Int)<(l.length:Int) by omega])
 have C:=fun i j (hi:i<l.length) (hj:j<l.length)=>q6o (S:=vG) (fun k=>[.i (i:Int),.i (j:Int),.i ((j+1+k:Nat):Int),.i (l.length:Int),.i (i:Int),.r (rD l),.i 0]) (fun k=>qhY l i j (j+1+k)) (fun r=>[.i 0,.r r])
  [.i (i:Int),.i (j:Int),.i (l.length:Int),.i (i:Int),.r (rD l),.i 0] (l.length-(j+1)) (by omega)
  (fun k hk=>by
   rw[q4t];have ho:j+1+k<l.length:=by omega
   have g:=qEp (l:=l) (by omega) hi hj ho (i:Int) (j:Int) ((j+1+k:Nat):Int) (l.length:Int) (i:Int) ((j+1+k:Nat):Int) (l.length:Int) (i:Int) (j:Int) ((j+1+k:Nat):Int);have f:=qyy (qL8 (hl.ix hi) (hl.ix hj) (hl.ix ho)) (by simp);obtain⟨u,v,w,hfw⟩:=qEG (kK [ix l i,ix l j,ix l (j+1+k)]);rw[hfw] at f;simp only[qMr,qMD] at f;have ws:=kD ho big;have tw:[[U.i (i:Int)],[U.i (j:Int)],[U.i ((j+1+k:Nat):Int)]]=three i j (j+1+k):=rfl;rw[tw];unfold qhY;cases hs:(kK [ix l i,ix l j,ix l (j+1+k)]).isSome
   ·rw[hs] at f;simp only[STD,ww,g,f,show ((j+1+k:Nat):Int)<(l.length:Int) by omega,show ieq 0 0=true from rfl,Option.elim,tw]
   ·rw[hs] at f;simp only[STD,ww,g,f,show ((j+1+k:Nat):Int)<(l.length:Int) by omega,Option.elim,ws];rfl)
  (by rw[q4t];simp only[STD,ww,show ¬((j+1+(l.length-(j+1)):Nat):Int)<(l.length:Int) by omega])
 have D:=fun i (hi:i<l.length)=>q6o (S:=vE) (fun k=>[.i (i:Int),.i ((i+1+k:Nat):Int),.i (l.length:Int),.i (i:Int),.r (rD l),.i 0]) (fun k=>q0z (fun m=>qhY l i (i+1+k) (i+1+k+1+m)) 0 (l.length-(i+1+k+1))) (fun r=>[.i 0,.r r])
  [.i (l.length:Int),.i (i:Int),.r (rD l),.i 0] (l.length-(i+1)) (by omega)
  (fun k hk=>by
   rw[q4z];have hj:i+1+k<l.length:=by omega
   have c:=C i (i+1+k) hi hj;simp only[qM8] at c;have w:=kD hj big;cases hs:q0z (fun m=>qhY l i (i+1+k) (i+1+k+1+m)) 0 (l.length-(i+1+k+1)) with
   | none=>
    rw[hs] at c;simp only[Option.elim] at c ⊢;simp only[STD,w,c,qT c,ww,show ((i+1+k:Nat):Int)<(l.length:Int) by omega];rfl
   | some v=>
    rw[hs] at c;simp only[Option.elim] at c ⊢;simp only[STD,w,c,qT c,ww,show ((i+1+k:Nat):Int)<(l.length:Int) by omega,show ¬(1=0) by omega])
  (by rw[q4z];simp only[STD,ww,show ¬((i+1+(l.length-(i+1)):Nat):Int)<(l.length:Int) by omega])
 have E:=q6o (S:=vw) (fun i=>[.i (l.length:Int),.i (i:Int),.r (rD l),.i 0]) (fun i=>q0z (fun k=>q0z (fun m=>qhY l i (i+1+k) (i+1+k+1+m)) 0 (l.length-(i+1+k+1))) 0 (l.length-(i+1))) (fun r=>[.i 0,.r r])
  [.i 0] l.length big
  (fun i hi=>by
   rw[q4A];have c:=D i hi;simp only[qM8] at c;have w:=kD hi big;cases hs:q0z (fun k=>q0z (fun m=>qhY l i (i+1+k) (i+1+k+1+m)) 0 (l.length-(i+1+k+1))) 0 (l.length-(i+1)) with
   | none=>
    rw[hs] at c;simp only[Option.elim] at c ⊢;simp only[STD,w,c,qT c,show (i:Int)<(l.length:Int) by omega]
   | some v=>
    rw[hs] at c;simp only[Option.elim] at c ⊢;simp only[STD,w,c,qT c,show (i:Int)<(l.length:Int) by omega,show ¬(1=0) by omega])
  (by rw[q4A];simp only[STD,show ¬(l.length:Int)<(l.length:Int) by omega])
 simp only[show ((0:Nat):Int)=0 from rfl] at B E;unfold qnB;cases hp:qGg l with
 | some r=>
  rw[show q0z (fun i=>q0z (fun k=>q8F l i (i+1+k)) 0 (l.length-(i+1))) 0 l.length=some r from hp] at B;simp only[Option.elim] at B;simp only[STD,a,ww,B,qT B,Option.elim,id,show ¬(1=0) by omega]
 | none=>
  rw[show q0z (fun i=>q0z (fun k=>q8F l i (i+1+k)) 0 (l.length-(i+1))) 0 l.length=none from hp] at B;simp only[Option.elim] at B;cases ht:qIz l with
  | some r=>
   rw[show q0z (fun i=>q0z (fun k=>q0z (fun m=>qhY l i (i+1+k) (i+1+k+1+m)) 0 (l.length-(i+1+k+1))) 0 (l.length-(i+1))) 0 l.length=some r from ht] at E;simp only[Option.elim] at E;simp only[STD,a,ww,B,qT B,E,qT E,Option.elim,qMv,show ¬(1=0) by omega]
  | none=>
   rw[show q0z (fun i=>q0z (fun k=>q0z (fun m=>qhY l i (i+1+k) (i+1+k+1+m)) 0 (l.length-(i+1+k+1))) 0 (l.length-(i+1))) 0 l.length=none from ht] at E;simp only[Option.elim] at E;simp only[STD,a,ww,B,qT B,E,qT E,Option.elim,Option.getD_none]
variable {L:List Nat}{l:R}{n:Nat}
def dO(l:R)(s:Rat)(i:Nat):DQ:=⟨(cI l (i:Int) 0:Rat),(cI l (i:Int) 1:Rat),s⟩
def dQ(l:R)(s:Rat)(n:Nat):List DQ:=(List.range n).map (dO l s)
theorem qzh (l:R)(s:Rat)(n:Nat):(dQ l s n).length=n:=by unfold dQ;rw[qLF,qMa]
theorem qCT (l:R)(s:Rat)(n:Nat):qm (rD (dQ l s n))=(n:Int):=by rw[ww,qzh]
theorem qIf (l:R)(s:Rat)(n:Nat):kN (rD (dQ l s n)) [[.s (tQ (cI l (n:Int) 0:Rat)),.s (tQ (cI l (n:Int) 1:Rat)),.s (tQ s)]]=rD (dQ l s (n+1)):=by unfold kN rD dQ;rw[qN5,qM0,qM0];rfl
theorem qzA {s:Rat}{d:DQ}:d∈dQ l s n↔∃i,i<n/\d=dO l s i:=by unfold dQ;simp only[qMi,qMK];exact⟨fun⟨i,h,e⟩=>⟨i,h,e.symm⟩,fun⟨i,h,e⟩=>⟨i,h,e.symm⟩⟩
theorem qL6 {s:Rat}{n i:Nat}(h:i<n):ix (dQ l s n) i=dO l s i:=by unfold ix dQ;rw[qLr,qLC,qMp h];rfl
theorem qJf {s:Rat}(h:0<n):dQ l s n≠[]:=fun e=>by have:=qzh l s n;rw[e] at this;simp at this;omega
def qro(x:Int):Prop:=-9000<=x/\x<=9000
theorem qz3 {x:Int}(h:qro x):co x:=by unfold qro at h;unfold co;omega
theorem qwM {x:Int}(h:qro x):cls (x:Rat):=quy (qKr (by unfold qro at h;omega) (by omega)) (by omega)
theorem qJz {s:Rat}(hs:qJd s)(h0:0<=s)(hp:∀i,i<n->qro (cI l (i:Int) 0)/\qro (cI l (i:Int) 1)):GDs (dQ l s n):=fun d hd=>by obtain⟨i,hi,rfl⟩:=qzA.1 hd;obtain⟨h1,h2⟩:=hp i hi;exact⟨qwM h1,qwM h2,hs,h0⟩
theorem qIZ {i:Nat}(hi:i<l.length)(s x y:Rat):pw (dO l s i) x y=d2 ⟨x,y,0⟩ (pV (raR l) i)-s:=by rw[qtu hi];unfold pw dO d2;simp only[];grind
theorem qD6 (lo:LO (raR l) 3 L n):(cO (raR l) L).z=0:=by rw[lo.cen];show Go.Eng.su (n+1) (fun j=>wts (tO (raR l) L) n j*(pV (raR l) (Lf (raR l) L j)).z)=0;rw[qo (g:=fun _=>0) (fun j hj=>by have:=lo.sup.lt j hj;rw[qfh] at this;rw[qtu this];grind)];exact q6u _
theorem qGM (lo:LO (raR l) 3 L n):cO (raR l) L=⟨(cO (raR l) L).x,(cO (raR l) L).y,0⟩:=by
 have:=qD6 lo;cases h:cO (raR l) L with
 | mk a b c=>rw[h] at this;simp only at this;rw[this]
theorem qzs (lo:LO (raR l) 3 L n){x y r:Rat}(h:∀i,i<l.length->d2 ⟨x,y,0⟩ (pV (raR l) i)<=r):sO (raR l) L+d2 ⟨x,y,0⟩ (cO (raR l) L)<=r:=by rw[lo.cen];exact qH3 lo.sup fun i hi=>h i (by rwa [qfh] at hi)
theorem qGz (lo:LO (raR l) 3 L n){i:Nat}(hi:i<l.length):d2 (cO (raR l) L) (pV (raR l) i)<=sO (raR l) L:=by rw[lo.cen];exact lo.sup.all i (by rw[qfh];exact hi)
theorem qtC (lo:LO (raR l) 3 L n)(s:Rat):qEP (dQ l s l.length)↔sO (raR l) L<=s:=by
 constructor
 ·rintro ⟨x,y,h⟩;have:=qzs lo (x:=x) (y:=y) (r:=s) fun i hi=>by have:=h _ (qzA.2 ⟨i,hi,rfl⟩);rw[qIZ hi] at this;grind
  have:=qxE ⟨x,y,0⟩ (cO (raR l) L);grind
 ·intro hs;refine⟨(cO (raR l) L).x,(cO (raR l) L).y,fun d hd=>?_⟩;obtain⟨i,hi,rfl⟩:=qzA.1 hd;rw[qIZ hi,<-qGM lo];have:=qGz lo hi;grind
theorem qzp {s:Rat}(hn:0<n)(h0:0<=s):(kK (dQ l s n)).isSome=true↔qEP (dQ l s n):=qAR (qJf hn) fun d hd=>by obtain⟨i,_,rfl⟩:=qzA.1 hd;exact h0
theorem qId (o:Option (Nat×Nat×Int)):∃a b c,cW o=[.b o.isSome,.i a,.i b,.i c,.i 0]:=by
 cases o with
 | none=>exact⟨0,0,0,rfl⟩
 | some w=>exact⟨_,_,_,rfl⟩
theorem qwz {s:Rat}(g:GDs (dQ l s n))(hn:0<n)(h64:n<=64):∃a b c,(vY [.r (rD (dQ l s n))]).run=some (0,[.b (kK (dQ l s n)).isSome,.i a,.i b,.i c,.i 0]):=by obtain⟨a,b,c,e⟩:=qId (kK (dQ l s n));exact⟨a,b,c,by rw[qkl g (qJf hn) (by rw[qzh];exact h64),e]⟩
theorem qFT {x y P Q x0 y0 s D:Rat}(h1:x*(2*D)=P)(h2:y*(2*D)=Q)(h3:(x-x0)*(x-x0)+(y-y0)*(y-y0)=s):s*(4*(D*D))=(P-2*D*x0)*(P-2*D*x0)+(Q-2*D*y0)*(Q-2*D*y0):=by subst h1;subst h2;subst h3;grind
theorem qJb (lo:LO (raR l) 3 L n){D P Q:Int}(h1:(cO (raR l) L).x*((2*D:Int):Rat)=(P:Rat))(h2:(cO (raR l) L).y*((2*D:Int):Rat)=(Q:Rat)):∃S:Int,sO (raR l) L*((4*(D*D):Int):Rat)=(S:Rat):=by have e:=lo.sup.eq 0 (by omega);have hl:=lo.sup.lt 0 (by omega);rw[qfh] at hl;rw[<-lo.cen,qtu hl] at e;have hz:=qD6 lo;unfold d2 at e;simp only[] at e;rw[hz] at e;obtain⟨i,hi⟩:∃i,i=Lf (raR l) L 0:=⟨_,rfl⟩;rw[<-hi] at e;refine⟨(P-2*D*cI l (i:Int) 0)*(P-2*D*cI l (i:Int) 0)+(Q-2*D*cI l (i:Int) 1)*(Q-2*D*cI l (i:Int) 1),?_⟩;have e2:((2:Int):Rat)=2:=rfl;have e4:((4:Int):Rat)=4:=rfl;rw[qLK,e2] at h1 h2;have k:=qFT (x0:=(cI l (i:Int) 0:Rat)) (y0:=(cI l (i:Int) 1:Rat)) (s:=sO (raR l) L) h1 h2 (by grind);simp only[qLK,qMl,qM9,e2,e4];exact k
end Go.Eng

namespace Go.Eng
variable {L:List Nat}{l:R}{n:Nat}
theorem qKI {P:Int}(h:P*P<=1000000000000000000):-1000000000<=P/\P<=1000000000:=by
 constructor
 ·apply qM7;intro hn;have h1:1000000001<=-P:=by omega
  have h2:=Int.mul_le_mul h1 h1 (by omega) (by omega);rw[qN7] at h2;omega
 ·apply qM7;intro hn;have h1:1000000001<=P:=by omega
  have h2:=Int.mul_le_mul h1 h1 (by omega) (by omega);omega
def qAZ(x:Int):Prop:=-100<=x/\x<=100
theorem qKa {i:Nat}(hi:i<l.length)(h:qAZ (cI l (i:Int) 0)/\qAZ (cI l (i:Int) 1)):d2 ⟨0,0,0⟩ (pV (raR l) i)<=20000:=by
 rw[qtu hi];obtain⟨h1,h2⟩:=h;unfold qAZ at h1 h2;have m1:=qBp h1.1 h1.2 h1.1 h1.2;have m2:=qBp h2.1 h2.2 h2.1 h2.2;have k:cI l (i:Int) 0*cI l (i:Int) 0+cI l (i:Int) 1*cI l (i:Int) 1<=20000:=by omega
 have k':=Rat.intCast_le_intCast.2 k;rw[qMl,qLK,qLK] at k';have e:((20000:Int):Rat)=20000:=rfl;rw[e] at k';unfold d2;simp only[];grind
theorem qGR (lo:LO (raR l) 3 L n)(hK:∀i,i<l.length->qAZ (cI l (i:Int) 0)/\qAZ (cI l (i:Int) 1)):0<=sO (raR l) L/\sO (raR l) L<=20000/\(cO (raR l) L).x*(cO (raR l) L).x<=20000/\(cO (raR l) L).y*(cO (raR l) L).y<=20000:=by
 have h0:0<=sO (raR l) L:=qK2 lo.sup (by omega);have h:=qzs lo (x:=0) (y:=0) (r:=20000) fun i hi=>qKa hi (hK i hi);have e:d2 ⟨0,0,0⟩ (cO (raR l) L)=(cO (raR l) L).x*(cO (raR l) L).x+(cO (raR l) L).y*(cO (raR l) L).y+(cO (raR l) L).z*(cO (raR l) L).z:=by unfold d2;simp only[];grind
 have s1:=qei (cO (raR l) L).x;have s2:=qei (cO (raR l) L).y;have s3:=qei (cO (raR l) L).z;rw[e] at h;exact⟨h0,by grind,by grind,by grind⟩
theorem qBz (lo:LO (raR l) 3 L n)(hK:∀i,i<l.length->qAZ (cI l (i:Int) 0)/\qAZ (cI l (i:Int) 1)) :bnd 17 13 (sO (raR l) L)/\(∀k:Int,0<=k->k<50->bnd 17 13 (sO (raR l) L*Rat.divInt k 50))/\bnd 12 10 (cO (raR l) L).x/\bnd 12 10 (cO (raR l) L).y:=by
 obtain⟨D,P,Q,d0,db,h1,h2,_⟩:=qFk lo (M:=200) (by omega) fun i j hi hj=>by obtain⟨a1,a2⟩:=hK i hi;obtain⟨b1,b2⟩:=hK j hj;unfold qAZ at a1 a2 b1 b2;omega
 obtain⟨S,hS⟩:=qJb lo h1 h2;obtain⟨l0,l1,l2,l3⟩:=qGR lo hK;have db':-80000<=D/\D<=80000:=by omega
 have dd:=qBp db'.1 db'.2 db'.1 db'.2;have dp:0<D*D:=by
  rcases (show 0<D\/0 < -D by omega) with q|q
  ·exact Int.mul_pos q q
  ·have:=Int.mul_pos q q;rwa [qN7] at this
 have rnn:(0:Rat)<=((4*(D*D):Int):Rat):=Rat.intCast_nonneg.2 (by omega);have e2:((20000:Int):Rat)=20000:=rfl;have lim:∀q:Rat,0<=q->q<=20000->q*((4*(D*D):Int):Rat)<=((20000*(4*(D*D)):Int):Rat):=fun q _ hq=>by rw[qLK 20000,e2];exact Rat.mul_le_mul_of_nonneg_right hq rnn
 have s1:S<=20000*(4*(D*D)):=Rat.intCast_le_intCast.1 (by rw[<-hS];exact lim _ l0 l1);have s0:0<=S:=Rat.intCast_nonneg.1 (by rw[<-hS];exact qLJ l0 rnn);have pq:∀(x:Rat) (P:Int),x*((2*D:Int):Rat)=(P:Rat)->x*x<=20000->bnd 12 10 x:=fun x P h hx=>by
  have e:((P*P:Int):Rat)=x*x*((4*(D*D):Int):Rat):=by have f2:((2:Int):Rat)=2:=rfl;have f4:((4:Int):Rat)=4:=rfl;rw[qLK,<-h];simp only[qLK,f2,f4];grind
  have k:P*P<=20000*(4*(D*D)):=Rat.intCast_le_intCast.1 (by rw[e];exact lim _ (qei x) hx);have k2:=qKI (P:=P) (by omega);exact qfX (a:=11) (b:=9) (by omega) h (by omega) (by omega)
 refine⟨qfX (a:=16) (b:=12) (by omega) hS (by omega) (by omega),fun k k0 k1=>?_,pq _ P h1 l2,pq _ Q h2 l3⟩;have m:=qBp (a:=S) (b:=k) (A:=20000*(4*6400000000)) (B:=50) (by omega) (by omega) (by omega) (by omega);refine qfX (P:=S*k) (M:=50*(4*(D*D))) (a:=16) (b:=12) (by omega) ?_ (by omega) (by omega);have f50:((50:Int):Rat)=50:=rfl;rw[Rat.divInt_eq_div,qLK 50,qLK S,<-hS,f50];have n50:(50:Rat)≠0:=by decide
 have c:(k:Rat)/50*50=(k:Rat):=Rat.div_mul_cancel n50;grind
theorem qJJ {i:Nat}(hi:i<l.length)(lo:LO (raR l) 3 L n):q32 (cI l (i:Int) 0:Rat) (cI l (i:Int) 1:Rat) (cO (raR l) L).x (cO (raR l) L).y=d2 (cO (raR l) L) (pV (raR l) i):=by rw[qtu hi,qGM lo];unfold q32 d2;simp only[];grind
end Go.Eng

namespace Go.Eng
theorem qwR{m n:Int}(hn0:n≠0)(hm:-999999999999999<=m/\m<=999999999999999)(hn:-999999999999999<=n/\n<=999999999999999):(q8H [.i m,.i n]).run=some (0,[.s (tQ (Rat.divInt m n))]):=by
 have ok:∀k:Int,-999999999999999<=k/\k<=999999999999999->nl k<=400000:=fun k hk=>by
  have:=qkK (m:=k) (n:=999999999999999) (by omega);have e:nl 999999999999999=15:=by decide
  omega
 rw[quZ];simp only[STD,kj m (by omega) (by omega),kj n (by omega) (by omega),qzo m n hn0 (ok m hm) (ok n hn)]
def D4(x y s:Rat):DQ:=⟨x,y,s⟩
theorem gdx{x y s:Rat}(hx:qn x<=5/\qd x<=1)(hy:qn y<=5/\qd y<=1)(hs:qn s<=5/\qd s<=1)(h:0<=s):GD (D4 x y s):=⟨hx,hy,qKX hs,h⟩
theorem t0:tQ 0=[48]:=rfl
theorem t1:tQ 1=[49]:=by decide +kernel
theorem t2':tQ 2=[50]:=by decide +kernel
theorem t4:tQ 4=[52]:=by decide +kernel
theorem t5:tQ 5=[53]:=by decide +kernel
theorem t53:tQ (5/3)=[53,47,51]:=by decide +kernel
theorem qLl:kK [D4 0 0 4,D4 4 0 4]=some (0,1,0):=by decide +kernel
theorem qLe:kK [D4 0 0 5,D4 4 0 5]=some (0,1,1):=by decide +kernel
theorem qLg:qnB [D4 0 0 1,D4 4 0 1]=[[.i 0],[.i 1]]:=by
 have h1:kK [D4 0 0 1,D4 4 0 1]=none:=by decide +kernel
 have e:∀i j k,q0z (fun k=>q8F [D4 0 0 1,D4 4 0 1] i (i+1+k)) j k=q0z (fun k=>q8F [D4 0 0 1,D4 4 0 1] i (i+1+k)) j k:=fun _ _ _=>rfl;have z:q8F [D4 0 0 1,D4 4 0 1] 0 1=some (two 0 1):=by unfold q8F;have:[ix [D4 0 0 1,D4 4 0 1] 0,ix [D4 0 0 1,D4 4 0 1] 1]=[D4 0 0 1,D4 4 0 1]:=rfl;rw[this,h1];rfl
 unfold qnB qGg;simp only[show ([D4 0 0 1,D4 4 0 1]).length=2 from rfl,q0z,qMe,qM8,show 2-1=1 from rfl,z,Option.elim,id];rfl
theorem qLf:qnB [D4 0 0 1,D4 2 0 1,D4 1 (5/3) 1]=[[.i 0],[.i 1],[.i 2]]:=by
 have h1:(kK [D4 0 0 1,D4 2 0 1]).isSome=true:=by decide +kernel
 have h2:(kK [D4 0 0 1,D4 1 (5/3) 1]).isSome=true:=by decide +kernel
 have h3:(kK [D4 2 0 1,D4 1 (5/3) 1]).isSome=true:=by decide +kernel
 have h4:kK [D4 0 0 1,D4 2 0 1,D4 1 (5/3) 1]=none:=by decide +kernel
 have z1:q8F [D4 0 0 1,D4 2 0 1,D4 1 (5/3) 1] 0 1=none:=by unfold q8F;rw[if_pos];exact h1
 have z2:q8F [D4 0 0 1,D4 2 0 1,D4 1 (5/3) 1] 0 2=none:=by unfold q8F;rw[if_pos];exact h2
 have z3:q8F [D4 0 0 1,D4 2 0 1,D4 1 (5/3) 1] 1 2=none:=by unfold q8F;rw[if_pos];exact h3
 have z4:qhY [D4 0 0 1,D4 2 0 1,D4 1 (5/3) 1] 0 1 2=some (three 0 1 2):=by unfold qhY;have:[ix [D4 0 0 1,D4 2 0 1,D4 1 (5/3) 1] 0,ix [D4 0 0 1,D4 2 0 1,D4 1 (5/3) 1] 1,ix [D4 0 0 1,D4 2 0 1,D4 1 (5/3) 1] 2]=[D4 0 0 1,D4 2 0 1,D4 1 (5/3) 1]:=rfl;rw[this,h4];rfl
 unfold qnB qGg qIz;simp only[show ([D4 0 0 1,D4 2 0 1,D4 1 (5/3) 1]).length=3 from rfl,q0z,qMb,show 3-1=2 from rfl,show 3-2=1 from rfl,show 1+1=2 from rfl,show 0+1=1 from rfl,show 2+1=3 from rfl,z1,z2,z3,z4,Option.elim,qMv];rfl
theorem qLi:qHJ (D4 0 0 1) (D4 1 0 4)=2:=by decide +kernel
theorem qi0:(q3k []).run=some (0,[.b true]):=by
 rw[qsI];have g1:GD (D4 0 0 4):=gdx (by decide +kernel) (by decide +kernel) (by decide +kernel) (by decide +kernel);have g2:GD (D4 4 0 4):=gdx (by decide +kernel) (by decide +kernel) (by decide +kernel) (by decide +kernel);have g3:GD (D4 0 0 5):=gdx (by decide +kernel) (by decide +kernel) (by decide +kernel) (by decide +kernel);have g4:GD (D4 4 0 5):=gdx (by decide +kernel) (by decide +kernel) (by decide +kernel) (by decide +kernel);have g5:GD (D4 0 0 1):=gdx (by decide +kernel) (by decide +kernel) (by decide +kernel) (by decide +kernel);have g6:GD (D4 4 0 1):=gdx (by decide +kernel) (by decide +kernel) (by decide +kernel) (by decide +kernel);have g7:GD (D4 2 0 1):=gdx (by decide +kernel) (by decide +kernel) (by decide +kernel) (by decide +kernel);have g8:GD (D4 1 (5/3) 1):=gdx (by decide +kernel) (by decide +kernel) (by decide +kernel) (by decide +kernel);have g9:GD (D4 1 0 4):=gdx (by decide +kernel) (by decide +kernel) (by decide +kernel) (by decide +kernel);have a:=qkl (qKq g1 g2) (by simp) (by simp);have b:=qkl (qKq g3 g4) (by simp) (by simp);have c:=qqv (qKq g5 g6) (by simp) (by simp);have d:=qqv (qL8 g5 g7 g8) (by simp) (by simp);have e:=qxT g5 g9;rw[qLl] at a;rw[qLe] at b;rw[qLg] at c;rw[qLf] at d;rw[qLi] at e;simp only[rD,qgU,qMn,List.map_nil,D4,t0,t1,t2',t4,t5,t53,cW,Option.elim] at a b c d e;have f1:=qbf [[.i 0],[.i 1]] (by simp);have f2:=qbf [[.i 0],[.i 1],[.i 2]] (by simp);have D:∀x y s,(zI [.s x,.s y,.s s]).run=some (0,[.s x,.s y,.s s]):=fun x y s=>by rw[qmk];rfl
 have w:qC .i64 0 0=0:=by decide
 simp only[STD,D,a,b,c,d,e,f1,f2,w,show ((0:Nat):Int)=0 from rfl,show ((1:Nat):Int)=1 from rfl,and_self];rfl
theorem qGK{x:Int}(h:x*x<=10000):qAZ x:=by
 unfold qAZ;constructor
 ·apply qM7;intro hn;have h1:101<=-x:=by omega
  have h2:=Int.mul_le_mul h1 h1 (by omega) (by omega);rw[qN7] at h2;omega
 ·apply qM7;intro hn;have h1:101<=x:=by omega
  have h2:=Int.mul_le_mul h1 h1 (by omega) (by omega);omega
theorem qKc{x y:Int}(hx:co x)(hy:co y):(zv [.i x,.i y]).run=some (0,[.b (decide (10000<x*x+y*y))]):=by
 unfold co at *;have m1:=qBp hx.1 hx.2 hx.1 hx.2;have m2:=qBp hy.1 hy.2 hy.1 hy.2;have w1:yF .i64 x 0=x:=by rw[vV (by omega)];omega
 have w2:yF .i64 y 0=y:=by rw[vV (by omega)];omega
 have w3:vd .i64 x x=x*x:=q35 (by omega);have w4:vd .i64 y y=y*y:=q35 (by omega);have w5:qC .i64 (x*x) (y*y)=x*x+y*y:=zb (by omega);have mi:(q75 [.i x,.i y,.i 0,.i 0]).run=some (0,[.i x,.i y]):=by rw[qs7,w1,w2];rfl
 have ti:(q69 [.i x,.i y,.i x,.i y]).run=some (0,[.i (x*x+y*y)]):=by rw[qs0,w3,w4,w5];rfl
 have fa:(qbq [.i x,.i y,.i 0,.i 0]).run=some (0,[.i (x*x+y*y)]):=by rw[qwv];simp only[STD,mi,ti]
 have e:ilt 10000 (x*x+y*y)=decide (10000<x*x+y*y):=rfl;rw[qf3];simp only[STD,fa,e]
theorem qJl{l:R}(h64:l.length<=64)(hco:∀i,i<l.length->co (cI l (i:Int) 0)/\co (cI l (i:Int) 1)):∃c,(qj [.r l]).run=some (0,[.b c])/\(c=false->∀i,i<l.length->qAZ (cI l (i:Int) 0)/\qAZ (cI l (i:Int) 1)):=by
 have lx:qm l=(l.length:Int):=rfl;obtain⟨bad,hbad⟩:∃bad:Nat->Bool,bad=fun i:Nat=>decide (10000<cI l (i:Int) 0*cI l (i:Int) 0+cI l (i:Int) 1*cI l (i:Int) 1):=⟨_,rfl⟩;have one:∀i:Nat,i<l.length->(zv [.i (cI l (i:Int) 0),.i (cI l (i:Int) 1)]).run=some (0,[.b (bad i)]):=fun i hi=>by rw[hbad];exact qKc (hco i hi).1 (hco i hi).2
 have key:=q4o (S:=qf) (fun k=>[.r l,.i (l.length:Int),.i (k:Int),.r l,.r l]) (fun k=>if bad k=true then some (1,[.i (k:Int),.r l,.r l]) else none) (0,[.r l,.r l]) l.length (by omega)
  (fun k hk hf=>by
   have h0:bad k=false:=by
    cases hb:bad k with
    | true=>rw[if_pos hb] at hf;cases hf
    | false=>rfl
   rw[qy];simp only[STD,lx,one k hk,h0,kD hk (show l.length<9223372036854775808 by omega),show (k:Int)<l.length by omega,show (0:Int)<=k by omega,and_self])
  (fun k r hk hf=>by
   have h0:bad k=true:=by
    cases hb:bad k with
    | false=>rw[if_neg (by rw[hb];decide)] at hf;cases hf
    | true=>rfl
   rw[if_pos h0] at hf;cases hf;rw[qy];simp only[STD,lx,one k hk,h0,show (k:Int)<l.length by omega,show (0:Int)<=k by omega,and_self])
  (by rw[qy];simp only[STD,show ¬(l.length:Int)<l.length by omega])
 rw[wG];cases hs:q0z (fun k=>if bad k=true then some (1,[.i (k:Int),.r l,.r l]) else (none:Option (Nat×List PV))) 0 l.length with
 | none=>
  rw[hs] at key;have key':(qh qf [.r l,.i (l.length:Int),.i 0,.r l,.r l]).run=some (0,[.r l,.r l]):=key;refine⟨false,by simp only[STD,lx,key',qT key'],fun _ k hk=>?_⟩;have:=q6W hs k (by omega) (by omega);have hb:bad k=false:=by
   cases hb:bad k with
   | true=>rw[hb] at this;simp at this
   | false=>rfl
  rw[hbad] at hb;have hb:=of_decide_eq_false hb;have s1:=qGF (cI l (k:Int) 0);have s2:=qGF (cI l (k:Int) 1);exact⟨qGK (by omega),qGK (by omega)⟩
 | some r=>
  rw[hs] at key;obtain⟨k,_,_,h3⟩:=qkZ hs;split at h3
  ·cases h3;have key':(qh qf [.r l,.i (l.length:Int),.i 0,.r l,.r l]).run=some (1,[.i (k:Int),.r l,.r l]):=key;have e:ile 0 (k:Int)=true:=by rw[qyB];omega
   exact⟨true,by simp only[STD,lx,key',qT key',e,show ¬((1:Nat)=0) by decide],fun h=>by cases h⟩
  ·cases h3
theorem qHv{x0:R}{s s':Rat}(hm:x0.length<=64)(hp:∀i,i<x0.length->qro (cI x0 (i:Int) 0)/\qro (cI x0 (i:Int) 1))(cx cy:Bs) :(qh wg [.s (tQ s),.s (tQ s'),.r x0,.i (x0.length:Int),.i 0,.s cx,.s cy,.r [],.r []]).run=some (0,[.s (tQ s),.s cx,.s cy,.r (rD (dQ x0 s x0.length)),.r (rD (dQ x0 s' x0.length))]):=by
 have lr:qm x0=(x0.length:Int):=rfl;have key:=zu (S:=wg) (fun i=>[.s (tQ s),.s (tQ s'),.r x0,.i (x0.length:Int),.i (i:Int),.s cx,.s cy,.r (rD (dQ x0 s i)),.r (rD (dQ x0 s' i))]) (0,[.s (tQ s),.s cx,.s cy,.r (rD (dQ x0 s x0.length)),.r (rD (dQ x0 s' x0.length))]) x0.length (by omega) (fun i hi=>by
  obtain⟨h1,h2⟩:=hp i hi;have w:=kD hi (show x0.length<9223372036854775808 by omega);have e1:∀a b c:U,qm [[a,b,c]]=1:=fun _ _ _=>rfl;have D:∀x y s,(zI [.s x,.s y,.s s]).run=some (0,[.s x,.s y,.s s]):=fun x y s=>by rw[qmk];rfl
  rw[q5X];simp only[STD,lr,w,D,qlP (qiN (qz3 h1)),qlP (qiN (qz3 h2)),qCT,e1,qIf,show (i:Int)<x0.length by omega,show (0:Int)<=i by omega,show (i:Int)+1<=2932031007402 by omega,and_self]) (by
  rw[q5X];simp only[STD,Int.lt_irrefl])
 exact key
theorem qmW(x0:R)(x1:Int)(_:UFit (.sl [(.int .i64),(.int .i64)]) (.l x0))(wex0:x0.length*16<=140737488351232)(lox1:IntKind.min .u8<=x1)(_:x1<=IntKind.max .u8):(yW [.r x0,.i x1]).run=some (0,[.b true]):=by
 have lx:qm x0=(x0.length:Int):=rfl;have t1:0<=x1:=lox1;rw[qhM];by_cases h1:qm x0=0
 ·simp only[STD,h1,qi0]
 by_cases h2:5<qm x0
 ·simp only[STD,h1,h2,qi0]
 by_cases h3:qBK x0=0
 case neg=>simp only[STD,h1,h2,qeK,h3,qi0]
 obtain⟨v1,v2⟩:=qvt h3;obtain⟨c,hc,fc⟩:=qJl v1 v2;cases c with
 | true=>simp only[STD,h1,h2,qeK,h3,hc,qi0]
 | false=>
  have ti:=fc rfl;have n0:0<x0.length:=by rw[lx] at h1;omega
  have h0:qxP x0=0:=by unfold qxP;rw[if_pos h3,if_neg h1]
  have sm:∀i,i<x0.length->qro (cI x0 (i:Int) 0)/\qro (cI x0 (i:Int) 1):=fun i hi=>by have:=ti i hi;unfold qAZ at this;unfold qro;omega
  obtain⟨L,n,lo,r⟩:=qAY h0;obtain⟨s1,s2,s3,s4⟩:=qBz lo ti;have snn:=(qGR lo ti).1;have c0:=qGz lo (i:=0) n0;rw[<-qJJ n0 lo] at c0;obtain⟨m,hm⟩:∃m,m=qb4 x1 50:=⟨_,rfl⟩;have mb:0<=m/\m<50:=by rw[hm];exact⟨Int.tmod_nonneg _ t1,Int.tmod_lt_of_pos _ (by decide)⟩
  have sk:=s2 m mb.1 mb.2;have ml:=qtC lo (sO (raR x0) L);have ml':=qtC lo (sO (raR x0) L*Rat.divInt m 50);obtain⟨s,hs⟩:∃s,s=sO (raR x0) L:=⟨_,rfl⟩;obtain⟨cx,hcx⟩:∃cx,cx=(cO (raR x0) L).x:=⟨_,rfl⟩;obtain⟨cy,hcy⟩:∃cy,cy=(cO (raR x0) L).y:=⟨_,rfl⟩;rw[<-hs,<-hcx,<-hcy] at r c0;rw[<-hs] at s1 snn sk ml ml';rw[<-hcx] at s3;rw[<-hcy] at s4;have w2:q2J .i64 m=m:=qpy (by omega);have ov:=qwR (m:=m) (n:=50) (by omega) (by omega) (by omega);have q50:bnd 17 13 (Rat.divInt m 50):=by refine qfX (P:=m) (M:=50) (a:=16) (b:=12) (by omega) ?_ (by omega) (by omega);have f50:((50:Int):Rat)=50:=rfl;rw[Rat.divInt_eq_div,f50];exact Rat.div_mul_cancel (by decide)
  have tm:=quL (s1.sm (K:=100000) (by omega) (by omega)) (q50.sm (K:=100000) (by omega) (by omega));have ok:=s1.ok (by omega) (by omega);have ck:=qtV (tQ s) (by have:=q5r ok;omega);rw[qqj ok] at ck;have dnn:0<=Rat.divInt m 50:=by rw[Rat.divInt_eq_div,Rat.div_def];exact qLJ (Rat.intCast_nonneg.2 mb.1) (by decide +kernel)
  have dlt:Rat.divInt m 50<1:=by
   have f50:((50:Int):Rat)=50:=rfl;have e:Rat.divInt m 50*50=(m:Rat):=by rw[Rat.divInt_eq_div,f50];exact Rat.div_mul_cancel (by decide)
   have:=Rat.intCast_le_intCast.2 (show m<=49 by omega);have f49:((49:Int):Rat)=49:=rfl;rw[f49] at this;grind
  obtain⟨s',hs'⟩:∃s',s'=s*Rat.divInt m 50:=⟨_,rfl⟩;rw[<-hs'] at sk ml' tm;have snn':0<=s':=by rw[hs'];exact qLJ snn dnn
  have small_iff:s<=s'↔s=0:=by
   constructor
   ·intro h;have k:0<=s*(Rat.divInt m 50-1):=by rw[hs'] at h;grind
    apply qM7;intro hne;have sp:0<s:=by grind
    have k2:0<s*(1-Rat.divInt m 50):=qLU sp (by grind);grind
   ·intro h;rw[h];exact snn'
  have g:=qJz (l:=x0) (n:=x0.length) s1 snn sm;have g':=qJz (l:=x0) (n:=x0.length) sk snn' sm;have dl:=qzh x0 s x0.length;have ld:=qHv (x0:=x0) (s:=s) (s':=s') v1 sm (tQ cx) (tQ cy);obtain⟨a1,a2,a3,cm⟩:=qwz g n0 v1;obtain⟨b1,b2,b3,cm'⟩:=qwz g' n0 v1;have eb:(kK (dQ x0 s x0.length)).isSome=true:=by rw[qzp n0 snn,ml];exact qMF
  have eb':(kK (dQ x0 s' x0.length)).isSome=seq (tQ s) [48]:=by rw[Bool.eq_iff_iff,qzp n0 snn',ml',small_iff,qFB]
  rw[eb] at cm;rw[eb'] at cm';obtain⟨q1,q2,q3⟩:=qtI (l:=dQ x0 s x0.length) (i:=0) (by rw[dl];exact n0);have ci:=qAv (g.ix (i:=0) (by rw[dl];exact n0)) s3 s4;rw[<-q1,<-q2,<-q3,qL6 n0] at ci;have ef:decide (q32 (dO x0 s 0).x (dO x0 s 0).y cx cy<=(dO x0 s 0).s)=true:=decide_eq_true c0;rw[ef] at ci;have ci':(kr [.s (cS (rD (dQ x0 s x0.length)) 0 0),.s (cS (rD (dQ x0 s x0.length)) 0 1),.s (cS (rD (dQ x0 s x0.length)) 0 2),.s (tQ cx),.s (tQ cy)]).run=_:=ci;have w0:qC .i64 (qC .i64 0 0) 0=0:=by decide
  have rd:=qCT x0 s x0.length;have hv:(q1y [.r x0]).run=some (0,[.i 0]):=by rw[qeK,h3]
  simp only[STD,lx,show ¬(x0.length:Int)=0 by omega,show ¬(5:Int)<(x0.length:Int) by rw[lx] at h2;exact h2,hv,hc,r,ck,<-hm,w2,ov,tm,ld,rd,cm,cm',ci',w0,qi0,show (0:Int)<(x0.length:Int) by omega,show (0:Int)<=0 by decide,and_self]
end Go.Eng

