/- Texts of the proof, merged: what the code computes, and plain laws. No statement stands here. -/
import Derived.Test.YtflobilbbfefaaaGreatDoorH4
namespace Go.Eng
theorem qwS{m:Int}{k n:Nat}(h:nl m≤k)(hk:k≤9*n):(m.natAbs:Int)<pB n:=by
 rw[quD]
 have h1:=qyu h
 have h2:(10:Nat)^k≤10^(9*n):=Nat.pow_le_pow_right (by omega) hk
 omega
theorem qlg{m:Int}(h:okL m):(m.natAbs:Int)<pB 114:=qwS (k:=1024) h (by omega)
theorem qmZ{m:Int}(h:okL m):okL (-m):=by unfold okL;rw[qoB];exact h
theorem qtU{n:Nat}:pB n+pB n≤pB (n+1):=by rw[q7G];have:=q8n n;omega
theorem qy5{b:Bool}{l:List Int}(h:0≤mv l):((sv b l).natAbs:Int)=mv l:=by unfold sv;cases b<;>simp<;>omega
theorem qoY{n:Nat}{l:List Int}(h:WOK n l)(hn:nrm n l)(b:Bool)(hk:okL (sv b l)):(zC [.b b,.i (n:Int),.r (rI l)]).run=some (0,[.s (tI (sv b l)),.i 0,.b b,.i (n:Int),.r (rI l)]):=by
 rw[qcA]
 simp only[STD,qrg h hn,qfc hk]
theorem qpq(m n:Int):(jJ [.s (tI m),.s (tI n)]).run=some (0,if (tI m).length≤9∧(tI n).length≤9 then [.i m,.i n,.b true] else [.i 0,.i 0,.b false]):=by
 rw[qkN]
 have h1:(9<qm (tI m))=¬(tI m).length≤9:=by unfold qm;simp only[eq_iff_iff];omega
 have h2:(9<qm (tI n))=¬(tI n).length≤9:=by unfold qm;simp only[eq_iff_iff];omega
 by_cases a:(tI m).length≤9
 ·by_cases b:(tI n).length≤9
  ·simp only[STD,h1,h2,a,b,and_self,quz (s:=tI m) (by omega) (quQ m),quz (s:=tI n) (by omega) (quQ n)]
  ·simp only[STD,h1,h2,a,b,and_false]
 ·simp only[STD,h1,a,false_and]
theorem qcC{m:Int}(h:(tI m).length≤9):m.natAbs<1000000000:=by
 have:(tN m.natAbs).length≤9:=by
  unfold tI at h
  split at h
  ·simp at h;omega
  ·exact h
 exact Nat.lt_of_lt_of_le (q3v this) (by simp)
theorem qr9(n:Int)(h:-9223372036854775808≤n∧n≤9223372036854775807):(uu [.i n]).run=some (0,[.s (tI n),.i 0]):=by
 rw[qk3]
 simp only[STD,qcN n h]
theorem qt7{m:Int}{l:List Int}(h:mv l=m.natAbs):sv (decide (m<0)) l=m:=by
 unfold sv
 by_cases hm:m<0
 ·rw[decide_eq_true hm,if_pos rfl];omega
 ·rw[decide_eq_false hm,if_neg (by simp)];omega
theorem qyr{m n:Int}(hm:okL m)(hn:okL n)(hs:okL (m+n)):(q7p [.r [[.s (tI m)],[.s (tI n)]]]).run=some (0,[.s (tI (m+n)),.i 0]):=by
 rw[qoA]
 have e0:q21 232 [.i 0]=rI (List.replicate 232 0):=qeD 232 0
 have lm:=qlg hm
 have ln:=qlg hn
 obtain⟨q1,l1,r1,w1,n1,v1,_⟩:=qhv m (by unfold okL at hm;omega)
 obtain⟨q2,l2,r2,w2,n2,v2,_⟩:=qhv n (by unfold okL at hn;omega)
 have hb2:=q8W (show 115≤232 by omega)
 have hb1:pB 114+pB 114≤pB 115:=qtU
 have hb0:=q8n 114
 obtain⟨b1,k1,m1,a1,a2,a3,a4⟩:=qwp (lx:=List.replicate 232 0) (nx:=0) WOK.zero (.inl rfl) w1 n1 (by rw[qaz,v1];omega) false (decide (m<0))
 rw[qt7 v1] at a4
 have a5:sv b1 m1=m:=by
  have:sv false (List.replicate 232 0)=0:=by unfold sv;rw[if_neg (by simp),qaz]
  rw[a4,this];omega
 obtain⟨b2,k2,m2,c1,c2,c3,c4⟩:=qwp a2 a3 w2 n2 (by rw[←qy5 (b:=b1) a2.bd.1,a5,v2];omega) b1 (decide (n<0))
 rw[qt7 v2,a5] at c4
 have key:=yM (S:=q3H) (fun i=>match i with
  | 0=>[.r [[.s (tI m)],[.s (tI n)]],.i 2,.i 0,.b false,.i 0,.r (rI (List.replicate 232 0))]
  | 1=>[.r [[.s (tI m)],[.s (tI n)]],.i 2,.i 1,.b b1,.i (k1:Int),.r (rI m1)]
  | _=>[.r [[.s (tI m)],[.s (tI n)]],.i 2,.i 2,.b b2,.i (k2:Int),.r (rI m2)]) (0,[.b b2,.i (k2:Int),.r (rI m2)]) 2 (by omega) (fun i hi=>by
   have:i=0∨i=1:=by omega
   have d0:cS [[.s (tI m)],[.s (tI n)]] 0 0=tI m:=rfl
   have d1:cS [[.s (tI m)],[.s (tI n)]] 1 0=tI n:=rfl
   have d2:qt [[U.s (tI m)],[U.s (tI n)]]=2:=rfl
   rcases this with rfl|rfl
   ·simp only
    rw[q8X,d0,d2]
    simp only[show ((0:Nat):Int)=0 from rfl] at a1
    have w:qh .i64 0 1=1:=by decide
    simp only[STD,r1,a1,w,show (0:Int)<2 by omega,show (0:Int)≤0 by omega,and_self]
   ·simp only
    rw[q8X,d1,d2]
    have w:qh .i64 1 1=2:=by decide
    simp only[STD,r2,c1,w,show (1:Int)<2 by omega,show (0:Int)≤1 by omega,and_self]) (by
   simp only
   rw[q8X]
   simp only[STD,show ¬(2:Int)<2 by omega])
 simp only at key
 have hL:=qoY c2 c3 b2 (by rw[c4];exact hs)
 rw[c4] at hL
 have d2:qt [[U.s (tI m)],[U.s (tI n)]]=2:=rfl
 simp only[e0,d2]
 simp only[STD,key,hL]
theorem qyl{m n:Int}(hm:okL m)(hn:okL n)(hs:okL (m+n)):(q1a [.s (tI m),.s (tI n)]).run=some (0,[.s (tI (m+n)),.i 0]):=by
 rw[qoP]
 have h:=qpq m n
 by_cases hc:(tI m).length≤9∧(tI n).length≤9
 ·rw[if_pos hc] at h
  have b1:=qcC hc.1
  have b2:=qcC hc.2
  have w:qh .i64 m n=m+n:=zh (by omega)
  simp only[STD,qbn hm hn,h,w,qr9 (m+n) (by omega)]
 ·rw[if_neg hc] at h
  simp only[STD,qbn hm hn,h,qyr hm hn hs]
theorem qsw{m:Int}(hm:okL m):(q0k [.s (tI m)]).run=some (0,[.s (tI (-m))]):=by
 rw[qgD]
 have hl:=qpW hm
 have hp:=qiz m
 rcases q9V m with⟨h,e⟩|⟨h,e⟩|⟨h,e⟩
 ·have a1:(0:Int)≤qm (tI m)∧qm (tI m)≤qm (tI m):=by unfold qm;omega
  have a2:(0:Int)≤1∧1≤qm (tI m):=by unfold qm;omega
  have a3:q8i (tI m) 1 (qm (tI m))=tI (-m):=by
   unfold q8i qm
   rw[q8m h,qec (m:=-m) (by omega),Int.natAbs_neg];simp
  simp only[STD,q17,e,a1,a2,a3,and_self,show ¬((-1:Int)=0) by omega,show ¬((-1:Int)=1) by omega]
 ·simp only[STD,q17,e]
  rw[h];rfl
 ·have a1:qm [45]+qm (tI m)≤140737488355328:=by unfold qm;simp;omega
  have a3:qeL [45] (tI m)=tI (-m):=by
   unfold qeL
   rw[q8m (m:=-m) (by omega),qec (m:=m) (by omega),Int.natAbs_neg];rfl
  simp only[STD,q17,e,a1,a3,show ¬((1:Int)=0) by omega]
theorem qza{m n:Int}(hm:okL m)(hn:okL n)(hs:okL (m-n)):(q4J [.s (tI m),.s (tI n)]).run=some (0,[.s (tI (m-n)),.i 0]):=by
 rw[qoI]
 have h:=qyl hm (qmZ hn) (by rwa [←Int.sub_eq_add_neg])
 rw[←Int.sub_eq_add_neg] at h
 simp only[STD,qbn hm hn,qsw hn,h]
theorem qz3{m n:Int}(hm:okL m)(hn:okL n)(hs:okL (m*n)):(q2Z [.s (tI m),.s (tI n)]).run=some (0,[.s (tI (m*n)),.i 0]):=by
 rw[qo1]
 have h:=qpq m n
 by_cases hc:(tI m).length≤9∧(tI n).length≤9
 ·rw[if_pos hc] at h
  have b1:=qcC hc.1
  have b2:=qcC hc.2
  have b3:=qyN (A:=999999999) (B:=999999999) (a:=m) (b:=n) (by omega) (by omega) (by omega) (by omega)
  have w:kK .i64 m n=m*n:=q6V (by omega)
  simp only[STD,qbn hm hn,h,w,qr9 (m*n) (by omega)]
 ·rw[if_neg hc] at h
  unfold okL at hm hn
  obtain⟨q1,l1,r1,w1,n1,v1,z1⟩:=qhv m (by omega)
  obtain⟨q2,l2,r2,w2,n2,v2,z2⟩:=qhv n (by omega)
  obtain⟨k,l,t1,t2,t3,t4⟩:=qwT w1 w2 (by omega) (decide (m<0)) (decide (n<0))
  have hv:sv (!(Go.Eng.beq (decide (m<0)) (decide (n<0)))) l=m*n:=by
   unfold sv
   rw[t4,v1,v2]
   have e:((m.natAbs:Int)*(n.natAbs:Int))=(((m*n).natAbs:Nat):Int):=by rw[Int.natAbs_mul];simp
   rw[e]
   unfold Go.Eng.beq
   rcases Int.lt_trichotomy m 0 with a|a|a
   ·rcases Int.lt_trichotomy n 0 with b|b|b
    ·have:=Int.mul_pos_of_neg_of_neg a b
     simp[a,b];omega
    ·subst b;simp
    ·have:=Int.mul_neg_of_neg_of_pos a b
     have b':¬n<0:=by omega
     simp[a,b'];omega
   ·subst a;simp
   ·have a':¬m<0:=by omega
    rcases Int.lt_trichotomy n 0 with b|b|b
    ·have:=Int.mul_neg_of_pos_of_neg a b
     simp[a',b];omega
    ·subst b;simp
    ·have:=Int.mul_pos a b
     have b':¬n<0:=by omega
     simp[a',b'];omega
  have hL:=qoY t2 t3 (!(Go.Eng.beq (decide (m<0)) (decide (n<0)))) (by rw[hv];exact hs)
  rw[hv] at hL
  simp only[STD,qbn hm hn,h,r1,r2,t1,hL]
theorem qtr{n:Nat}{l:List Int}(h:WOK n l)(hn:nrm n l){k:Nat}(hl:mv l<pB k):n≤k:=by
 rcases Nat.lt_or_ge k n with h1|h1
 ·have:=h.lo hn (by omega)
  have:=q8W (show k≤n-1 by omega)
  omega
 ·exact h1
theorem qvR{k n:Int}(h0:n≠0)(hm:okL (k*n))(hn:okL n):(q2l [.s (tI (k*n)),.s (tI n)]).run=some (0,[.s (tI k),.s (tI 0),.i 0]):=by
 rw[qjN]
 have h:=qpq (k*n) n
 have hz:¬tI n=[48]:=by rw[q7R];exact h0
 by_cases hc:(tI (k*n)).length≤9∧(tI n).length≤9
 ·rw[if_pos hc] at h
  have b1:=qcC hc.1
  have b2:=qcC hc.2
  have hk:k.natAbs≤(k*n).natAbs:=by
   rw[Int.natAbs_mul]
   have:k.natAbs*1≤k.natAbs*n.natAbs:=Nat.mul_le_mul_left _ (by omega)
   omega
  have w1:q4g (k*n) n=0:=by unfold q4g;exact Int.mul_tmod_left k n
  have w2:jP .i64 (k*n) n=k:=by
   rw[Int.mul_comm];exact qd1 h0 (by omega)
  simp only[STD,qbn hm hn,zd,hz,h,h0,w1,w2,qcN k (by omega),qcN 0 (by omega)]
 ·rw[if_neg hc] at h
  have lm:=qlg hm
  have ln:=qlg hn
  obtain⟨q1,l1,r1,w1,n1,v1,z1⟩:=qhv (k*n) (by unfold okL at hm;omega)
  obtain⟨q2,l2,r2,w2,n2,v2,z2⟩:=qhv n (by unfold okL at hn;omega)
  have hq2:q2≤114:=qtr w2 n2 (by omega)
  have hq0:q2≠0:=fun h=>by rw[qge w2 n2] at h;omega
  obtain⟨nq,lq,nr,lr,d1,d2,d3,d4,d5,d6,d7⟩:=qbX w1 w2 n2 hq0 (by omega) (decide (k*n<0)) (decide (n<0))
  have e1:((k*n).natAbs:Int)=(k.natAbs:Int)*(n.natAbs:Int):=by rw[Int.natAbs_mul];simp
  rw[v1,v2,e1] at d6
  rw[v2] at d7
  have b4:=d4.bd.1
  have hr0:mv lr=0∧mv lq=k.natAbs:=by
   have hn0:(0:Int)<(n.natAbs:Int):=by omega
   have e2:((k.natAbs:Int)-mv lq)*(n.natAbs:Int)=mv lr:=by rw[Int.sub_mul];omega
   rcases Int.lt_trichotomy ((k.natAbs:Int)-mv lq) 0 with a|a|a
   ·have:=Int.mul_neg_of_neg_of_pos a hn0;omega
   ·rw[a,Int.zero_mul] at e2;omega
   ·have:=Int.mul_le_mul_of_nonneg_right (show 1≤(k.natAbs:Int)-mv lq by omega) (show 0≤(n.natAbs:Int) by omega)
    omega
  have hnr:nr=0:=by rw[qge d4 d5];exact hr0.1
  have hv:sv (!(Go.Eng.beq (decide (k*n<0)) (decide (n<0)))) lq=k:=by
   unfold sv
   rw[hr0.2]
   unfold Go.Eng.beq
   rcases Int.lt_trichotomy k 0 with a|a|a
   ·rcases Int.lt_trichotomy n 0 with b|b|b
    ·have:=Int.mul_pos_of_neg_of_neg a b
     have c:¬k*n<0:=by omega
     simp[b,c];omega
    ·exact absurd b h0
    ·have c:=Int.mul_neg_of_neg_of_pos a b
     have b':¬n<0:=by omega
     simp[b',c];omega
   ·subst a;simp
   ·rcases Int.lt_trichotomy n 0 with b|b|b
    ·have c:=Int.mul_neg_of_pos_of_neg a b
     simp[b,c];omega
    ·exact absurd b h0
    ·have:=Int.mul_pos a b
     have c:¬k*n<0:=by omega
     have b':¬n<0:=by omega
     simp[b',c];omega
  have hT:=qrg d2 d3 (!(Go.Eng.beq (decide (k*n<0)) (decide (n<0))))
  rw[hv] at hT
  have hT2:=qrg d4 d5 (decide (k*n<0))
  have hv0:sv (decide (k*n<0)) lr=0:=by unfold sv;rw[hr0.1];split<;>rfl
  rw[hv0] at hT2
  have hnr':¬(0:Int)<(nr:Int):=by omega
  simp only[STD,qbn hm hn,zd,hz,h,r1,r2,d1,hnr',hT,hT2]
theorem qwF{m n:Int}(h:m.natAbs≤n.natAbs)(hn:okL n):okL m:=Nat.le_trans (q01 h) hn
theorem qyY{k n:Int}(h0:n≠0)(hm:okL (k*n))(hn:okL n):(q4D [.s (tI (k*n)),.s (tI n)]).run=some (0,[.s (tI k),.i 0]):=by
 rw[qnS]
 have hk:okL k:=qwF (by
  rw[Int.natAbs_mul]
  have:k.natAbs*1≤k.natAbs*n.natAbs:=Nat.mul_le_mul_left _ (by omega)
  omega) hm
 simp only[STD,qvR h0 hm hn,qfc hk]
theorem quv(a b:Nat)(hb:b<9223372036854775808):(qj q0q [.i (a:Int),.i (b:Int)]).run=some (0,[.i ((Nat.gcd a b:Nat):Int)]):=by
 obtain⟨j,qs,h1,rfl,rfl⟩:=vV (S:=q0q) (fun k ps=>∃x y:Nat,ps=[.i (x:Int),.i (y:Int)]∧y=k∧Nat.gcd x y=Nat.gcd a b)
  (fun j qs=>j=0∧qs=[.i ((Nat.gcd a b:Nat):Int)]) (n:=b) hb (fun k ps hk ⟨x,y,hps,hy,hg⟩=>by
  subst hps
  rw[qjm]
  by_cases h0:y=0
  ·right
   refine⟨0,[.i (x:Int)],?_,rfl,?_⟩
   ·simp only[STD,h0];simp[]
   ·rw[←hg,h0,Nat.gcd_zero_right]
  ·left
   refine⟨x%y,[.i (y:Int),.i ((x%y:Nat):Int)],by rw[←hy];exact Nat.mod_lt _ (by omega),?_,y,x%y,rfl,rfl,?_⟩
   ·simp only[STD,show ¬((y:Int)=0) by omega,qij]
   ·rw[←hg,Nat.gcd_comm y,←Nat.gcd_rec,Nat.gcd_comm]) (ps:=[.i (a:Int),.i (b:Int)]) ⟨a,b,rfl,rfl,rfl⟩
 exact h1
theorem qwt{n:Nat}{l:List Int}(h:WOK n l)(hn:n≤1):mv l=l.getD 0 0:=by
 have:=q87 l 1 (by rw[h.len];omega)
 rw[v7 h.dig h.z hn,Int.mul_zero,Int.add_zero] at this
 have hl:=h.len
 obtain⟨x,t,rfl⟩:∃x t,l=x::t:=by
  cases l with
  | nil=>simp at hl
  | cons x t=>exact⟨x,t,rfl⟩
 rw[this];simp[mv]
theorem qyJ{m n:Int}(hm:okL m)(hn:okL n):(q1g [.s (tI m),.s (tI n)]).run=some (0,[.s (tN (Nat.gcd m.natAbs n.natAbs)),.i 0]):=by
 rw[qoG]
 have lm:=qlg hm
 have ln:=qlg hn
 obtain⟨q1,l1,r1,w1,n1,v1,_⟩:=qhv m (by unfold okL at hm;omega)
 obtain⟨q2,l2,r2,w2,n2,v2,_⟩:=qhv n (by unfold okL at hn;omega)
 have hm':(tN m.natAbs).length≤1024:=hm
 have hn':(tN n.natAbs).length≤1024:=hn
 obtain⟨j,qs,g1,g2⟩:=vV (S:=q3X) (fun k ps=>∃(x y:Nat) (b1 b2:Bool) (nx ny:Nat) (lx ly:List Int),ps=[.b b1,.i (nx:Int),.r (rI lx),.b b2,.i (ny:Int),.r (rI ly)] ∧
   WOK nx lx∧nrm nx lx∧WOK ny ly∧nrm ny ly∧mv lx=x∧mv ly=y∧eM x y=k∧Nat.gcd x y=Nat.gcd m.natAbs n.natAbs∧(x:Int)<pB 114∧(y:Int)<pB 114)
  (fun j qs=>(j=0∧∃(b:Bool) (n':Nat) (l:List Int),qs=[.b b,.i (n':Int),.r (rI l)]∧WOK n' l∧nrm n' l∧mv l=((Nat.gcd m.natAbs n.natAbs:Nat):Int))∨(j=1∧qs=[.s (tN (Nat.gcd m.natAbs n.natAbs)),.i 0])) (n:=eM m.natAbs n.natAbs) (qqT (by omega) (by omega))
  (fun k ps hk ⟨x,y,b1,b2,nx,ny,lx,ly,hps,hw,hnw,hw2,hn2,hx,hy,he,hg,lx1,ly1⟩=>by
  subst hps
  rw[qkQ]
  have hxl:=hw.len
  have hyl:=hw2.len
  by_cases h0:ny=0
  ·right
   have hy0:mv ly=0:=by rw[←qge hw2 hn2];exact h0
   have hy0':y=0:=by omega
   refine⟨0,[.b b1,.i (nx:Int),.r (rI lx)],?_,.inl ⟨rfl,b1,nx,lx,rfl,hw,hnw,?_⟩⟩
   ·simp only[STD,h0,show ¬(0:Int)<((0:Nat):Int) by omega]
   ·rw[hx,←hg,hy0',Nat.gcd_zero_right]
  ·have a0:(0:Int)<(ny:Int):=by omega
   have hy0:y≠0:=fun h=>h0 (by rw[qge hw2 hn2];omega)
   by_cases hc:nx≤1∧ny≤1
   ·right
    have e1:=qwt hw hc.1
    have e2:=qwt hw2 hc.2
    have d1:cI (rI lx) 0 0=(x:Int):=by rw[show (0:Int)=((0:Nat):Int) from rfl,q3h,←e1,hx]
    have d2:cI (rI ly) 0 0=(y:Int):=by rw[show (0:Int)=((0:Nat):Int) from rfl,q3h,←e2,hy]
    have hy9:=hw2.get 0
    rw[←e2,hy] at hy9
    have hE:=quv x y (by omega)
    have hgl:Nat.gcd x y≤y:=Nat.gcd_le_right _ (by omega)
    have hO:=qcN ((Nat.gcd x y:Nat):Int) (by omega)
    rw[q1W] at hO
    have c1:(nx:Int)≤1:=by omega
    have c2:(ny:Int)≤1:=by omega
    refine⟨1,[.s (tN (Nat.gcd x y)),.i 0],?_,.inr ⟨rfl,by rw[hg]⟩⟩
    simp only[STD,a0,c1,c2,d1,d2,hE,hO]
   ·left
    have hny:ny≤114:=qtr hw2 hn2 (by omega)
    obtain⟨nq,lq,nr,lr,d1,d2,d3,d4,d5,d6,d7⟩:=qbX hw hw2 hn2 h0 (by omega) b1 b2
    have hr:mv lr=((x%y:Nat):Int):=by
     have b4:=d4.bd.1
     rw[hx,hy] at d6
     rw[hy] at d7
     have hy1:(0:Int)<(y:Int):=by omega
     have:=(Int.ediv_emod_unique hy1 (a:=(x:Int)) (r:=mv lr) (q:=mv lq)).2 ⟨by rw[Int.mul_comm];omega,b4,d7⟩
     rw[←this.2];simp
    refine⟨eM y (x%y),[.b b2,.i (ny:Int),.r (rI ly),.b false,.i (nr:Int),.r (rI lr)],by rw[←he];exact qsX hy0,?_,y,x%y,b2,false,ny,nr,ly,lr,rfl,hw2,hn2,d4,d5,hy,hr,rfl,?_,ly1,?_⟩
    ·by_cases c1:nx≤1
     ·have c2:¬(ny:Int)≤1:=by omega
      have c1':(nx:Int)≤1:=by omega
      simp only[STD,a0,c1',c2,d1]
     ·have c1':¬(nx:Int)≤1:=by omega
      simp only[STD,a0,c1',d1]
    ·rw[←hg,Nat.gcd_comm y,←Nat.gcd_rec,Nat.gcd_comm]
    ·have:=Nat.mod_lt x (show 0<y by omega)
     omega) (ps:=[.b (decide (m<0)),.i (q1:Int),.r (rI l1),.b (decide (n<0)),.i (q2:Int),.r (rI l2)])
  ⟨m.natAbs,n.natAbs,_,_,q1,q2,l1,l2,rfl,w1,n1,w2,n2,v1,v2,rfl,rfl,lm,ln⟩
 rcases g2 with⟨rfl,b,n',l,rfl,a1,a2,a3⟩|⟨rfl,rfl⟩
 ·have hT:=qrg a1 a2 false
  have hv:sv false l=((Nat.gcd m.natAbs n.natAbs:Nat):Int):=by unfold sv;rw[a3];rfl
  rw[hv,q1W] at hT
  simp only[STD,qbn hm hn,r1,r2,g1,qM g1,hT]
 ·simp only[STD,qbn hm hn,r1,r2,g1,qM g1,show ¬(1=0) by omega]
end Go.Eng

namespace Go.Eng
theorem q75:okL 1:=by show nl 1≤1024;decide
theorem q6t:okL 0:=by show nl 0≤1024;decide
theorem qy2(s:List UInt8)(hl:s.length≤1000000000):(q49 [.s s,.s [47]]).run=some (0,if sP s<s.length then [.s (s.take (sP s)),.s (s.drop (sP s+1)),.b true] else [.s s,.s [],.b false]):=by
 rw[qkW]
 have h:(zV [.s s,.s [47]]).run=some (0,if sP s<s.length then [.s (s.take (sP s)),.s (s.drop (sP s+1)),.b true] else [.s s,.s [],.b false]):=by
  rw[q7M]
  have hI:=qwU s
  by_cases hc:sP s<s.length
  ·rw[if_pos hc] at hI ⊢
   have w:qh .i64 (sP s:Int) (qm [47])=((sP s+1:Nat):Int):=by
    show qh .i64 (sP s:Int) 1=_
    rw[zh (by omega)];omega
   have a1:(0:Int)≤(sP s:Int)∧(sP s:Int)≤qm s:=by unfold qm;omega
   have a2:(0:Int)≤0∧(0:Int)≤(sP s:Int):=by omega
   have a3:(0:Int)≤qm s∧qm s≤qm s:=by unfold qm;omega
   have a4:(0:Int)≤((sP s+1:Nat):Int)∧((sP s+1:Nat):Int)≤qm s:=by unfold qm;omega
   have e1:q8i s 0 (sP s:Int)=s.take (sP s):=by unfold q8i;simp
   have e2:q8i s ((sP s+1:Nat):Int) (qm s)=s.drop (sP s+1):=by unfold q8i qm;simp only[Int.toNat_natCast];rw[List.take_length]
   simp only[STD,hI,a1.1,a1.2,a2,a3,a4,and_self,w,e1,e2]
  ·rw[if_neg hc] at hI ⊢
   have a:¬(0:Int)≤-1:=by omega
   simp only[STD,hI,a]
 by_cases hc:sP s<s.length
 ·rw[if_pos hc] at h ⊢
  simp only[STD,h]
 ·rw[if_neg hc] at h ⊢
  simp only[STD,h]
theorem qxZ(s:List UInt8)(hl:s.length≤1000000000):(qK [.s s]).run=some (0,[.s (spn s),.s (spd s),.b (decide (sP s<s.length))]):=by
 rw[qok]
 have h:=qy2 s hl
 unfold spn spd
 by_cases hc:sP s<s.length
 ·rw[if_pos hc] at h ⊢
  rw[decide_eq_true hc]
  simp only[STD,h]
 ·rw[if_neg hc] at h ⊢
  have:sP s=s.length:=by have:=qvu s;omega
  rw[decide_eq_false hc,this,List.take_length]
  simp only[STD,h]
theorem qyH(q:Rat):(sP (tQ q)<(tQ q).length)=(q.den≠1):=by
 by_cases h:q.den=1
 ·rw[q8b h,qmB (ql4 _)];simp[h]
 ·rw[q4H h,qtJ (ql4 _)];simp[h]
def okQ(q:Rat):Prop:=qn q≤1024∧qd q≤1024
theorem q31{q:Rat}(h:okQ q):okL q.num:=h.1
theorem ka{q:Rat}(h:okQ q):okL (q.den:Int):=h.2
theorem q7w{q:Rat}(h:okQ q):(tQ q).length≤3000:=by have:=qwD q;have:=h.1;have:=h.2;omega
theorem q7r{q:Rat}(h:okQ q):(qK [.s (tQ q)]).run=some (0,[.s (tI q.num),.s (tI (q.den:Int)),.b (decide (q.den≠1))]):=by
 have:=q7w h
 rw[qxZ _ (by omega),qtX,qur,q1W]
 simp only[qyH]
open Classical in
noncomputable def vI(s:List UInt8):Int:=if h:∃m:Int,s=tI m then h.choose else 0
theorem qp8(m:Int):vI (tI m)=m:=by
 unfold vI
 have h:∃k:Int,tI m=tI k:=⟨m,rfl⟩
 rw[dif_pos h]
 exact(qnF h.choose_spec).symm
theorem qgO{s:List UInt8}(h:qp6 s=0):∃m:Int,s=tI m∧okL m:=by
 unfold qp6 at h
 split at h
 ·rename_i hm
  obtain⟨m,rfl⟩:=hm
  rw[qoh] at h
  split at h
  ·rename_i hl;exact⟨m,rfl,hl⟩
  ·omega
 ·omega
theorem qft(s:List UInt8):qp6 s=0∨qp6 s=3∨qp6 s=11:=by
 unfold qp6
 split
 ·split<;>simp
 ·simp
noncomputable def qbw(s:List UInt8):Int:=
 if qp6 (spn s)=3 then 3 else if qp6 (spd s)=3 then 3 else if qp6 (spn s)≠0 then 11 else if qp6 (spd s)≠0 then 11
 else if sP s<s.length then (if sgn (vI (spd s)-1)≤0 then 3 else if Nat.gcd (vI (spn s)).natAbs (vI (spd s)).natAbs=1 then 0 else 3) else 0
theorem qww(s:List UInt8):(spn s).length≤s.length:=by unfold spn;rw[List.length_take];omega
theorem qwh(s:List UInt8):(spd s).length≤s.length+1:=by unfold spd;split<;>simp<;>omega
theorem q6e(s:List UInt8)(hl:s.length≤100000000):(vt [.s s]).run=some (0,[.i (qbw s)]):=by
 rw[qkL]
 have hn:=qww s
 have hd:=qwh s
 have h1:=qa2 (spn s) (by omega)
 have h2:=qa2 (spd s) (by omega)
 have hc:=qxZ s (by omega)
 have mx:qaM 11 0=11∧qaM 11 11=11∧qaM 0 11=11:=by decide
 unfold qbw
 rcases qft (spn s) with a|a|a<;>rcases qft (spd s) with b|b|b<;>rw[a] at h1 ⊢<;>rw[b] at h2 ⊢
 ·obtain⟨m,em,om⟩:=qgO a
  obtain⟨n,en,on⟩:=qgO b
  rw[em] at h1 hc ⊢
  rw[en] at h2 hc ⊢
  have hC:=qiy on (n:=1) q75
  rw[qtB] at hC
  have hG:=qyJ om on
  rw[qp8,qp8]
  by_cases hs:sP s<s.length
  ·by_cases ho:sgn (n-1)≤0
   ·simp only[STD,hc,h1,h2,hs,hC,hG,ho,show ¬((0:Int)=3) by omega,show ¬((0:Int)≠0) by omega]
   ·by_cases hg:Nat.gcd m.natAbs n.natAbs=1
    ·simp only[STD,hc,h1,h2,hs,hC,hG,ho,hg,zd,q6Q,show ¬((0:Int)=3) by omega,show ¬((0:Int)≠0) by omega]
    ·simp only[STD,hc,h1,h2,hs,hC,hG,ho,hg,zd,q6Q,show ¬((0:Int)=3) by omega,show ¬((0:Int)≠0) by omega]
  ·simp only[STD,hc,h1,h2,hs,show ¬((0:Int)=3) by omega,show ¬((0:Int)≠0) by omega]
 all_goals simp only[STD,hc,h1,h2,mx,show ¬((0:Int)=3) by omega,show ¬((11:Int)=3) by omega,show ¬((11:Int)=0) by omega,show ¬((3:Int)=0) by omega]
theorem qaI(s:List UInt8)(hl:s.length≤100000000):(q1M [.s s]).run=some (0,[.i (qbw s)]):=by
 rw[qkv]
 have hn:=qww s
 have hd:=qwh s
 have h1:=qfr (spn s) (by omega)
 have h2:=qfr (spd s) (by omega)
 have hc:=quV s (by omega)
 have hsl:=qtl s (by omega)
 unfold qbw
 rcases qft (spn s) with a|a|a<;>rcases qft (spd s) with b|b|b<;>rw[a] at h1 ⊢<;>rw[b] at h2 ⊢
 ·obtain⟨m,em,om⟩:=qgO a
  obtain⟨n,en,on⟩:=qgO b
  rw[em] at h1 hc ⊢
  rw[en] at h2 hc ⊢
  unfold okL at om on
  have hC:=qgm n 1 (by omega) (by decide)
  rw[qtB] at hC
  have hG:=qkD m n (by omega) (by omega)
  rw[qp8,qp8]
  by_cases hs:sP s<s.length
  ·rw[if_pos hs] at hsl
   have a0:(0:Int)≤(sP s:Int):=by omega
   by_cases ho:sgn (n-1)≤0
   ·simp only[STD,hc,h1,h2,hsl,hs,a0,hC,hG,ho,show ¬((0:Int)=3) by omega]
   ·by_cases hg:Nat.gcd m.natAbs n.natAbs=1
    ·simp only[STD,hc,h1,h2,hsl,hs,a0,hC,hG,ho,hg,zd,q6Q,show ¬((0:Int)=3) by omega]
    ·simp only[STD,hc,h1,h2,hsl,hs,a0,hC,hG,ho,hg,zd,q6Q,show ¬((0:Int)=3) by omega]
  ·rw[if_neg hs] at hsl
   simp only[STD,hc,h1,h2,hsl,hs,show ¬((0:Int)=3) by omega,show ¬((0:Int)≤-1) by omega]
 all_goals simp only[STD,hc,h1,h2,show ¬((0:Int)=3) by omega,show ¬((11:Int)=3) by omega,show ¬((11:Int)=0) by omega,show ¬((3:Int)=0) by omega]
theorem qmv{q:Rat}(h:okQ q):qbw (tQ q)=0:=by
 unfold qbw
 have e1:spd (tQ q)=tI (q.den:Int):=by rw[qur,q1W]
 rw[qtX,e1,qqf (q31 h),qqf (ka h)]
 simp only[qp8,qyH]
 by_cases hd:q.den=1
 ·simp[hd]
 ·have:=q.den_nz
  have hs:¬sgn ((q.den:Int)-1)≤0:=by
   unfold sgn;rw[if_neg (by omega),if_neg (by omega)];omega
  have hr:Nat.gcd q.num.natAbs q.den=1:=q.reduced
  simp[hd,hs,hr]
theorem qk5{s:List UInt8}(h:qbw s=0):∃q:Rat,s=tQ q∧okQ q:=by
 unfold qbw at h
 split at h
 ·omega
 split at h
 ·omega
 split at h
 ·omega
 split at h
 ·omega
 rename_i h1 h2 h3 h4
 obtain⟨m,em,om⟩:=qgO (Decidable.byContradiction fun h=>h3 h)
 obtain⟨n,en,on⟩:=qgO (Decidable.byContradiction fun h=>h4 h)
 rw[em,en,qp8,qp8] at h
 split at h
 ·rename_i hs
  split at h
  ·omega
  rename_i hsg
  split at h
  ·rename_i hg
   have hn1:1<n:=by
    unfold sgn at hsg
    by_cases c1:n-1<0
    ·rw[if_pos c1] at hsg;omega
    ·rw[if_neg c1] at hsg
     by_cases c2:n-1=0
     ·rw[if_pos c2] at hsg;omega
     ·omega
   obtain⟨k,rfl⟩:∃k:Nat,n=(k:Int):=⟨n.toNat,by omega⟩
   refine⟨⟨m,k,by omega,hg⟩,?_,om,on⟩
   rw[q4H (show k≠1 by omega)]
   have hslash:s=spn s++47::spd s:=by
    unfold spn spd
    rw[if_pos hs]
    have h47:s[sP s]=47:=by
     have:=List.findIdx_getElem (p:=(·==47)) (w:=hs)
     exact eq_of_beq this
    rw[←h47,List.getElem_cons_drop,List.take_append_drop]
   rw[hslash,em,en,q1W]
  ·omega
 ·rename_i hs
  have e:sP s=s.length:=by have:=qvu s;omega
  have hsn:spn s=s:=by unfold spn;rw[e,List.take_length]
  refine⟨(m:Rat),?_,?_,?_⟩
  ·rw[qux,←em,hsn]
  ·have:nl m≤1024:=om
   unfold qn;simpa using this
  ·unfold qd;simp;decide
theorem qyV(m:Int):nl m≤(tI m).length:=by unfold nl tI;split<;>simp
theorem qeV(q:Rat):qn q≤(tQ q).length∧(q.den=1∨qn q+1+qd q≤(tQ q).length):=by
 have h1:=qyV q.num
 by_cases h:q.den=1
 ·rw[q8b h];exact⟨h1,.inl h⟩
 ·rw[q4H h]
  unfold qn qd dl
  simp
  omega
theorem qoH{l:List (List UInt8)}(hn:l.length<1000000)(h:∀s,s∈l→(vt [.s s]).run=some (0,[.i 0])):(qR [.r (rS l)]).run=some (0,[.i 0]):=by
 rw[qir,qlN]
 have key:=yM (S:=q0j) (fun i=>[.r (rS l),.i (l.length:Int),.i (i:Int)]) (0,[]) l.length (by omega) (fun i hi=>by
  rw[q9O,qu8 hi]
  have a1:(i:Int)<(l.length:Int):=by omega
  have a2:(i:Int)<qt (rS l):=by rw[qlN];exact a1
  simp only[STD,a1,a2,q0h,and_self,h _ (List.getElem_mem hi),q43 hi (show l.length<9223372036854775808 by omega)]) (by
  rw[q9O]
  have a1:¬(l.length:Int)<(l.length:Int):=by omega
  simp only[STD,a1])
 simp only[show (((0:Nat)):Int)=0 from rfl] at key
 simp only[STD,key,qM key]
theorem qcT{q:Rat}(h:okQ q):(vt [.s (tQ q)]).run=some (0,[.i 0]):=by
 have:=q7w h
 rw[q6e _ (by omega),qmv h]
theorem qbY{a b:Rat}(ha:okQ a)(hb:okQ b):(qR [.r [[.s (tQ a)],[.s (tQ b)]]]).run=some (0,[.i 0]):=by
 exact qoH (l:=[tQ a,tQ b]) (by simp) (fun s hs=>by
  simp only[List.mem_cons,List.not_mem_nil,or_false] at hs
  rcases hs with rfl|rfl
  ·exact qcT ha
  ·exact qcT hb)
theorem qxF{m n:Int}(hm:okL m)(hn:okL n)(h:okL (m+n)):(jt [.s (tI m),.s (tI n),.i 0]).run=some (0,[.s (tI (m+n)),.i 0]):=by
 rw[qgt]
 have:(wz [.s (tI m),.s (tI n),.i 0]).run=some (0,[.s (tI (m+n)),.i 0]):=by
  rw[q80]
  simp only[STD,qyl hm hn h]
 simp only[STD,this]
theorem qpJ{m n:Int}(hm:okL m)(hn:okL n)(h:okL (m-n)):(zk [.s (tI m),.s (tI n),.i 0]).run=some (0,[.s (tI (m-n)),.i 0]):=by
 rw[qgT]
 have:(wy [.s (tI m),.s (tI n),.i 0]).run=some (0,[.s (tI (m-n)),.i 0]):=by
  rw[q86]
  simp only[STD,qza hm hn h]
 simp only[STD,this]
theorem qwY{m n:Int}(hm:okL m)(hn:okL n)(h:okL (m*n)):(zy [.s (tI m),.s (tI n),.i 0]).run=some (0,[.s (tI (m*n)),.i 0]):=by
 rw[q85]
 simp only[STD,qz3 hm hn h]
theorem qxH{m n:Int}(hm:okL m)(hn:okL n):(wk [.s (tI m),.s (tI n),.i 0]).run=some (0,[.s (tN (Nat.gcd m.natAbs n.natAbs)),.i 0]):=by
 rw[q7W]
 simp only[STD,qyJ hm hn]
theorem qmX{k n:Int}(h0:n≠0)(hm:okL (k*n))(hn:okL n):(qQ [.s (tI (k*n)),.s (tI n),.i 0]).run=some (0,[.s (tI k),.i 0]):=by
 rw[q84]
 simp only[STD,qyY h0 hm hn]
def prd:Int→List Int→Int
 | a,[]=>a
 | a,m::l=>prd (a*m) l
def qxs:Int→List Int→Prop
 | a,[]=>okL a
 | a,m::l=>okL a∧okL m∧qxs (a*m) l
theorem qug:∀(l:List Int) (pre:List Int) (a:Int),qxs a l→pre.length+l.length<1000→∀f,l.length<f →
  (qgb jc f [.s (tI a),.r (rS ((pre++l).map tI)),.i ((pre++l).length:Int),.i (pre.length:Int),.i 0]).run=some (0,[.s (tI (prd a l)),.i 0])
 | [],pre,a,h,hl,f,hf=>by
  obtain⟨f,rfl⟩:∃g,f=g+1:=⟨f-1,by simp at hf;omega⟩
  refine q5h ?_
  rw[q7b,List.append_nil]
  have a1:¬(pre.length:Int)<(pre.length:Int):=by omega
  simp only[STD,a1];rfl
 | m::l,pre,a,h,hl,f,hf=>by
  obtain⟨f,rfl⟩:∃g,f=g+1:=⟨f-1,by simp at hf;omega⟩
  obtain⟨h1,h2,h3⟩:=h
  have hlt:pre.length<(pre++m::l).length:=by simp
  have ih:=qug l (pre++[m]) (a*m) h3 (by simp at hl ⊢;omega) f (by simp at hf;omega)
  rw[List.append_assoc,List.singleton_append] at ih
  have hok:okL (a*m):=by
   cases l with
   | nil=>exact h3
   | cons x l=>exact h3.1
  rw[qd2 (qs:=[.s (tI (a*m)),.r (rS ((pre++m::l).map tI)),.i ((pre++m::l).length:Int),.i ((pre++[m]).length:Int),.i 0])]
  ·exact ih
  ·rw[q7b]
   have hlt2:pre.length<((pre++m::l).map tI).length:=by simp
   rw[qu8 hlt2]
   have e:((pre++m::l).map tI)[pre.length]=tI m:=by simp
   rw[e]
   have a1:(pre.length:Int)<((pre++m::l).length:Int):=by omega
   have a2:(pre.length:Int)<qt (rS ((pre++m::l).map tI)):=by rw[qlN];omega
   have w:qh .i64 (pre.length:Int) 1=((pre++[m]).length:Int):=by
    rw[zh (by omega)];simp
   simp only[STD,a1,a2,q0h,and_self,qwY h1 h2 hok,w]
theorem qoX(l:List Int)(h:qxs 1 l)(hl:l.length<1000):(qg [.r (rS (l.map tI)),.i 0]).run=some (0,[.s (tI (prd 1 l)),.i 0]):=by
 rw[qgM,qlN]
 have h1:=qug l [] 1 h (by simp;omega) qbz (by unfold qbz;omega)
 simp only[List.nil_append,List.length_nil] at h1
 have e:(qj jc [.s [49],.r (rS (l.map tI)),.i ((l.map tI).length:Int),.i 0,.i 0]).run=some (0,[.s (tI (prd 1 l)),.i 0]):=by
  rw[List.length_map]
  exact h1
 simp only[STD,e]
theorem q9S{m n:Int}(hm:okL m)(hn:okL n)(h:okL (m*n)):(qg [.r [[.s (tI m)],[.s (tI n)]],.i 0]).run=some (0,[.s (tI (m*n)),.i 0]):=by
 have:=qoX [m,n] ⟨q75,hm,by rw[Int.one_mul];exact hm,hn,by rw[Int.one_mul];exact h⟩ (by simp)
 simp only[prd,Int.one_mul] at this
 exact this
theorem qoc{q:Rat}(h:okQ q):(q0u [.s (tI q.num),.s (tI (q.den:Int))]).run=some (0,[.s (tQ q)]):=by
 rw[qjQ,q1W]
 have l1:=qpW (q31 h)
 have l2:(tN q.den).length≤1024:=h.2
 have a1:qm (tI q.num)+qm [47]≤140737488355328:=by unfold qm;simp;omega
 have a2:qm (qeL (tI q.num) [47])+qm (tN q.den)≤140737488355328:=by unfold qm qeL;simp;omega
 by_cases h1:q.den=1
 ·simp only[STD,zd,q6Q,h1,q8b h1]
 ·simp only[STD,zd,q6Q,h1,q4H h1,a1,a2]
  simp[qeL]
theorem qvG(s:List UInt8):(yo [.s s,.s [45]]).run=some (0,[.b (decide (s.getD 0 0=45))]):=by
 rw[qd3]
 simp only[STD,qty]
theorem qui(n:Int):((tI n).getD 0 0=45)=(n<0):=by
 by_cases h:n<0
 ·rw[q8m h];simp[h]
 ·rw[qec h]
  obtain⟨c,t,e,h1,h2⟩:=qcF (zM n.natAbs) (qjt _)
  rw[e]
  simp only[List.getD_cons_zero,h,eq_iff_iff,iff_false]
  intro hc;subst hc;revert h1;decide
theorem qip{m n:Int}(hn0:n≠0)(hm:okL m)(hn:okL n):(qU [.s (tI m),.s (tI n),.i 0]).run=some (0,[.s (tQ (Rat.divInt m n)),.i 0])∧okQ (Rat.divInt m n):=by
 have hG:=qxH hm hn
 have hg0:0<Nat.gcd m.natAbs n.natAbs:=Nat.gcd_pos_of_pos_right _ (by omega)
 have hgn:Nat.gcd m.natAbs n.natAbs≤n.natAbs:=Nat.gcd_le_right _ (by omega)
 have hnum:=Rat.num_divInt m n
 have hden:=Rat.den_divInt m n
 rw[if_neg hn0] at hden
 have hgc:Int.gcd n m=Nat.gcd m.natAbs n.natAbs:=by unfold Int.gcd;exact Nat.gcd_comm _ _
 rw[hgc] at hnum hden
 obtain⟨k,hk⟩:((Nat.gcd m.natAbs n.natAbs:Nat):Int) ∣ m:=Int.ofNat_dvd_left.2 (Nat.gcd_dvd_left _ _)
 obtain⟨l,hl⟩:((Nat.gcd m.natAbs n.natAbs:Nat):Int) ∣ n:=Int.ofNat_dvd_left.2 (Nat.gcd_dvd_right _ _)
 generalize Nat.gcd m.natAbs n.natAbs=g at *
 generalize Rat.divInt m n=q at *
 have hgok:okL (g:Int):=qwF (by simpa using hgn) hn
 have hm2:k*(g:Int)=m:=by rw[Int.mul_comm];exact hk.symm
 have hn2:l*(g:Int)=n:=by rw[Int.mul_comm];exact hl.symm
 have hgz:(g:Int)≠0:=by omega
 have hok:okQ q:=by
  constructor
  ·refine Nat.le_trans (qjS ?_) hm
   rw[hnum]
   refine Nat.le_trans (Int.natAbs_ediv_le_natAbs _ _) ?_
   rw[Int.natAbs_mul,Int.natAbs_sign_of_ne_zero hn0];omega
  ·refine Nat.le_trans (q01 ?_) hn
   rw[hden];exact Nat.div_le_self _ _
 refine⟨?_,hok⟩
 rw[qd6]
 have hP:=qvG (tI n)
 simp only[qui] at hP
 by_cases hneg:n<0
 ·have e1:-k=q.num:=by
   rw[hnum,Int.sign_eq_neg_one_of_neg hneg,←hm2]
   rw[show (-1:Int)*(k*(g:Int))=(-k)*(g:Int) by rw[Int.neg_mul,Int.one_mul,Int.neg_mul]]
   exact(Int.mul_ediv_cancel _ hgz).symm
  have e2:-l=(q.den:Int):=by
   rw[hden]
   have h3:(n.natAbs:Int)=(-l)*(g:Int):=by rw[Int.neg_mul];omega
   rw[Int.natCast_ediv,h3,Int.mul_ediv_cancel _ hgz]
  have hS:=qpJ (m:=0) (n:=(g:Int)) q6t hgok (by rw[Int.zero_sub];exact qmZ hgok)
  rw[Int.zero_sub,q1W] at hS
  have Q1:=qmX (k:=-k) (n:=-(g:Int)) (by omega) (by rw[Int.neg_mul_neg,hm2];exact hm) (qmZ hgok)
  have Q2:=qmX (k:=-l) (n:=-(g:Int)) (by omega) (by rw[Int.neg_mul_neg,hn2];exact hn) (qmZ hgok)
  rw[Int.neg_mul_neg,hm2,e1] at Q1
  rw[Int.neg_mul_neg,hn2,e2] at Q2
  have hS':(zk [.s [48],.s (tN g),.i 0]).run=some (0,[.s (tI (-(g:Int))),.i 0]):=hS
  simp only[STD,hG,hP,hneg,hS',Q1,Q2,qoc hok]
 ·have e1:k=q.num:=by
   rw[hnum,Int.sign_eq_one_of_pos (by omega),Int.one_mul,←hm2]
   exact(Int.mul_ediv_cancel _ hgz).symm
  have e2:l=(q.den:Int):=by
   rw[hden]
   have h3:(n.natAbs:Int)=l*(g:Int):=by omega
   rw[Int.natCast_ediv,h3,Int.mul_ediv_cancel _ hgz]
  have Q1:=qmX (k:=k) (n:=(g:Int)) hgz (by rw[hm2];exact hm) hgok
  have Q2:=qmX (k:=l) (n:=(g:Int)) hgz (by rw[hn2];exact hn) hgok
  rw[hm2,e1,q1W] at Q1
  rw[hn2,e2,q1W] at Q2
  simp only[STD,hG,hP,hneg,Q1,Q2,qoc hok]
end Go.Eng

namespace Go.Eng
theorem qrV(a b:Rat):Rat.divInt (a.num*b.den+b.num*a.den) ((a.den:Int)*(b.den:Int))=a+b:=by
 rw[Rat.add_def',←Rat.divInt_ofNat];simp
theorem qsQ(a b:Rat):Rat.divInt (a.num*b.den-b.num*a.den) ((a.den:Int)*(b.den:Int))=a-b:=by
 rw[Rat.sub_def',←Rat.divInt_ofNat];simp
theorem qsI(a b:Rat):Rat.divInt (a.num*b.num) ((a.den:Int)*(b.den:Int))=a*b:=by
 rw[Rat.mul_def',←Rat.divInt_ofNat];simp
theorem qsi(a b:Rat):Rat.divInt (a.num*b.den) ((a.den:Int)*b.num)=a/b:=by
 rw[Rat.div_def,Rat.inv_def,←Rat.divInt_mul_divInt,Rat.num_divInt_den]
theorem qgs(a b:Rat):(a.den:Int)*(b.den:Int)≠0:=by have:=Int.mul_pos (qwc a) (qwc b);omega
theorem qyO{m:Int}(h:m≠0):¬tI m=[48]:=by rw[q7R];exact h
def bnd(N D:Nat)(q:Rat):Prop:=qn q≤N∧qd q≤D
theorem bnd.ok{N D:Nat}{q:Rat}(h:bnd N D q)(hN:N≤1024)(hD:D≤1024):okQ q:=⟨Nat.le_trans h.1 hN,Nat.le_trans h.2 hD⟩
theorem bnd.sm{N D K:Nat}{q:Rat}(h:bnd N D q)(hN:N≤K)(hD:D≤K):sm K q:=⟨Nat.le_trans h.1 hN,Nat.le_trans h.2 hD⟩
theorem bnd.mono{N D N' D':Nat}{q:Rat}(h:bnd N D q)(hN:N≤N')(hD:D≤D'):bnd N' D' q:=⟨Nat.le_trans h.1 hN,Nat.le_trans h.2 hD⟩
theorem bnd.mul{N D N' D':Nat}{a b:Rat}(ha:bnd N D a)(hb:bnd N' D' b):bnd (N+N') (D+D') (a*b):=
 ⟨Nat.le_trans (qwo a b) (Nat.add_le_add ha.1 hb.1),Nat.le_trans (qws a b) (Nat.add_le_add ha.2 hb.2)⟩
theorem bnd.add{N D N' D' K:Nat}{a b:Rat}(ha:bnd N D a)(hb:bnd N' D' b)(h1:N+D'+1≤K)(h2:N'+D+1≤K):bnd K (D+D') (a+b):=
 ⟨by have:=qxN a b;have:=ha.1;have:=ha.2;have:=hb.1;have:=hb.2;omega,by have:=qyk a b;have:=ha.2;have:=hb.2;omega⟩
theorem bnd.sub{N D N' D' K:Nat}{a b:Rat}(ha:bnd N D a)(hb:bnd N' D' b)(h1:N+D'+1≤K)(h2:N'+D+1≤K):bnd K (D+D') (a-b):=
 ⟨by have:=qyK a b;have:=ha.1;have:=ha.2;have:=hb.1;have:=hb.2;omega,by have:=qyn a b;have:=ha.2;have:=hb.2;omega⟩
theorem bnd.div{N D N' D':Nat}{a b:Rat}(h0:b≠0)(ha:bnd N D a)(hb:bnd N' D' b):bnd (N+D') (D+N') (a/b):=
 ⟨by have:=qyh a h0;have:=ha.1;have:=hb.2;omega,by have:=qye a h0;have:=ha.2;have:=hb.1;omega⟩
theorem bnd.neg{N D:Nat}{a:Rat}(h:bnd N D a):bnd N D (-a):=⟨by rw[qxT];exact h.1,h.2⟩
theorem q4V:bnd 1 1 0:=⟨by decide,by decide⟩
theorem qkb:bnd 1 1 2:=⟨by decide,by decide⟩
theorem qvs:bnd 1 1 (-2):=⟨by decide,by decide⟩
theorem q8J{m n:Int}{N M:Nat}(hm:nl m≤N)(hn:nl n≤M)(h:N+M≤1024):okL (m*n):=by
 have:=q2u m n
 unfold okL;omega
theorem qqm{N D N' D':Nat}{a b:Rat}(ha:bnd N D a)(hb:bnd N' D' b)(h1:N+N'≤1024)(h2:D+D'≤1024):(q4Q [.s (tQ a),.s (tQ b)]).run=some (0,[.s (tQ (a*b)),.i 0]):=by
 have oa:=ha.ok (by omega) (by omega)
 have ob:=hb.ok (by omega) (by omega)
 have k1:okL (a.num*b.num):=q8J ha.1 hb.1 h1
 have k2:okL ((a.den:Int)*(b.den:Int)):=q8J ha.2 hb.2 h2
 have m1:=q9S (q31 oa) (q31 ob) k1
 have m2:=q9S (ka oa) (ka ob) k2
 have hL:=(qip (qgs a b) k1 k2).1
 rw[qsI] at hL
 rw[qog]
 have key:(wZ [.s (tQ a),.s (tQ b)]).run=some (0,[.s (tQ (a*b)),.i 0]):=by
  rw[q9b]
  have h1:(q1y [.s (tI a.num),.s (tI (a.den:Int)),.s (tI b.num),.s (tI (b.den:Int)),.i 0]).run=some (0,[.s (tI (a.num*b.num)),.s (tI ((a.den:Int)*(b.den:Int))),.i 0]):=by
   rw[qlb]
   simp only[STD,m1,m2]
  simp only[STD,qbY oa ob,q7r oa,q7r ob,h1,zd,qyO (qgs a b),hL]
 simp only[STD,key]
theorem qq4{N D N' D':Nat}{a b:Rat}(ha:bnd N D a)(hb:bnd N' D' b)(h1:N+D'≤1023)(h2:N'+D≤1023)(h3:D+D'≤1024):(q4F [.s (tQ a),.s (tQ b)]).run=some (0,[.s (tQ (a+b)),.i 0]):=by
 have p1:=qhx a
 have p2:=qhx b
 have p3:=qnA a
 have p4:=qnA b
 have oa:okQ a:=⟨by have:=ha.1;have:=hb.2;omega,by have:=ha.2;have:=hb.2;omega⟩
 have ob:okQ b:=⟨by have:=hb.1;have:=ha.2;omega,by have:=ha.2;have:=hb.2;omega⟩
 have k1:okL (a.num*(b.den:Int)):=q8J ha.1 hb.2 (by omega)
 have k2:okL (b.num*(a.den:Int)):=q8J hb.1 ha.2 (by omega)
 have k3:okL ((a.den:Int)*(b.den:Int)):=q8J ha.2 hb.2 h3
 have k4:okL (a.num*(b.den:Int)+b.num*(a.den:Int)):=by
  have q1:=qou (a.num*(b.den:Int)) (b.num*(a.den:Int))
  have q2:=q2u a.num (b.den:Int)
  have q3:=q2u b.num (a.den:Int)
  have q4:nl a.num≤N:=ha.1
  have q5:nl (b.den:Int)≤D':=hb.2
  have q6:nl b.num≤N':=hb.1
  have q7:nl (a.den:Int)≤D:=ha.2
  unfold okL;omega
 have m1:=q9S (q31 oa) (ka ob) k1
 have m2:=q9S (q31 ob) (ka oa) k2
 have m3:=q9S (ka oa) (ka ob) k3
 have hL:=(qip (qgs a b) k4 k3).1
 rw[qrV] at hL
 rw[qoJ]
 have key:(wS [.s (tQ a),.s (tQ b)]).run=some (0,[.s (tQ (a+b)),.i 0]):=by
  rw[q8C]
  have h1:(q1O [.s (tI a.num),.s (tI (a.den:Int)),.s (tI b.num),.s (tI (b.den:Int)),.i 0]).run=some (0,[.s (tI (a.num*b.den+b.num*a.den)),.s (tI ((a.den:Int)*(b.den:Int))),.i 0]):=by
   rw[qkU]
   simp only[STD,m1,m2,m3,qxF k1 k2 k4]
  simp only[STD,qbY oa ob,q7r oa,q7r ob,h1,zd,qyO (qgs a b),hL]
 simp only[STD,key]
theorem qqh{N D N' D':Nat}{a b:Rat}(ha:bnd N D a)(hb:bnd N' D' b)(h1:N+D'≤1023)(h2:N'+D≤1023)(h3:D+D'≤1024):(q4M [.s (tQ a),.s (tQ b)]).run=some (0,[.s (tQ (a-b)),.i 0]):=by
 have p1:=qhx a
 have p2:=qhx b
 have p3:=qnA a
 have p4:=qnA b
 have oa:okQ a:=⟨by have:=ha.1;have:=hb.2;omega,by have:=ha.2;have:=hb.2;omega⟩
 have ob:okQ b:=⟨by have:=hb.1;have:=ha.2;omega,by have:=ha.2;have:=hb.2;omega⟩
 have k1:okL (a.num*(b.den:Int)):=q8J ha.1 hb.2 (by omega)
 have k2:okL (b.num*(a.den:Int)):=q8J hb.1 ha.2 (by omega)
 have k3:okL ((a.den:Int)*(b.den:Int)):=q8J ha.2 hb.2 h3
 have k4:okL (a.num*(b.den:Int)-b.num*(a.den:Int)):=by
  have q1:=qtL (a.num*(b.den:Int)) (b.num*(a.den:Int))
  have q2:=q2u a.num (b.den:Int)
  have q3:=q2u b.num (a.den:Int)
  have q4:nl a.num≤N:=ha.1
  have q5:nl (b.den:Int)≤D':=hb.2
  have q6:nl b.num≤N':=hb.1
  have q7:nl (a.den:Int)≤D:=ha.2
  unfold okL;omega
 have m1:=q9S (q31 oa) (ka ob) k1
 have m2:=q9S (q31 ob) (ka oa) k2
 have m3:=q9S (ka oa) (ka ob) k3
 have hL:=(qip (qgs a b) k4 k3).1
 rw[qsQ] at hL
 rw[qob]
 have key:(wO [.s (tQ a),.s (tQ b)]).run=some (0,[.s (tQ (a-b)),.i 0]):=by
  rw[q8D]
  have h1:(q1T [.s (tI a.num),.s (tI (a.den:Int)),.s (tI b.num),.s (tI (b.den:Int)),.i 0]).run=some (0,[.s (tI (a.num*b.den-b.num*a.den)),.s (tI ((a.den:Int)*(b.den:Int))),.i 0]):=by
   rw[qkT]
   simp only[STD,m1,m2,m3,qpJ k1 k2 k4]
  simp only[STD,qbY oa ob,q7r oa,q7r ob,h1,zd,qyO (qgs a b),hL]
 simp only[STD,key]
theorem qiO(q:Rat):(tQ q=[48])=(q=0):=by
 have:([48]:List UInt8)=tQ 0:=rfl
 rw[this,qsP]
theorem qpa{N D N' D':Nat}{a b:Rat}(hb0:b≠0)(ha:bnd N D a)(hb:bnd N' D' b)(h1:N+D'≤1024)(h2:D+N'≤1024):(q4q [.s (tQ a),.s (tQ b)]).run=some (0,[.s (tQ (a/b)),.i 0]):=by
 have oa:okQ a:=⟨by have:=ha.1;omega,by have:=ha.2;omega⟩
 have ob:okQ b:=⟨by have:=hb.1;omega,by have:=hb.2;omega⟩
 have k1:okL (a.num*(b.den:Int)):=q8J ha.1 hb.2 h1
 have k2:okL ((a.den:Int)*b.num):=q8J ha.2 hb.1 h2
 have hbn:b.num≠0:=fun h=>hb0 (Rat.num_eq_zero.1 h)
 have hz:(a.den:Int)*b.num≠0:=by have:=qwc a;exact Int.mul_ne_zero (by omega) hbn
 have m1:=q9S (q31 oa) (ka ob) k1
 have m2:=q9S (ka oa) (q31 ob) k2
 have hL:=(qip hz k1 k2).1
 rw[qsi] at hL
 rw[qoK]
 have key:(wL [.s (tQ a),.s (tQ b)]).run=some (0,[.s (tQ (a/b)),.i 0]):=by
  rw[q8V]
  have h1:(q1B [.s (tI a.num),.s (tI (a.den:Int)),.s (tI b.num),.s (tI (b.den:Int)),.i 0]).run=some (0,[.s (tI (a.num*b.den)),.s (tI ((a.den:Int)*b.num)),.i 0]):=by
   rw[ql7]
   simp only[STD,m1,m2]
  simp only[STD,qbY oa ob,q7r oa,q7r ob,h1,zd,qyO hz,hL]
 simp only[STD,qbY oa ob,zd,qiO,hb0,key]
theorem q5B{m:Int}(h:okL m):(zm [.s (tI m),.i 0]).run=some (0,[.i (sgn m),.i 0]):=by
 rw[qg5]
 simp only[STD,qns h]
theorem qx8(m:Int):sgn m=sgq (m:Rat):=by unfold sgq;simp
theorem qq0{q k:Rat}(hk:0<k):sgq (k*q)=sgq q:=by
 rcases q7I q with⟨h,e⟩|⟨h,e⟩|⟨h,e⟩
 ·rw[e,qwE]
  have:=(Rat.mul_neg_iff_of_pos_left hk).2 h
  exact this
 ·rw[e,h,Rat.mul_zero];rfl
 ·rw[e,qqo]
  exact Rat.mul_pos hk h
theorem q1I(a:Rat):(0:Rat)<(a.den:Rat):=by
 have:=a.den_nz
 exact Rat.natCast_pos.2 (by omega)
theorem qbf(a:Rat):(a.num:Rat)=a*(a.den:Rat):=by
 have h:a=(a.num:Rat)/(a.den:Rat):=by rw[←Rat.mkRat_eq_div,Rat.mkRat_self]
 have h2:=Rat.div_mul_cancel (a:=(a.num:Rat)) (b:=(a.den:Rat)) (by have:=q1I a;grind)
 rw[←h] at h2
 exact h2.symm
def rX(a b c:Rat):Int:=a.num*b.den*c.den
def rY(a b:Rat):Int:=b.num*a.den
def rR(c:Rat):Int:=c.num*c.den
theorem qxM(a b c:Rat):sgn (rX a b c)=sgq a:=by
 unfold rX sgq
 rw[qaH (qwc c),qaH (qwc b)]
theorem qya(a b:Rat):sgn (rY a b)=sgq b:=by unfold rY sgq;rw[qaH (qwc a)]
theorem qxR(c:Rat):sgn (rR c)=sgq c:=by unfold rR sgq;rw[qaH (qwc c)]
theorem qxW(a b c:Rat):sgn (rX a b c*rX a b c-rY a b*rY a b*rR c)=sgq (a*a-b*b*c):=by
 rw[qx8]
 have h1:=q1I a
 have h2:=q1I b
 have h3:=q1I c
 have hk:(0:Rat)<((a.den:Rat)*b.den*c.den)*((a.den:Rat)*b.den*c.den):=by
  have:=Rat.mul_pos (Rat.mul_pos h1 h2) h3
  exact Rat.mul_pos this this
 rw[←qq0 (q:=a*a-b*b*c) hk]
 congr 1
 unfold rX rY rR
 simp only[Rat.intCast_sub,Rat.intCast_mul,qbf,Rat.intCast_natCast]
 grind
theorem qup(a b c:Rat):qar a b c=if 0≤sgn (rX a b c)*(sgn (rY a b)*sgn (rR c)) then (if sgn (rX a b c)=0 then sgn (rY a b)*sgn (rR c) else sgn (rX a b c)) else sgn (rX a b c)*sgn (rX a b c*rX a b c-rY a b*rY a b*rR c):=by
 unfold qar
 rw[qxM,qya,qxR,qxW]
theorem qxE{x y r:Int}(hx:okL x)(hy:okL y)(hr:okL r)(hxx:okL (x*x))(hyy:okL (y*y))(hyr:okL (y*y*r))(hd:okL (x*x-y*y*r)) :
  (yh [.s (tI x),.s (tI y),.s (tI r),.i 0]).run=some (0,[.i (if 0≤sgn x*(sgn y*sgn r) then (if sgn x=0 then sgn y*sgn r else sgn x) else sgn x*sgn (x*x-y*y*r)),.i 0]):=by
 rw[qeR]
 have bx:=qja x
 have bY:=qja y
 have br:=qja r
 have bd:=qja (x*x-y*y*r)
 have m1:=q9S hx hx hxx
 have m2:=qoX [y,y,r] ⟨q75,hy,by rw[Int.one_mul];exact hy,hy,by rw[Int.one_mul];exact hyy,hr,by rw[Int.one_mul];exact hyr⟩ (by simp)
 simp only[prd,Int.one_mul] at m2
 have m2':(qg [.r [[.s (tI y)],[.s (tI y)],[.s (tI r)]],.i 0]).run=some (0,[.s (tI (y*y*r)),.i 0]):=m2
 by_cases hc:0≤sgn x*(sgn y*sgn r)
 ·by_cases h0:sgn x=0
  ·have w0:kK .i64 0 (sgn y*sgn r)=0:=by rw[q6V (by rw[Int.zero_mul];omega),Int.zero_mul]
   simp only[STD,q5B hx,q5B hy,q5B hr,qgx bY br,h0,w0,Int.zero_mul,Int.le_refl,eq_self]
  ·simp only[STD,q5B hx,q5B hy,q5B hr,qgx bY br,qgx bx (qyD bY br),hc,h0]
 ·simp only[STD,q5B hx,q5B hy,q5B hr,qgx bY br,qgx bx (qyD bY br),hc,m1,m2',qpJ hxx hyr hd,q5B hd,qgx bx bd]
theorem qrB(m:Int):okL (0*m):=by rw[Int.zero_mul];exact q6t
theorem qvj{c:Rat}(h:0≤c):¬(tQ c).getD 0 0=45:=by
 have hn:¬c.num<0:=by have:=Rat.num_nonneg.2 h;omega
 have e:(tQ c).getD 0 0=(tI c.num).getD 0 0:=by
  by_cases hd:c.den=1
  ·rw[q8b hd]
  ·rw[q4H hd]
   obtain⟨x,t,ex⟩:∃x t,tI c.num=x::t:=List.exists_cons_of_ne_nil (List.length_pos_iff.1 (qiz _))
   rw[ex];simp
 rw[e,qui];exact hn
theorem qtQ{c:Rat}(h:c<0):(tQ c).getD 0 0=45:=by
 have h1:¬0≤c:=by grind
 have hn:c.num<0:=by
  have h2:¬0≤c.num:=fun h=>h1 (Rat.num_nonneg.1 h)
  omega
 have e:(tQ c).getD 0 0=(tI c.num).getD 0 0:=by
  by_cases hd:c.den=1
  ·rw[q8b hd]
  ·rw[q4H hd]
   obtain⟨x,t,ex⟩:∃x t,tI c.num=x::t:=List.exists_cons_of_ne_nil (List.length_pos_iff.1 (qiz _))
   rw[ex];simp
 rw[e,qui];exact hn
theorem qfq(s:List UInt8):(sat s 0=45)=(s.getD 0 0=45):=by
 unfold sat
 simp only[Int.toNat_zero,eq_iff_iff]
 exact⟨fun h=>UInt8.toNat_inj.1 (by show (s.getD 0 0).toNat=45;omega),fun h=>by rw[h];rfl⟩
structure RootOk (a b c:Rat):Prop where
 oa:okQ a
 ob:okQ b
 oc:okQ c
 x1:okL (a.num*b.den)
 x:okL (rX a b c)
 y:okL (rY a b)
 r:okL (rR c)
 xx:okL (rX a b c*rX a b c)
 yy:okL (rY a b*rY a b)
 yr:okL (rY a b*rY a b*rR c)
 d:okL (rX a b c*rX a b c-rY a b*rY a b*rR c)
theorem qsK{a b c:Rat}(h:RootOk a b c)(hc:0≤c):(q0o [.s (tQ a),.s (tQ b),.s (tQ c)]).run=some (0,[.i (qar a b c),.i 0]):=by
 rw[qgB]
 have key:(km [.s (tQ a),.s (tQ b),.s (tQ c),.s [48],.s [48]]).run=some (0,[.i (qar a b c),.i 0]):=by
  rw[qfH]
  have o0:okQ 0:=q4V.ok (by omega) (by omega)
  have hz:=qcT o0
  rw[show tQ 0=[48] from rfl] at hz
  have hch:=qoH (l:=[tQ a,tQ b,tQ c,[48],[48]]) (by simp) (fun s hs=>by
   simp only[List.mem_cons,List.not_mem_nil,or_false] at hs
   rcases hs with rfl|rfl|rfl|rfl|rfl
   ·exact qcT h.oa
   ·exact qcT h.ob
   ·exact qcT h.oc
   ·exact hz
   ·exact hz)
  have hch':(qR [.r [[.s (tQ a)],[.s (tQ b)],[.s (tQ c)],[.s [48]],[.s [48]]]]).run=some (0,[.i 0]):=hch
  have c0:=q7r o0
  rw[show tQ 0=[48] from rfl] at c0
  replace c0:(qK [.s [48]]).run=some (0,[.s [48],.s [49],.b false]):=c0
  have l1:(0:Int)<qm (tQ c):=by
   have h1:=qeV c
   have h2:=qhx c
   unfold qm;omega
  have l2:(0:Int)<qm [48]:=by decide
  have n1:¬sat (tQ c) 0=45:=by rw[qfq];exact qvj hc
  have n2:¬sat [48] 0=45:=by decide
  have mx:=qoX [a.num,b.den,c.den,1,1] ⟨q75,q31 h.oa,by rw[Int.one_mul];exact q31 h.oa,ka h.ob,by rw[Int.one_mul];exact h.x1,ka h.oc,by rw[Int.one_mul];exact h.x,q75,by rw[Int.one_mul,Int.mul_one];exact h.x,q75,by rw[Int.one_mul,Int.mul_one,Int.mul_one];exact h.x⟩ (by simp)
  have my:=qoX [b.num,a.den,1,1] ⟨q75,q31 h.ob,by rw[Int.one_mul];exact q31 h.ob,ka h.oa,by rw[Int.one_mul];exact h.y,q75,by rw[Int.one_mul,Int.mul_one];exact h.y,q75,by rw[Int.one_mul,Int.mul_one,Int.mul_one];exact h.y⟩ (by simp)
  have mr:=q9S (q31 h.oc) (ka h.oc) h.r
  have mz:=qoX [0,a.den,b.den,c.den] ⟨q75,q6t,by rw[Int.mul_zero];exact q6t,ka h.oa,by simp only[Int.mul_zero];exact qrB _,ka h.ob,by simp only[Int.mul_zero,Int.zero_mul];exact q6t,ka h.oc,by simp only[Int.mul_zero,Int.zero_mul];exact q6t⟩ (by simp)
  have mt:=q9S (m:=0) (n:=1) q6t q75 (qrB _)
  simp only[prd,Int.one_mul,Int.mul_one,Int.zero_mul] at mx my mz mt
  have mx':(qg [.r [[.s (tI a.num)],[.s (tI (b.den:Int))],[.s (tI (c.den:Int))],[.s [49]],[.s [49]]],.i 0]).run=some (0,[.s (tI (rX a b c)),.i 0]):=mx
  have my':(qg [.r [[.s (tI b.num)],[.s (tI (a.den:Int))],[.s [49]],[.s [49]]],.i 0]).run=some (0,[.s (tI (rY a b)),.i 0]):=my
  have mr':(qg [.r [[.s (tI c.num)],[.s (tI (c.den:Int))]],.i 0]).run=some (0,[.s (tI (rR c)),.i 0]):=mr
  have mz':(qg [.r [[.s [48]],[.s (tI (a.den:Int))],[.s (tI (b.den:Int))],[.s (tI (c.den:Int))]],.i 0]).run=some (0,[.s (tI 0),.i 0]):=mz
  have mt':(qg [.r [[.s [48]],[.s [49]]],.i 0]).run=some (0,[.s (tI 0),.i 0]):=mt
  have hR:=qxE h.x h.y h.r h.xx h.yy h.yr h.d
  rw[←qup] at hR
  have w1:kK .i64 (sgn 0) (sgn 0)=0:=by decide
  have w2:kK .i64 (qar a b c) 0=0:=by rw[q6V (by rw[Int.mul_zero];omega),Int.mul_zero]
  by_cases h0:qar a b c=0
  ·simp only[STD,hch',l1,l2,n1,n2,Int.le_refl,and_self,q7r h.oa,q7r h.ob,q7r h.oc,c0,mx',my',mr',mz',mt',hR,q5B q6t,w1,h0,show kK .i64 0 0=0 from rfl]
  ·simp only[STD,hch',l1,l2,n1,n2,Int.le_refl,and_self,q7r h.oa,q7r h.ob,q7r h.oc,c0,mx',my',mr',mz',mt',hR,q5B q6t,w1,w2,h0]
 simp only[STD,key]
theorem RootOk.of{N D N' D' R E:Nat}{a b c:Rat}(ha:bnd N D a)(hb:bnd N' D' b)(hc:bnd R E c)(h1:2*(N+D'+E)≤1023)(h2:2*(N'+D)+R+E≤1023):RootOk a b c:=by
 have q1:nl a.num≤N:=ha.1
 have q2:nl (a.den:Int)≤D:=ha.2
 have q3:nl b.num≤N':=hb.1
 have q4:nl (b.den:Int)≤D':=hb.2
 have q5:nl c.num≤R:=hc.1
 have q6:nl (c.den:Int)≤E:=hc.2
 have x1:=q2u a.num b.den
 have x2:=q2u (a.num*b.den) c.den
 have y1:=q2u b.num a.den
 have r1:=q2u c.num c.den
 have xx:=q2u (rX a b c) (rX a b c)
 have yy:=q2u (rY a b) (rY a b)
 have yr:=q2u (rY a b*rY a b) (rR c)
 have dd:=qtL (rX a b c*rX a b c) (rY a b*rY a b*rR c)
 have e1:nl (rX a b c)=nl (a.num*b.den*c.den):=rfl
 have e2:nl (rY a b)=nl (b.num*a.den):=rfl
 have e3:nl (rR c)=nl (c.num*c.den):=rfl
 have p1:=qj2 a.num
 have p2:=qj2 b.num
 have p3:=qj2 c.num
 have p4:=qj2 (a.den:Int)
 have p5:=qj2 (b.den:Int)
 have p6:=qj2 (c.den:Int)
 exact { oa:=⟨by show nl a.num≤1024;omega,by show nl (a.den:Int)≤1024;omega⟩,ob:=⟨by show nl b.num≤1024;omega,by show nl (b.den:Int)≤1024;omega⟩,oc:=⟨by show nl c.num≤1024;omega,by show nl (c.den:Int)≤1024;omega⟩,x1:=by unfold okL;omega,x:=by unfold okL;omega,y:=by unfold okL;omega,r:=by unfold okL;omega,xx:=by unfold okL;omega,yy:=by unfold okL;omega,yr:=by unfold okL;omega,d:=by unfold okL;omega }
end Go.Eng

namespace Go.Eng
theorem qsv{a b:Rat}{N D N' D':Nat}(ha:bnd N D a)(hb:bnd N' D' b)(h1:N+D'≤1023)(h2:N'+D≤1023)(h3:D+D'≤1024):(qY [.s (tQ a),.s (tQ b),.i 0]).run=some (0,[.s (tQ (a+b)),.i 0]):=by
 rw[qhh]
 have:(ww [.s (tQ a),.s (tQ b),.i 0]).run=some (0,[.s (tQ (a+b)),.i 0]):=by
  rw[q81]
  simp only[STD,qq4 ha hb h1 h2 h3]
 simp only[STD,this]
theorem qms{a b:Rat}{N D N' D':Nat}(ha:bnd N D a)(hb:bnd N' D' b)(h1:N+D'≤1023)(h2:N'+D≤1023)(h3:D+D'≤1024):(qB [.s (tQ a),.s (tQ b),.i 0]).run=some (0,[.s (tQ (a-b)),.i 0]):=by
 rw[qgJ]
 have:(wu [.s (tQ a),.s (tQ b),.i 0]).run=some (0,[.s (tQ (a-b)),.i 0]):=by
  rw[q7Z]
  simp only[STD,qqh ha hb h1 h2 h3]
 simp only[STD,this]
theorem qmN{a b:Rat}{N D N' D':Nat}(ha:bnd N D a)(hb:bnd N' D' b)(h1:N+N'≤1024)(h2:D+D'≤1024):(qH [.s (tQ a),.s (tQ b),.i 0]).run=some (0,[.s (tQ (a*b)),.i 0]):=by
 rw[qgH]
 have:(wD [.s (tQ a),.s (tQ b),.i 0]).run=some (0,[.s (tQ (a*b)),.i 0]):=by
  rw[q83]
  simp only[STD,qqm ha hb h1 h2]
 simp only[STD,this]
theorem qys{a b:Rat}{N D N' D':Nat}(h0:b≠0)(ha:bnd N D a)(hb:bnd N' D' b)(h1:N+D'≤1024)(h2:D+N'≤1024):(zz [.s (tQ a),.s (tQ b),.i 0]).run=some (0,[.s (tQ (a/b)),.i 0]):=by
 rw[q7X]
 simp only[STD,qpa h0 ha hb h1 h2]
theorem qtv{ax ay bx by_:Rat}{N D N' D':Nat}(h1:bnd N D ax)(h2:bnd N D ay)(h3:bnd N' D' bx)(h4:bnd N' D' by_)(c1:N+D'≤1023)(c2:N'+D≤1023)(c3:D+D'≤1024) :
  (zT [.s (tQ ax),.s (tQ ay),.s (tQ bx),.s (tQ by_),.i 0]).run=some (0,[.s (tQ (ax-bx)),.s (tQ (ay-by_)),.i 0]):=by
 rw[qgh]
 simp only[STD,qms h1 h3 c1 c2 c3,qms h2 h4 c1 c2 c3]
theorem qu9{ax ay bx by_:Rat}{N D N' D':Nat}(h1:bnd N D ax)(h2:bnd N D ay)(h3:bnd N' D' bx)(h4:bnd N' D' by_)(c1:N+N'+(D+D')≤1023)(c2:D+D'+(D+D')≤1024) :
  (zv [.s (tQ ax),.s (tQ ay),.s (tQ bx),.s (tQ by_),.i 0]).run=some (0,[.s (tQ (ax*bx+ay*by_)),.i 0]):=by
 rw[qhf]
 simp only[STD,qmN h1 h3 (by omega) (by omega),qmN h2 h4 (by omega) (by omega),qsv (h1.mul h3) (h2.mul h4) (by omega) (by omega) (by omega)]
theorem qnj{ax ay bx by_:Rat}{N D N' D':Nat}(h1:bnd N D ax)(h2:bnd N D ay)(h3:bnd N' D' bx)(h4:bnd N' D' by_):bnd (N+N'+(D+D')+1) (D+D'+(D+D')) (ax*bx+ay*by_):=
 (h1.mul h3).add (h2.mul h4) (by omega) (by omega)
def q1X(ax ay bx by_:Rat):Rat:=(ax-bx)*(ax-bx)+(ay-by_)*(ay-by_)
theorem q56{a b:Rat}(ha:bnd 12 10 a)(hb:bnd 12 10 b):bnd 23 20 (a-b):=ha.sub hb (by omega) (by omega)
theorem qiR{ax ay bx by_:Rat}(h1:bnd 12 10 ax)(h2:bnd 12 10 ay)(h3:bnd 12 10 bx)(h4:bnd 12 10 by_):bnd 87 80 (q1X ax ay bx by_):=
 qnj (q56 h1 h3) (q56 h2 h4) (q56 h1 h3) (q56 h2 h4)
theorem qyZ{ax ay bx by_:Rat}(h1:bnd 12 10 ax)(h2:bnd 12 10 ay)(h3:bnd 12 10 bx)(h4:bnd 12 10 by_) :
  (q0c [.s (tQ ax),.s (tQ ay),.s (tQ bx),.s (tQ by_),.i 0]).run=some (0,[.s (tQ (q1X ax ay bx by_)),.i 0]):=by
 rw[qhg]
 have k1:=q56 h1 h3
 have k2:=q56 h2 h4
 simp only[STD,qtv h1 h2 h3 h4 (by omega) (by omega) (by omega),qu9 k1 k2 k1 k2 (by omega) (by omega)]
 rfl
structure DQ where
 x:Rat
 y:Rat
 s:Rat
def DQ.sh(d:DQ):Prop:=bnd 12 10 d.x∧bnd 12 10 d.y∧bnd 13 10 d.s
theorem qyE{a b:Rat}(ha:bnd 13 10 a)(hb:bnd 13 10 b):bnd 24 20 (a+b):=ha.add hb (by omega) (by omega)
def qmL(a b:DQ)(k:Rat):Int:=qar (q1X a.x a.y b.x b.y-(a.s+b.s)) k (a.s*b.s)
theorem qt9{a b c:Rat}(h:RootOk a b c)(hc:0≤c):(zR [.s (tQ a),.s (tQ b),.s (tQ c),.i 0]).run=some (0,[.i (qar a b c),.i 0]):=by
 rw[qfO]
 simp only[STD,qsK h hc]
theorem qll(a:Rat):qar a 0 0=sgq a:=by
 unfold qar
 rw[show sgq 0=0 from rfl,Int.mul_zero,Int.mul_zero,if_pos (by omega)]
 split
 ·rename_i h;rw[h]
 ·rfl
theorem qx5{a b:Rat}{N D N' D':Nat}(ha:bnd N D a)(hb:bnd N' D' b)(c1:N+D'+1≤500)(c2:N'+D+1≤500)(c3:D+D'≤300):(yW [.s (tQ a),.s (tQ b),.i 0]).run=some (0,[.i (sgq (a-b)),.i 0]):=by
 rw[qeh]
 have k:bnd 500 (D+D') (a-b):=ha.sub hb (by omega) (by omega)
 have hr:=qt9 (a:=a-b) (b:=0) (c:=0) (RootOk.of k q4V q4V (by omega) (by omega)) (by decide)
 rw[qll,show tQ 0=[48] from rfl] at hr
 simp only[STD,qms ha hb (by omega) (by omega) (by omega),hr]
theorem qwj{a b:Rat}(ha:0≤a)(hb:0≤b):0≤a*b:=Rat.mul_nonneg ha hb
theorem qwu{a b:DQ}(ha:a.sh)(hb:b.sh)(na:0≤a.s)(nb:0≤b.s){k:Rat}(hk:bnd 1 1 k) :
  (wN [.s (tQ a.x),.s (tQ a.y),.s (tQ a.s),.s (tQ b.x),.s (tQ b.y),.s (tQ b.s),.s (tQ k),.i 0]).run=some (0,[.i (qmL a b k),.i 0]):=by
 rw[qgl]
 obtain⟨a1,a2,a3⟩:=ha
 obtain⟨b1,b2,b3⟩:=hb
 have f1:=qiR a1 a2 b1 b2
 have f2:=qyE a3 b3
 have f3:bnd 108 100 (q1X a.x a.y b.x b.y-(a.s+b.s)):=f1.sub f2 (by omega) (by omega)
 have f4:bnd 26 20 (a.s*b.s):=a3.mul b3
 have hr:=qt9 (RootOk.of f3 hk f4 (by omega) (by omega)) (qwj na nb)
 simp only[STD,qyZ a1 a2 b1 b2,qsv a3 b3 (by omega) (by omega) (by omega),qms f1 f2 (by omega) (by omega) (by omega),qmN a3 b3 (by omega) (by omega),hr]
 rfl
theorem qu6:tQ 2=[50]:=qw7 2
theorem qwX:tQ (-2)=[45,50]:=by
 have:(-2:Rat)=((-2:Int):Rat):=by simp
 rw[this,qux];rfl
def q34(a b:DQ):Prop:=a.s≤b.s∧qmL a b 2≤0
instance (a b:DQ):Decidable (q34 a b):=by unfold q34;infer_instance
theorem qlh(a b:Rat):(sgq (a-b)≤0)=(a≤b):=by rw[qcO];exact propext ⟨fun h=>by grind,fun h=>by grind⟩
theorem qr7{a b:DQ}(ha:a.sh)(hb:b.sh)(na:0≤a.s)(nb:0≤b.s) :
  (wJ [.s (tQ a.x),.s (tQ a.y),.s (tQ a.s),.s (tQ b.x),.s (tQ b.y),.s (tQ b.s),.i 0]).run=some (0,[.b (decide (q34 a b)),.i 0]):=by
 rw[qdf]
 have h1:=qx5 ha.2.2 hb.2.2 (by omega) (by omega) (by omega)
 have h2:=qwu ha hb na nb qkb
 rw[qu6] at h2
 unfold q34
 by_cases c:a.s≤b.s
 ·have e:(ile (qmL a b 2) 0)=decide (qmL a b 2≤0):=rfl
  simp only[STD,h1,qlh,c,h2,true_and,e]
 ·simp only[STD,h1,qlh,c,false_and];rfl
def qxd(a b:DQ):Int:=if q34 a b then 2 else if q34 b a then 3 else -qmL a b (-2)
theorem qvn(a b c:Rat):-1≤qar a b c∧qar a b c≤1:=by
 have h1:=qcb a
 have h2:=qyD (qcb b) (qcb c)
 have h3:=qyD h1 (qcb (a*a-b*b*c))
 unfold qar
 split
 ·split
  ·exact h2
  ·exact h1
 ·exact h3
theorem qvr(a b:DQ)(k:Rat):-1≤qmL a b k∧qmL a b k≤1:=qvn _ _ _
def shT(s:List UInt8):Prop:=s.length≤12
noncomputable def qrq(x y s:List UInt8):Int:=if qbw x≠0 then qbw x else if qbw y≠0 then qbw y else if qbw s≠0 then qbw s else if s.getD 0 0=45 then 2 else 0
theorem qy0{S:List PV→TR}{st:Nat→List PV}{e0 e1 e2:Int}{fin:List PV}
  (h0:(S (st 0)).run=if e0=0 then some (0,st 1) else some (2,[.i e0])) (h1:(S (st 1)).run=if e1=0 then some (0,st 2) else some (2,[.i e1])) (h2:(S (st 2)).run=if e2=0 then some (0,st 3) else some (2,[.i e2]))
  (h3:(S (st 3)).run=some (1,fin)):(qj S (st 0)).run=some (if e0≠0 then (1,[.i e0]) else if e1≠0 then (1,[.i e1]) else if e2≠0 then (1,[.i e2]) else (0,fin)):=by
 have hr:∃m,qbz=m+4:=⟨qbz-4,by unfold qbz;omega⟩
 obtain⟨m,hm⟩:=hr
 unfold qj
 rw[hm]
 by_cases c0:e0=0
 ·rw[if_pos c0] at h0
  rw[qd2 h0]
  by_cases c1:e1=0
  ·rw[if_pos c1] at h1
   rw[qd2 h1]
   by_cases c2:e2=0
   ·rw[if_pos c2] at h2
    rw[qd2 h2,q5h h3]
    simp[c0,c1,c2]
   ·rw[if_neg c2] at h2
    rw[q5h h2]
    simp[c0,c1,c2]
  ·rw[if_neg c1] at h1
   rw[q5h h1]
   simp[c0,c1]
 ·rw[if_neg c0] at h0
  rw[q5h h0]
  simp[c0]
theorem qan(x y s:List UInt8)(h1:x.length≤1000000)(h2:y.length≤1000000)(h3:s.length≤1000000):(jI [.s x,.s y,.s s]).run=some (0,[.i (qrq x y s)]):=by
  rw[qky]
  have c0:=q6e x (by omega)
  have c1:=q6e y (by omega)
  have c2:=q6e s (by omega)
  have d0:cS [[.s x],[.s y],[.s s]] 0 0=x:=rfl
  have d1:cS [[.s x],[.s y],[.s s]] 1 0=y:=rfl
  have d2:cS [[.s x],[.s y],[.s s]] 2 0=s:=rfl
  have d3:qt [[U.s x],[U.s y],[U.s s]]=3:=rfl
  have w0:qh .i64 0 1=1:=by decide
  have w1:qh .i64 1 1=2:=by decide
  have w2:qh .i64 2 1=3:=by decide
  have key:=qy0 (S:=q11) (st:=fun i=>[.i 3,.i (i:Int),.s x,.s y,.s s,.r [[.s x],[.s y],[.s s]]]) (e0:=qbw x) (e1:=qbw y) (e2:=qbw s) (fin:=[.s x,.s y,.s s])
    (by rw [q2Q]; simp only [show (((0 : Nat)) : Int) = 0 from rfl, show (((1 : Nat)) : Int) = 1 from rfl, d0, d3]
        by_cases c:qbw x=0
        · simp only[STD,c0,c,w0,show (0:Int)<3 by omega,Int.le_refl,and_self]
        · simp only[STD,c0,c,show (0:Int)<3 by omega,Int.le_refl,and_self])
    (by rw [q2Q]; simp only [show (((1 : Nat)) : Int) = 1 from rfl, show (((2 : Nat)) : Int) = 2 from rfl, d1, d3]
        by_cases c:qbw y=0
        · simp only[STD,c1,c,w1,show (1:Int)<3 by omega,show (0:Int)≤1 by omega,and_self]
        · simp only[STD,c1,c,show (1:Int)<3 by omega,show (0:Int)≤1 by omega,and_self])
    (by rw [q2Q]; simp only [show (((2 : Nat)) : Int) = 2 from rfl, show (((3 : Nat)) : Int) = 3 from rfl, d2, d3]
        by_cases c:qbw s=0
        · simp only[STD,c2,c,w2,show (2:Int)<3 by omega,show (0:Int)≤2 by omega,and_self]
        · simp only[STD,c2,c,show (2:Int)<3 by omega,show (0:Int)≤2 by omega,and_self])
    (by rw[q2Q];simp only[show (((3:Nat)):Int)=3 from rfl];simp only[STD,show ¬(3:Int)<3 by omega])
  simp only[show (((0:Nat)):Int)=0 from rfl] at key
  unfold qrq
  rw[d3]
  by_cases e0:qbw x=0
  · by_cases e1:qbw y=0
    · by_cases e2:qbw s=0
      · simp only[e0,e1,e2,ne_eq,not_true,if_false] at key ⊢
        obtain⟨q,hq,_⟩:=qk5 e2
        have hl:(0:Int)<qm s:=by
          have h1:=qeV q
          have h2:=qhx q
          rw[hq];unfold qm;omega
        by_cases hm:s.getD 0 0=45
        · simp only[STD,key,qM key,Int.le_refl,hl,and_self,qfq,hm]
        · simp only[STD,key,qM key,Int.le_refl,hl,and_self,qfq,hm]
      · simp only[e0,e1,e2,ne_eq,not_true,not_false_eq_true,if_false,if_true] at key ⊢
        simp only[STD,key,qM key,show ¬(1=0) by omega]
    · simp only[e0,e1,ne_eq,not_true,not_false_eq_true,if_false,if_true] at key ⊢
      simp only[STD,key,qM key,show ¬(1=0) by omega]
  · simp only[e0,ne_eq,not_false_eq_true,if_true] at key ⊢
    simp only[STD,key,qM key,show ¬(1=0) by omega]
theorem qfu(x y s:List UInt8)(h1:x.length≤1000000)(h2:y.length≤1000000)(h3:s.length≤1000000):(q1L [.s x,.s y,.s s]).run=some (0,[.i (qrq x y s)]):=by
  rw[qkG]
  have c0:=qaI x (by omega)
  have c1:=qaI y (by omega)
  have c2:=qaI s (by omega)
  have d0:cS [[.s x],[.s y],[.s s]] 0 0=x:=rfl
  have d1:cS [[.s x],[.s y],[.s s]] 1 0=y:=rfl
  have d2:cS [[.s x],[.s y],[.s s]] 2 0=s:=rfl
  have d3:qt [[U.s x],[U.s y],[U.s s]]=3:=rfl
  have w0:qh .i64 0 1=1:=by decide
  have w1:qh .i64 1 1=2:=by decide
  have w2:qh .i64 2 1=3:=by decide
  have key:=qy0 (S:=q1i) (st:=fun i=>[.i 3,.i (i:Int),.s x,.s y,.s s,.r [[.s x],[.s y],[.s s]]]) (e0:=qbw x) (e1:=qbw y) (e2:=qbw s) (fin:=[.s x,.s y,.s s])
    (by rw [q2R]; simp only [show (((0 : Nat)) : Int) = 0 from rfl, show (((1 : Nat)) : Int) = 1 from rfl, d0, d3]
        by_cases c:qbw x=0
        · simp only[STD,c0,c,w0,show (0:Int)<3 by omega,Int.le_refl,and_self]
        · simp only[STD,c0,c,show (0:Int)<3 by omega,Int.le_refl,and_self])
    (by rw [q2R]; simp only [show (((1 : Nat)) : Int) = 1 from rfl, show (((2 : Nat)) : Int) = 2 from rfl, d1, d3]
        by_cases c:qbw y=0
        · simp only[STD,c1,c,w1,show (1:Int)<3 by omega,show (0:Int)≤1 by omega,and_self]
        · simp only[STD,c1,c,show (1:Int)<3 by omega,show (0:Int)≤1 by omega,and_self])
    (by rw [q2R]; simp only [show (((2 : Nat)) : Int) = 2 from rfl, show (((3 : Nat)) : Int) = 3 from rfl, d2, d3]
        by_cases c:qbw s=0
        · simp only[STD,c2,c,w2,show (2:Int)<3 by omega,show (0:Int)≤2 by omega,and_self]
        · simp only[STD,c2,c,show (2:Int)<3 by omega,show (0:Int)≤2 by omega,and_self])
    (by rw[q2R];simp only[show (((3:Nat)):Int)=3 from rfl];simp only[STD,show ¬(3:Int)<3 by omega])
  simp only[show (((0:Nat)):Int)=0 from rfl] at key
  unfold qrq
  rw[d3]
  by_cases e0:qbw x=0
  · by_cases e1:qbw y=0
    · by_cases e2:qbw s=0
      · simp only[e0,e1,e2,ne_eq,not_true,if_false] at key ⊢
        obtain⟨q,rfl,hok⟩:=qk5 e2
        have hS:=qkR (a:=q) (qx4 hok (by omega))
        by_cases hm:q<0
        · simp only[STD,key,qM key,hS,qlD,hm,qtQ hm]
        · simp only[STD,key,qM key,hS,qlD,hm,qvj (show 0≤q by grind)]
      · simp only[e0,e1,e2,ne_eq,not_true,not_false_eq_true,if_false,if_true] at key ⊢
        simp only[STD,key,qM key,show ¬(1=0) by omega]
    · simp only[e0,e1,ne_eq,not_true,not_false_eq_true,if_false,if_true] at key ⊢
      simp only[STD,key,qM key,show ¬(1=0) by omega]
  · simp only[e0,ne_eq,not_false_eq_true,if_true] at key ⊢
    simp only[STD,key,qM key,show ¬(1=0) by omega]
theorem qxl{x y s:List UInt8}(h:qrq x y s=0):∃d:DQ,x=tQ d.x∧y=tQ d.y∧s=tQ d.s∧okQ d.x∧okQ d.y∧okQ d.s∧0≤d.s:=by
 unfold qrq at h
 by_cases e0:qbw x=0
 ·by_cases e1:qbw y=0
  ·by_cases e2:qbw s=0
   ·simp only[e0,e1,e2,ne_eq,not_true,if_false] at h
    obtain⟨qx,rfl,o1⟩:=qk5 e0
    obtain⟨qy,rfl,o2⟩:=qk5 e1
    obtain⟨qs,rfl,o3⟩:=qk5 e2
    refine⟨⟨qx,qy,qs⟩,rfl,rfl,rfl,o1,o2,o3,?_⟩
    show 0≤qs
    by_cases hn:qs<0
    ·rw[qtQ hn] at h;simp at h
    ·grind
   ·simp only[e0,e1,ne_eq,not_true,if_false,e2,not_false_eq_true,if_true] at h
  ·simp only[e0,ne_eq,not_true,if_false,e1,not_false_eq_true,if_true] at h
 ·simp only[ne_eq,e0,not_false_eq_true,if_true] at h
theorem qxx{d:DQ}(h1:okQ d.x)(h2:okQ d.y)(h3:okQ d.s)(h:0≤d.s):qrq (tQ d.x) (tQ d.y) (tQ d.s)=0:=by
 unfold qrq
 rw[qmv h1,qmv h2,qmv h3]
 have:=qvj h
 rw[if_neg (by simp),if_neg (by simp),if_neg (by simp),if_neg this]
end Go.Eng

namespace Go.Eng
def Bd(C e:Nat)(x:Int):Prop:=x.natAbs≤C*10^e
theorem Bd.mul{C e C' e':Nat}{x y:Int}(h:Bd C e x)(h':Bd C' e' y):Bd (C*C') (e+e') (x*y):=by
 unfold Bd at *
 rw[Int.natAbs_mul,Nat.pow_add]
 have:=Nat.mul_le_mul h h'
 have e1:C*10^e*(C'*10^e')=C*C'*(10^e*10^e'):=by
  rw[Nat.mul_mul_mul_comm]
 omega
theorem Bd.mono{C e C' e':Nat}{x:Int}(h:Bd C e x)(hC:C≤C')(he:e≤e'):Bd C' e' x:=by
 unfold Bd at *
 exact Nat.le_trans h (Nat.mul_le_mul hC (Nat.pow_le_pow_right (by omega) he))
theorem Bd.add{C C' e:Nat}{x y:Int}(h:Bd C e x)(h':Bd C' e y):Bd (C+C') e (x+y):=by
 unfold Bd at *
 rw[Nat.add_mul]
 have:=Int.natAbs_add_le x y
 omega
theorem Bd.neg{C e:Nat}{x:Int}(h:Bd C e x):Bd C e (-x):=by unfold Bd at *;rw[Int.natAbs_neg];exact h
theorem Bd.sub{C C' e:Nat}{x y:Int}(h:Bd C e x)(h':Bd C' e y):Bd (C+C') e (x-y):=by
 rw[Int.sub_eq_add_neg];exact h.add h'.neg
theorem Bd.okL{C e k:Nat}{x:Int}(h:Bd C e x)(hC:C≤10^k)(he:k+e≤1023)(hne:0<e+k):okL x:=by
 unfold Go.Eng.okL nl
 unfold Bd at h
 have h1:C*10^e≤10^k*10^e:=Nat.mul_le_mul_right _ hC
 rw[←Nat.pow_add] at h1
 have h2:(10:Nat)^(k+e)<10^(k+e+1):=Nat.pow_lt_pow_right (by omega) (by omega)
 have:=q3p (k+e) x.natAbs (by omega)
 omega
structure Wt (h v:Nat) (q:Rat):Prop where
 n:Bd 1 h q.num
 d:Bd 1 v (q.den:Int)
 dh:Bd 1 h (q.den:Int)
theorem qik{q:Rat}{P M:Int}(hM:M≠0)(h:q*(M:Rat)=(P:Rat)):q.num.natAbs≤P.natAbs∧q.den≤M.natAbs:=by
 have hM':(M:Rat)≠0:=by
  intro e
  exact hM (Rat.intCast_inj.1 (e.trans (by simp)))
 have e:q=Rat.divInt P M:=by
  rw[Rat.divInt_eq_div,←h]
  exact(Rat.mul_div_cancel hM').symm
 rw[e]
 constructor
 ·rw[Rat.num_divInt]
  refine Nat.le_trans (Int.natAbs_ediv_le_natAbs _ _) ?_
  rw[Int.natAbs_mul,Int.natAbs_sign_of_ne_zero hM];omega
 ·rw[Rat.den_divInt,if_neg hM]
  exact Nat.div_le_self _ _
structure SQ where
 fx:Rat
 fy:Rat
 ax:Rat
 ay:Rat
 h:Rat
def qk(a b:DQ)(neg:Bool):SQ:=
 let dx:=b.x-a.x
 let dy:=b.y-a.y
 let far:=dx*dx+dy*dy
 let t:=(far+a.s-b.s)/(2*far)
 ⟨a.x+t*dx,a.y+t*dy,if neg then dy else 0-dy,if neg then 0-dx else dx,a.s/far-t*t⟩
def kA(d:DQ)(p:SQ):Rat:=(p.fx-d.x)*(p.fx-d.x)+(p.fy-d.y)*(p.fy-d.y)+p.h*(p.ax*p.ax+p.ay*p.ay)-d.s
def kB(d:DQ)(p:SQ):Rat:=2*((p.fx-d.x)*p.ax+(p.fy-d.y)*p.ay)
def q0e(d:DQ)(p:SQ):Prop:=qar (kA d p) (kB d p) p.h≤0
instance (d:DQ) (p:SQ):Decidable (q0e d p):=by unfold q0e;infer_instance
section
variable (a1 p1 b1 q1 c1 r1 a2 p2 b2 q2 c2 r2 a3 p3 b3 q3 c3 r3:Int)
def iU:Int:=a2*p1-a1*p2
def iN:Int:=iU a1 p1 a2 p2*iU a1 p1 a2 p2*((q1*q2)*(q1*q2))+iU b1 q1 b2 q2*iU b1 q1 b2 q2*((p1*p2)*(p1*p2))
def iD:Int:=(p1*p2*(q1*q2))*(p1*p2*(q1*q2))
def iT:Int:=iN a1 p1 b1 q1 a2 p2 b2 q2*(r1*r2)+(c1*r2-c2*r1)*iD p1 q1 p2 q2
def iE:Int:=a1*p3-a3*p1
def iG:Int:=iE a1 p1 a3 p3*iE a1 p1 a3 p3*((q1*q3)*(q1*q3))+iE b1 q1 b3 q3*iE b1 q1 b3 q3*((p1*p3)*(p1*p3))
def iH:Int:=iE a1 p1 a3 p3*iU a1 p1 a2 p2*((q1*q1)*(q2*q3))+iE b1 q1 b3 q3*iU b1 q1 b2 q2*((p1*p1)*(p2*p3))
def iSq:Int:=((p1*q1)*(p3*q3))*((p1*q1)*(p3*q3))
def iA:Int:=iG a1 p1 b1 q1 a3 p3 b3 q3*iN a1 p1 b1 q1 a2 p2 b2 q2*(r1*r2*r3)*(p2*q2)+iT a1 p1 b1 q1 c1 r1 a2 p2 b2 q2 c2 r2*iH a1 p1 b1 q1 a2 p2 b2 q2 a3 p3 b3 q3*r3*(p3*q3)
 + c1*iN a1 p1 b1 q1 a2 p2 b2 q2*(r2*r3)*iSq p1 q1 p3 q3*(p2*q2)-c3*iN a1 p1 b1 q1 a2 p2 b2 q2*(r1*r2)*iSq p1 q1 p3 q3*(p2*q2)
def iM:Int:=iN a1 p1 b1 q1 a2 p2 b2 q2*(r1*r2*r3)*iSq p1 q1 p3 q3*(p2*q2)
def iK:Int:=2*(iE b1 q1 b3 q3*iU a1 p1 a2 p2*(p3*q2)-iE a1 p1 a3 p3*iU b1 q1 b2 q2*(q3*p2))
def iQ:Int:=(p1*p2*p3)*(q1*q2*q3)
def iCn:Int:=4*(c1*iD p1 q1 p2 q2*iN a1 p1 b1 q1 a2 p2 b2 q2*r1*(r2*r2))-iT a1 p1 b1 q1 c1 r1 a2 p2 b2 q2 c2 r2*iT a1 p1 b1 q1 c1 r1 a2 p2 b2 q2 c2 r2
def iCd:Int:=4*(iN a1 p1 b1 q1 a2 p2 b2 q2*iN a1 p1 b1 q1 a2 p2 b2 q2)*((r1*r2)*(r1*r2))
end
section
variable {a1 p1 b1 q1 c1 r1 a2 p2 b2 q2 c2 r2 a3 p3 b3 q3 c3 r3:Int} {hx1 hy1 hs1 hx2 hy2 hs2 hx3 hy3 hs3 vx1 vy1 vs1 vx2 vy2 vs2 vx3 vy3 vs3:Nat}
theorem bU(h1:Bd 1 hx1 a1)(h2:Bd 1 hx1 p1)(h3:Bd 1 hx2 a2)(h4:Bd 1 hx2 p2):Bd 2 (hx1+hx2) (iU a1 p1 a2 p2):=
 ((h3.mul h2).mono (Nat.le_refl _) (by omega)).sub (h1.mul h4)
theorem bE(h1:Bd 1 hx1 a1)(h2:Bd 1 hx1 p1)(h3:Bd 1 hx3 a3)(h4:Bd 1 hx3 p3):Bd 2 (hx1+hx3) (iE a1 p1 a3 p3):=
 (h1.mul h4).sub ((h3.mul h2).mono (Nat.le_refl _) (by omega))
theorem bN(x1:Bd 1 hx1 a1)(x1':Bd 1 hx1 p1)(y1:Bd 1 hy1 b1)(y1':Bd 1 hy1 q1)(x2:Bd 1 hx2 a2)(x2':Bd 1 hx2 p2)(y2:Bd 1 hy2 b2)(y2':Bd 1 hy2 q2) :
  Bd 8 (2*(hx1+hx2+hy1+hy2)) (iN a1 p1 b1 q1 a2 p2 b2 q2):=by
 have u:=bU x1 x1' x2 x2'
 have v:=bU y1 y1' y2 y2'
 have qq:=y1'.mul y2'
 have pp:=x1'.mul x2'
 exact(((u.mul u).mul (qq.mul qq)).mono (C':=4) (by omega) (by omega)).add (((v.mul v).mul (pp.mul pp)).mono (C':=4) (by omega) (by omega))
theorem bD(x1':Bd 1 hx1 p1)(y1':Bd 1 hy1 q1)(x2':Bd 1 hx2 p2)(y2':Bd 1 hy2 q2):Bd 1 (2*(hx1+hx2+hy1+hy2)) (iD p1 q1 p2 q2):=by
 have z:=(x1'.mul x2').mul (y1'.mul y2')
 exact(z.mul z).mono (by omega) (by omega)
theorem bT(x1:Bd 1 hx1 a1)(x1':Bd 1 hx1 p1)(y1:Bd 1 hy1 b1)(y1':Bd 1 hy1 q1)(x2:Bd 1 hx2 a2)(x2':Bd 1 hx2 p2)(y2:Bd 1 hy2 b2)(y2':Bd 1 hy2 q2)
  (s1:Bd 1 hs1 c1) (s1':Bd 1 hs1 r1) (s2:Bd 1 hs2 c2) (s2':Bd 1 hs2 r2):Bd 10 (2*(hx1+hx2+hy1+hy2)+hs1+hs2) (iT a1 p1 b1 q1 c1 r1 a2 p2 b2 q2 c2 r2):=by
 have n:=bN x1 x1' y1 y1' x2 x2' y2 y2'
 have d:=bD x1' y1' x2' y2'
 have s:=(s1.mul s2').sub ((s2.mul s1').mono (Nat.le_refl _) (by omega))
 exact((n.mul (s1'.mul s2')).mono (C':=8) (by omega) (by omega)).add ((s.mul d).mono (C':=2) (by omega) (by omega))
theorem bG(x1:Bd 1 hx1 a1)(x1':Bd 1 hx1 p1)(y1:Bd 1 hy1 b1)(y1':Bd 1 hy1 q1)(x3:Bd 1 hx3 a3)(x3':Bd 1 hx3 p3)(y3:Bd 1 hy3 b3)(y3':Bd 1 hy3 q3) :
  Bd 8 (2*(hx1+hx3+hy1+hy3)) (iG a1 p1 b1 q1 a3 p3 b3 q3):=by
 have u:=bE x1 x1' x3 x3'
 have v:=bE y1 y1' y3 y3'
 have qq:=y1'.mul y3'
 have pp:=x1'.mul x3'
 exact(((u.mul u).mul (qq.mul qq)).mono (C':=4) (by omega) (by omega)).add (((v.mul v).mul (pp.mul pp)).mono (C':=4) (by omega) (by omega))
theorem bH(x1:Bd 1 hx1 a1)(x1':Bd 1 hx1 p1)(y1:Bd 1 hy1 b1)(y1':Bd 1 hy1 q1)(x2:Bd 1 hx2 a2)(x2':Bd 1 hx2 p2)(y2:Bd 1 hy2 b2)(y2':Bd 1 hy2 q2)
  (x3:Bd 1 hx3 a3) (x3':Bd 1 hx3 p3) (y3:Bd 1 hy3 b3) (y3':Bd 1 hy3 q3):Bd 8 (2*hx1+hx2+hx3+2*hy1+hy2+hy3) (iH a1 p1 b1 q1 a2 p2 b2 q2 a3 p3 b3 q3):=by
 have u:=bU x1 x1' x2 x2'
 have v:=bU y1 y1' y2 y2'
 have e:=bE x1 x1' x3 x3'
 have f:=bE y1 y1' y3 y3'
 exact(((e.mul u).mul ((y1'.mul y1').mul (y2'.mul y3'))).mono (C':=4) (by omega) (by omega)).add (((f.mul v).mul ((x1'.mul x1').mul (x2'.mul x3'))).mono (C':=4) (by omega) (by omega))
theorem bSq(x1':Bd 1 hx1 p1)(y1':Bd 1 hy1 q1)(x3':Bd 1 hx3 p3)(y3':Bd 1 hy3 q3):Bd 1 (2*(hx1+hx3+hy1+hy3)) (iSq p1 q1 p3 q3):=by
 have z:=(x1'.mul y1').mul (x3'.mul y3')
 exact(z.mul z).mono (by omega) (by omega)
theorem bA(x1:Bd 1 hx1 a1)(x1':Bd 1 hx1 p1)(y1:Bd 1 hy1 b1)(y1':Bd 1 hy1 q1)(x2:Bd 1 hx2 a2)(x2':Bd 1 hx2 p2)(y2:Bd 1 hy2 b2)(y2':Bd 1 hy2 q2)
  (x3:Bd 1 hx3 a3) (x3':Bd 1 hx3 p3) (y3:Bd 1 hy3 b3) (y3':Bd 1 hy3 q3) (s1:Bd 1 hs1 c1) (s1':Bd 1 hs1 r1) (s2:Bd 1 hs2 c2) (s2':Bd 1 hs2 r2) (s3:Bd 1 hs3 c3) (s3':Bd 1 hs3 r3) :
  Bd 160 (4*hx1+3*hx2+2*hx3+4*hy1+3*hy2+2*hy3+hs1+hs2+hs3) (iA a1 p1 b1 q1 c1 r1 a2 p2 b2 q2 c2 r2 a3 p3 b3 q3 c3 r3):=by
 have g:=bG x1 x1' y1 y1' x3 x3' y3 y3'
 have n:=bN x1 x1' y1 y1' x2 x2' y2 y2'
 have t:=bT x1 x1' y1 y1' x2 x2' y2 y2' s1 s1' s2 s2'
 have h:=bH x1 x1' y1 y1' x2 x2' y2 y2' x3 x3' y3 y3'
 have sq:=bSq x1' y1' x3' y3'
 have k1:=(((g.mul n).mul ((s1'.mul s2').mul s3')).mul (x2'.mul y2')).mono (C':=64) (e':=4*hx1+3*hx2+2*hx3+4*hy1+3*hy2+2*hy3+hs1+hs2+hs3) (by omega) (by omega)
 have k2:=(((t.mul h).mul s3').mul (x3'.mul y3')).mono (C':=80) (e':=4*hx1+3*hx2+2*hx3+4*hy1+3*hy2+2*hy3+hs1+hs2+hs3) (by omega) (by omega)
 have k3:=((((s1.mul n).mul (s2'.mul s3')).mul sq).mul (x2'.mul y2')).mono (C':=8) (e':=4*hx1+3*hx2+2*hx3+4*hy1+3*hy2+2*hy3+hs1+hs2+hs3) (by omega) (by omega)
 have k4:=((((s3.mul n).mul (s1'.mul s2')).mul sq).mul (x2'.mul y2')).mono (C':=8) (e':=4*hx1+3*hx2+2*hx3+4*hy1+3*hy2+2*hy3+hs1+hs2+hs3) (by omega) (by omega)
 exact((k1.add k2).add k3).sub k4
theorem bM(x1:Bd 1 hx1 a1)(x1':Bd 1 hx1 p1)(y1:Bd 1 hy1 b1)(y1':Bd 1 hy1 q1)(x2:Bd 1 hx2 a2)(x2':Bd 1 hx2 p2)(y2:Bd 1 hy2 b2)(y2':Bd 1 hy2 q2)
  (wx1:Bd 1 vx1 p1) (wy1:Bd 1 vy1 q1) (wx2:Bd 1 vx2 p2) (wy2:Bd 1 vy2 q2) (wx3:Bd 1 vx3 p3) (wy3:Bd 1 vy3 q3) (ws1:Bd 1 vs1 r1) (ws2:Bd 1 vs2 r2) (ws3:Bd 1 vs3 r3) :
  Bd 8 (2*(hx1+hx2+hy1+hy2)+(vs1+vs2+vs3)+2*(vx1+vx3+vy1+vy3)+(vx2+vy2)) (iM a1 p1 b1 q1 r1 a2 p2 b2 q2 r2 p3 q3 r3):=by
 have n:=bN x1 x1' y1 y1' x2 x2' y2 y2'
 have sq:=bSq wx1 wy1 wx3 wy3
 exact(((n.mul ((ws1.mul ws2).mul ws3)).mul sq).mul (wx2.mul wy2)).mono (by omega) (by omega)
theorem bK(x1:Bd 1 hx1 a1)(x1':Bd 1 hx1 p1)(y1:Bd 1 hy1 b1)(y1':Bd 1 hy1 q1)(x2:Bd 1 hx2 a2)(x2':Bd 1 hx2 p2)(y2:Bd 1 hy2 b2)(y2':Bd 1 hy2 q2)
  (x3:Bd 1 hx3 a3) (x3':Bd 1 hx3 p3) (y3:Bd 1 hy3 b3) (y3':Bd 1 hy3 q3):Bd 16 (hx1+hx2+hx3+hy1+hy2+hy3) (iK a1 p1 b1 q1 a2 p2 b2 q2 a3 p3 b3 q3):=by
 have u:=bU x1 x1' x2 x2'
 have v:=bU y1 y1' y2 y2'
 have e:=bE x1 x1' x3 x3'
 have f:=bE y1 y1' y3 y3'
 have two:Bd 2 0 2:=by unfold Bd;decide
 have k1:=((f.mul u).mul (x3'.mul y2')).mono (C':=4) (e':=hx1+hx2+hx3+hy1+hy2+hy3) (by omega) (by omega)
 have k2:=((e.mul v).mul (y3'.mul x2')).mono (C':=4) (e':=hx1+hx2+hx3+hy1+hy2+hy3) (by omega) (by omega)
 exact(two.mul (k1.sub k2)).mono (by omega) (by omega)
theorem bQ(wx1:Bd 1 vx1 p1)(wy1:Bd 1 vy1 q1)(wx2:Bd 1 vx2 p2)(wy2:Bd 1 vy2 q2)(wx3:Bd 1 vx3 p3)(wy3:Bd 1 vy3 q3):Bd 1 (vx1+vx2+vx3+(vy1+vy2+vy3)) (iQ p1 q1 p2 q2 p3 q3):=
 (((wx1.mul wx2).mul wx3).mul ((wy1.mul wy2).mul wy3)).mono (by omega) (by omega)
theorem bCn(x1:Bd 1 hx1 a1)(x1':Bd 1 hx1 p1)(y1:Bd 1 hy1 b1)(y1':Bd 1 hy1 q1)(x2:Bd 1 hx2 a2)(x2':Bd 1 hx2 p2)(y2:Bd 1 hy2 b2)(y2':Bd 1 hy2 q2)
  (s1:Bd 1 hs1 c1) (s1':Bd 1 hs1 r1) (s2:Bd 1 hs2 c2) (s2':Bd 1 hs2 r2):Bd 132 (4*(hx1+hx2+hy1+hy2)+2*hs1+2*hs2) (iCn a1 p1 b1 q1 c1 r1 a2 p2 b2 q2 c2 r2):=by
 have n:=bN x1 x1' y1 y1' x2 x2' y2 y2'
 have d:=bD x1' y1' x2' y2'
 have t:=bT x1 x1' y1 y1' x2 x2' y2 y2' s1 s1' s2 s2'
 have four:Bd 4 0 4:=by unfold Bd;decide
 have k1:=(four.mul ((((s1.mul d).mul n).mul s1').mul (s2'.mul s2'))).mono (C':=32) (e':=4*(hx1+hx2+hy1+hy2)+2*hs1+2*hs2) (by omega) (by omega)
 have k2:=(t.mul t).mono (C':=100) (e':=4*(hx1+hx2+hy1+hy2)+2*hs1+2*hs2) (by omega) (by omega)
 exact k1.sub k2
theorem bCd(x1:Bd 1 hx1 a1)(x1':Bd 1 hx1 p1)(y1:Bd 1 hy1 b1)(y1':Bd 1 hy1 q1)(x2:Bd 1 hx2 a2)(x2':Bd 1 hx2 p2)(y2:Bd 1 hy2 b2)(y2':Bd 1 hy2 q2)
  (ws1:Bd 1 vs1 r1) (ws2:Bd 1 vs2 r2):Bd 256 (4*(hx1+hx2+hy1+hy2)+2*vs1+2*vs2) (iCd a1 p1 b1 q1 r1 a2 p2 b2 q2 r2):=by
 have n:=bN x1 x1' y1 y1' x2 x2' y2 y2'
 have four:Bd 4 0 4:=by unfold Bd;decide
 exact((four.mul (n.mul n)).mul ((ws1.mul ws2).mul (ws1.mul ws2))).mono (by omega) (by omega)
end
section
variable (a b d:DQ)
theorem qqF(q:Rat):(q.den:Rat)≠0:=by have:=q1I q;grind
theorem qpA(neg:Bool)(hf:(b.x-a.x)*(b.x-a.x)+(b.y-a.y)*(b.y-a.y)≠0) :
  kA d (qk a b neg)*((iM a.x.num a.x.den a.y.num a.y.den a.s.den b.x.num b.x.den b.y.num b.y.den b.s.den d.x.den d.y.den d.s.den:Int):Rat)=((iA a.x.num a.x.den a.y.num a.y.den a.s.num a.s.den b.x.num b.x.den b.y.num b.y.den b.s.num b.s.den d.x.num d.x.den d.y.num d.y.den d.s.num d.s.den:Int):Rat) ∧
  kB d (qk a b neg)*((iQ a.x.den a.y.den b.x.den b.y.den d.x.den d.y.den:Int):Rat)=(((if neg then -1 else 1)*iK a.x.num a.x.den a.y.num a.y.den b.x.num b.x.den b.y.num b.y.den d.x.num d.x.den d.y.num d.y.den:Int):Rat) ∧
  (qk a b neg).h*((iCd a.x.num a.x.den a.y.num a.y.den a.s.den b.x.num b.x.den b.y.num b.y.den b.s.den:Int):Rat)=((iCn a.x.num a.x.den a.y.num a.y.den a.s.num a.s.den b.x.num b.x.den b.y.num b.y.den b.s.num b.s.den:Int):Rat) ∧
  iN a.x.num a.x.den a.y.num a.y.den b.x.num b.x.den b.y.num b.y.den≠0:=by
 obtain⟨far,hfar⟩:∃far,far=(b.x-a.x)*(b.x-a.x)+(b.y-a.y)*(b.y-a.y):=⟨_,rfl⟩
 obtain⟨t,ht⟩:∃t,t=(far+a.s-b.s)/(2*far):=⟨_,rfl⟩
 obtain⟨h,hh⟩:∃h,h=a.s/far-t*t:=⟨_,rfl⟩
 rw[←hfar] at hf
 have h2f:2*far≠0:=by grind
 have ht':2*far*t=far+a.s-b.s:=by
  rw[ht,Rat.mul_comm];exact Rat.div_mul_cancel h2f
 have hh':far*h=a.s-far*(t*t):=by
  have:a.s/far*far=a.s:=Rat.div_mul_cancel hf
  rw[hh];grind
 have hc:qk a b neg=⟨a.x+t*(b.x-a.x),a.y+t*(b.y-a.y),if neg then b.y-a.y else 0-(b.y-a.y),if neg then 0-(b.x-a.x) else b.x-a.x,h⟩:=by
  rw[hh,ht,hfar];rfl
 rw[hc]
 have nx1:=qbf a.x
 have ny1:=qbf a.y
 have ns1:=qbf a.s
 have nx2:=qbf b.x
 have ny2:=qbf b.y
 have ns2:=qbf b.s
 have nx3:=qbf d.x
 have ny3:=qbf d.y
 have ns3:=qbf d.s
 have px1:=qqF a.x
 have py1:=qqF a.y
 have px2:=qqF b.x
 have py2:=qqF b.y
 obtain⟨x1,y1,s1⟩:=a
 obtain⟨x2,y2,s2⟩:=b
 obtain⟨x3,y3,s3⟩:=d
 simp only at *
 have hU:((iU x1.num x1.den x2.num x2.den:Int):Rat)=(x2-x1)*((x1.den:Rat)*x2.den):=by
  unfold iU;simp only[Rat.intCast_sub,Rat.intCast_mul,Rat.intCast_natCast,nx1,nx2];grind
 have hV:((iU y1.num y1.den y2.num y2.den:Int):Rat)=(y2-y1)*((y1.den:Rat)*y2.den):=by
  unfold iU;simp only[Rat.intCast_sub,Rat.intCast_mul,Rat.intCast_natCast,ny1,ny2];grind
 have hE:((iE x1.num x1.den x3.num x3.den:Int):Rat)=(x1-x3)*((x1.den:Rat)*x3.den):=by
  unfold iE;simp only[Rat.intCast_sub,Rat.intCast_mul,Rat.intCast_natCast,nx1,nx3];grind
 have hF:((iE y1.num y1.den y3.num y3.den:Int):Rat)=(y1-y3)*((y1.den:Rat)*y3.den):=by
  unfold iE;simp only[Rat.intCast_sub,Rat.intCast_mul,Rat.intCast_natCast,ny1,ny3];grind
 have hD:((iD x1.den y1.den x2.den y2.den:Int):Rat)=((x1.den:Rat)*x2.den*(y1.den*y2.den))*((x1.den:Rat)*x2.den*(y1.den*y2.den)):=by
  unfold iD;simp only[Rat.intCast_mul,Rat.intCast_natCast]
 have hN:((iN x1.num x1.den y1.num y1.den x2.num x2.den y2.num y2.den:Int):Rat)=far*(((x1.den:Rat)*x2.den*(y1.den*y2.den))*((x1.den:Rat)*x2.den*(y1.den*y2.den))):=by
  unfold iN;simp only[Rat.intCast_add,Rat.intCast_mul,Rat.intCast_natCast,hU,hV,hfar];grind
 have hN0:iN x1.num x1.den y1.num y1.den x2.num x2.den y2.num y2.den≠0:=by
  intro e
  rw[e] at hN
  have h1:(x1.den:Rat)*x2.den*(y1.den*y2.den)≠0:=by
   have:=Rat.mul_pos (Rat.mul_pos (q1I x1) (q1I x2)) (Rat.mul_pos (q1I y1) (q1I y2))
   grind
  have h2:far*(((x1.den:Rat)*x2.den*(y1.den*y2.den))*((x1.den:Rat)*x2.den*(y1.den*y2.den)))=0:=by rw[←hN];simp
  rcases Rat.mul_eq_zero.1 h2 with h3|h3
  ·exact hf h3
  ·rcases Rat.mul_eq_zero.1 h3 with h4|h4<;>exact h1 h4
 have hT:((iT x1.num x1.den y1.num y1.den s1.num s1.den x2.num x2.den y2.num y2.den s2.num s2.den:Int):Rat)=2*t*far*(((x1.den:Rat)*x2.den*(y1.den*y2.den))*((x1.den:Rat)*x2.den*(y1.den*y2.den)))*((s1.den:Rat)*s2.den):=by
  unfold iT;simp only[Rat.intCast_add,Rat.intCast_sub,Rat.intCast_mul,Rat.intCast_natCast,hN,hD,ns1,ns2]
  generalize ((x1.den:Rat)*x2.den*(y1.den*y2.den))*((x1.den:Rat)*x2.den*(y1.den*y2.den))=D2
  have:2*t*far*D2*((s1.den:Rat)*s2.den)=(2*far*t)*(D2*((s1.den:Rat)*s2.den)):=by grind
  rw[this,ht'];grind
 have hG:((iG x1.num x1.den y1.num y1.den x3.num x3.den y3.num y3.den:Int):Rat)=((x1-x3)*(x1-x3)+(y1-y3)*(y1-y3))*(((x1.den:Rat)*y1.den*(x3.den*y3.den))*((x1.den:Rat)*y1.den*(x3.den*y3.den))):=by
  unfold iG;simp only[Rat.intCast_add,Rat.intCast_mul,Rat.intCast_natCast,hE,hF];grind
 have hH:((iH x1.num x1.den y1.num y1.den x2.num x2.den y2.num y2.den x3.num x3.den y3.num y3.den:Int):Rat)=((x1-x3)*(x2-x1)+(y1-y3)*(y2-y1))*(((x1.den:Rat)*x1.den*(x2.den*x3.den))*((y1.den:Rat)*y1.den*(y2.den*y3.den))):=by
  unfold iH;simp only[Rat.intCast_add,Rat.intCast_mul,Rat.intCast_natCast,hE,hF,hU,hV];grind
 have hSq:((iSq x1.den y1.den x3.den y3.den:Int):Rat)=((x1.den:Rat)*y1.den*(x3.den*y3.den))*((x1.den:Rat)*y1.den*(x3.den*y3.den)):=by
  unfold iSq;simp only[Rat.intCast_mul,Rat.intCast_natCast]
 refine⟨?_,?_,?_,hN0⟩
 ·unfold iM iA
  simp only[Rat.intCast_add,Rat.intCast_sub,Rat.intCast_mul,Rat.intCast_natCast,hN,hT,hG,hH,hSq,ns1,ns3]
  have hA:kA ⟨x3,y3,s3⟩ ⟨x1+t*(x2-x1),y1+t*(y2-y1),if neg then y2-y1 else 0-(y2-y1),if neg then 0-(x2-x1) else x2-x1,h⟩=(x1-x3)*(x1-x3)+(y1-y3)*(y1-y3)+2*t*((x1-x3)*(x2-x1)+(y1-y3)*(y2-y1))+s1-s3:=by
   have e1:kA ⟨x3,y3,s3⟩ ⟨x1+t*(x2-x1),y1+t*(y2-y1),if neg then y2-y1 else 0-(y2-y1),if neg then 0-(x2-x1) else x2-x1,h⟩=(x1-x3)*(x1-x3)+(y1-y3)*(y1-y3)+2*t*((x1-x3)*(x2-x1)+(y1-y3)*(y2-y1))+far*(t*t)+far*h-s3:=by
    unfold kA
    rw[hfar]
    cases neg
    ·simp only[Bool.false_eq_true,if_false];grind
    ·simp only[if_true];grind
   rw[e1,hh'];grind
  rw[hA]
  generalize (x1-x3)*(x1-x3)+(y1-y3)*(y1-y3)=e2
  generalize (x1-x3)*(x2-x1)+(y1-y3)*(y2-y1)=ed
  generalize (x1.den:Rat)=P1
  generalize (x2.den:Rat)=P2
  generalize (x3.den:Rat)=P3
  generalize (y1.den:Rat)=Q1
  generalize (y2.den:Rat)=Q2
  generalize (y3.den:Rat)=Q3
  generalize (s1.den:Rat)=R1
  generalize (s2.den:Rat)=R2
  generalize (s3.den:Rat)=R3
  clear hU hV hE hF hD hN hN0 hT hG hH hSq nx1 nx2 nx3 ny1 ny2 ny3 ns1 ns2 ns3 px1 px2 py1 py2 hf h2f ht' hh' hc hfar
  grind
 ·unfold iQ iK kB
  simp only[Rat.intCast_sub,Rat.intCast_mul,Rat.intCast_natCast,hE,hF,hU,hV]
  cases neg
  ·simp only[Bool.false_eq_true,if_false]
   simp
   grind
  ·simp only[if_true]
   simp
   grind
 ·unfold iCd iCn
  simp only[Rat.intCast_sub,Rat.intCast_mul,Rat.intCast_natCast,hN,hT,hD,ns1]
  generalize ((x1.den:Rat)*x2.den*(y1.den*y2.den))*((x1.den:Rat)*x2.den*(y1.den*y2.den))=D2
  generalize (s1.den:Rat)=R1
  generalize (s2.den:Rat)=R2
  have e:s1=far*h+far*(t*t):=by rw[hh'];grind
  have f4:((4:Int):Rat)=4:=by simp
  rw[f4,e]
  clear hU hV hE hF hD hN hN0 hT hG hH hSq nx1 nx2 nx3 ny1 ny2 ny3 ns1 ns2 ns3 px1 px2 py1 py2 hf h2f ht' hh' hc hfar
  grind
end
end Go.Eng

namespace Go.Eng
theorem qie{a b c:Rat}(hc:0≤c):qar a b c≤0↔(a≤0∧(b≤0∨c=0∨b*b*c≤a*a))∨(0<a∧b<0∧a*a≤b*b*c):=by
 have hs:=qcO (a*a-b*b*c)
 have hs':(0≤sgq (a*a-b*b*c))=(b*b*c≤a*a):=by
  have h1:=qus (a*a-b*b*c)
  have h2:=qcO (-(a*a-b*b*c))
  refine propext ⟨fun h=>?_,fun h=>?_⟩
  ·have:=h2▸(show sgq (-(a*a-b*b*c))≤0 by omega);grind
  ·have:sgq (-(a*a-b*b*c))≤0:=h2▸(show -(a*a-b*b*c)≤0 by grind)
   omega
 have bd:=qcb (a*a-b*b*c)
 have pb:0<b→0<c→0<b*b*c:=fun h1 h2=>Rat.mul_pos (Rat.mul_pos h1 h1) h2
 have pa:0<a→0<a*a:=fun h1=>Rat.mul_pos h1 h1
 have za:a=0→a*a=0:=fun h=>by rw[h];grind
 have zc:c=0→b*b*c=0:=fun h=>by rw[h];grind
 unfold qar
 generalize hz:sgq (a*a-b*b*c)=z at *
 rcases q7I a with⟨ha,ea⟩|⟨ha,ea⟩|⟨ha,ea⟩<;>rcases q7I b with⟨hb,eb⟩|⟨hb,eb⟩|⟨hb,eb⟩<;>rcases q7I c with⟨hc',ec⟩|⟨hc',ec⟩|⟨hc',ec⟩<;>rw[ea,eb,ec]
 all_goals try (exfalso;grind)
 all_goals simp only[
  
  
  show (-1:Int)*0=0 by decide,show (-1:Int)*1=-1 by decide,show (0:Int)*0=0 by decide,show (0:Int)*1=0 by decide,show (1:Int)*0=0 by decide,show (1:Int)*1=1 by decide,Int.one_mul]
 all_goals simp
 all_goals first|(exfalso;grind)|skip
 all_goals grind
theorem qn4{a b:Rat}(h0:0≤a)(h:a≤b):a*a≤b*b:=by
 have:=Rat.mul_nonneg (show 0≤b-a by grind) (show 0≤b+a by grind)
 grind
theorem qqW{a b:Rat}(hb:0≤b)(h:a*a≤b*b):a≤b:=by
 apply Rat.not_lt.1
 intro hn
 have:=Rat.mul_pos (show 0<a-b by grind) (show 0<a+b by grind)
 grind
theorem qrO{a b c T0 T1:Rat}(h0:0≤T0)(h1:T0≤T1)(k0:T0*T0≤c)(k1:c≤T1*T1)(e0:a+b*T0≤0)(e1:a+b*T1≤0):qar a b c≤0:=by
 have hc:0≤c:=by have:=Rat.mul_nonneg h0 h0;grind
 rw[qie hc]
 by_cases hb:b≤0
 ·by_cases ha:a≤0
  ·exact .inl ⟨ha,.inl hb⟩
  ·have hb':b<0:=by
    apply Rat.not_le.1;intro hn
    have h:b=0:=by grind
    rw[h] at e0;grind
   refine .inr ⟨by grind,hb',?_⟩
   have h1:=qn4 (a:=a) (b:=(-b)*T0) (by grind) (by grind)
   have h2:=Rat.mul_le_mul_of_nonneg_left k0 (show 0≤b*b by have:=Rat.mul_nonneg (show 0≤-b by grind) (show 0≤-b by grind);grind)
   grind
 ·have hb':0≤b:=by grind
  have h3:=Rat.mul_nonneg hb' h0
  refine .inl ⟨by grind,.inr (.inr ?_)⟩
  have h3:=Rat.mul_nonneg hb' (show 0≤T1 by grind)
  have h1:=qn4 (a:=b*T1) (b:=-a) h3 (by grind)
  have h2:=Rat.mul_le_mul_of_nonneg_left k1 (Rat.mul_nonneg hb' hb')
  grind
theorem qnu{a b c:Rat}(hc:0≤c)(h:qar a b c≤0):∃T,0≤T∧T*T≤c∧∀S,T≤S→S*S≤c→a+b*S≤0:=by
 rw[qie hc] at h
 by_cases hb:b<0
 ·by_cases ha:a≤0
  ·refine⟨0,by grind,by grind,fun S h1 h2=>?_⟩
   have:=Rat.mul_nonneg (show 0≤-b by grind) h1
   grind
  ·rcases h with h|⟨h1,h2,h3⟩
   ·exact absurd h.1 ha
   ·have hq:a/(-b)*(-b)=a:=Rat.div_mul_cancel (by grind)
    have hq0:0≤a/(-b):=by
     apply Rat.not_lt.1;intro hn
     have:=Rat.mul_pos (show 0 < -(a/(-b)) by grind) (show 0 < -b by grind)
     grind
    generalize a/(-b)=T at *
    refine⟨T,hq0,?_,fun S hS _=>?_⟩
    ·apply Rat.not_lt.1;intro hn
     have:=Rat.mul_pos (show 0<T*T-c by grind) (Rat.mul_pos (show 0 < -b by grind) (show 0 < -b by grind))
     have e:a*a=T*T*(b*b):=by rw[←hq];grind
     rw[e] at h3;clear e hq;grind
    ·have:=Rat.mul_nonneg (show 0≤-b by grind) (show 0≤S-T by grind)
     grind
 ·refine⟨0,by grind,by grind,fun S h1 h2=>?_⟩
  rcases h with⟨h3,h4⟩|⟨_,h5,_⟩
  ·rcases h4 with h4|h4|h4
   ·have:b=0:=by grind
    rw[this];grind
   ·have:S*S≤0:=by grind
    have h6:=qqW (a:=S) (b:=0) (by grind) (by grind)
    have:S=0:=by grind
    rw[this];grind
   ·have k1:=Rat.mul_le_mul_of_nonneg_left h2 (Rat.mul_nonneg (show 0≤b by grind) (show 0≤b by grind))
    have:=qqW (a:=b*S) (b:=-a) (by grind) (by grind)
    grind
  ·exact absurd h5 hb
def pw(d:DQ)(x y:Rat):Rat:=(x-d.x)*(x-d.x)+(y-d.y)*(y-d.y)-d.s
def qcH(l:List DQ):Prop:=∃x y:Rat,∀d∈l,pw d x y≤0
theorem qcH.mono{l l':List DQ}(h:qcH l)(hs:∀d∈l',d∈l):qcH l':=by
 obtain⟨x,y,h⟩:=h
 exact⟨x,y,fun d hd=>h d (hs d hd)⟩
theorem qtp(d:DQ)(p:SQ)(T:Rat):pw d (p.fx+T*p.ax) (p.fy+T*p.ay)=kA d p+kB d p*T+(p.ax*p.ax+p.ay*p.ay)*(T*T-p.h):=by
 unfold pw kA kB;grind
theorem q5r(a:Rat):0≤a*a:=by
 rcases Rat.le_total (a:=0) (b:=a) with h|h
 ·exact Rat.mul_nonneg h h
 ·have:=Rat.mul_nonneg (show 0≤-a by grind) (show 0≤-a by grind);grind
theorem qlx(p:SQ)(hn:0≤p.h):∀l:List DQ,(∀d∈l,q0e d p)→∃T,0≤T∧T*T≤p.h∧∀d∈l,∀S,T≤S→S*S≤p.h→kA d p+kB d p*S≤0
 | [],_=>⟨0,by grind,by grind,fun d hd=>by cases hd⟩
 | a::l,h=>by
  obtain⟨T,h1,h2,h3⟩:=qlx p hn l fun d hd=>h d (List.mem_cons_of_mem _ hd)
  obtain⟨T',k1,k2,k3⟩:=qnu hn (h a List.mem_cons_self)
  rcases Rat.le_total (a:=T) (b:=T') with hT|hT
  ·refine⟨T',k1,k2,fun d hd S hS hS2=>?_⟩
   rcases List.mem_cons.1 hd with rfl|hd
   ·exact k3 S hS hS2
   ·exact h3 d hd S (Rat.le_trans hT hS) hS2
  ·refine⟨T,h1,h2,fun d hd S hS hS2=>?_⟩
   rcases List.mem_cons.1 hd with rfl|hd
   ·exact k3 S (Rat.le_trans hT hS) hS2
   ·exact h3 d hd S hS hS2
theorem qm7{l:List DQ}{p:SQ}(hn:0≤p.h)(h:∀d∈l,q0e d p):qcH l:=by
 obtain⟨T,h1,h2,h3⟩:=qlx p hn l h
 refine⟨p.fx+T*p.ax,p.fy+T*p.ay,fun d hd=>?_⟩
 rw[qtp]
 have k1:=h3 d hd T (Rat.le_refl) h2
 have k2:=Rat.mul_nonneg (show 0≤p.ax*p.ax+p.ay*p.ay by have:=q5r p.ax;have:=q5r p.ay;grind) (show 0≤p.h-T*T by grind)
 grind
theorem qzn{A B C D p q r s:Rat}(_:A≤0)(_:B≤0)(_:C≤0)(_:D≤0)(_:0≤p)(_:0≤q)(_:0≤r)(_:0≤s):A+B+C+D-(p+q+r+s)≤0:=by grind
theorem qwn{x1 y1 x2 y2 x3 y3 x4 y4 m1 m2 m3 m4 X Y:Rat}(h1:0≤m1)(h2:0≤m2)(h3:0≤m3)(h4:0≤m4)(hM:0<m1+m2+m3+m4)
  (hX:X*(m1+m2+m3+m4)=m1*x1+m2*x2+m3*x3+m4*x4) (hY:Y*(m1+m2+m3+m4)=m1*y1+m2*y2+m3*y3+m4*y4) (d:DQ)
  (k1:m1=0∨pw d x1 y1≤0) (k2:m2=0∨pw d x2 y2≤0) (k3:m3=0∨pw d x3 y3≤0) (k4:m4=0∨pw d x4 y4≤0):pw d X Y≤0:=by
 have aux:∀{m a:Rat},0≤m→(m=0∨a≤0)→m*a≤0:=fun {m a} hm h=>by
  rcases h with rfl|h
  ·grind
  ·have:=Rat.mul_nonneg hm (show 0≤-a by grind);grind
 have e1:=aux h1 k1
 have e2:=aux h2 k2
 have e3:=aux h3 k3
 have e4:=aux h4 k4
 have s1:=Rat.mul_nonneg h1 (show 0≤(x1-X)*(x1-X)+(y1-Y)*(y1-Y) by have:=q5r (x1-X);have:=q5r (y1-Y);grind)
 have s2:=Rat.mul_nonneg h2 (show 0≤(x2-X)*(x2-X)+(y2-Y)*(y2-Y) by have:=q5r (x2-X);have:=q5r (y2-Y);grind)
 have s3:=Rat.mul_nonneg h3 (show 0≤(x3-X)*(x3-X)+(y3-Y)*(y3-Y) by have:=q5r (x3-X);have:=q5r (y3-Y);grind)
 have s4:=Rat.mul_nonneg h4 (show 0≤(x4-X)*(x4-X)+(y4-Y)*(y4-Y) by have:=q5r (x4-X);have:=q5r (y4-Y);grind)
 have key:(m1+m2+m3+m4)*pw d X Y=(m1*pw d x1 y1+m2*pw d x2 y2+m3*pw d x3 y3+m4*pw d x4 y4)
   - (m1*((x1-X)*(x1-X)+(y1-Y)*(y1-Y))+m2*((x2-X)*(x2-X)+(y2-Y)*(y2-Y))+m3*((x3-X)*(x3-X)+(y3-Y)*(y3-Y))+m4*((x4-X)*(x4-X)+(y4-Y)*(y4-Y))):=by
  have eX:m1*(x1-X)+m2*(x2-X)+m3*(x3-X)+m4*(x4-X)=0:=by grind
  have eY:m1*(y1-Y)+m2*(y2-Y)+m3*(y3-Y)+m4*(y4-Y)=0:=by grind
  have key0:(m1+m2+m3+m4)*pw d X Y=(m1*pw d x1 y1+m2*pw d x2 y2+m3*pw d x3 y3+m4*pw d x4 y4)
   - (m1*((x1-X)*(x1-X)+(y1-Y)*(y1-Y))+m2*((x2-X)*(x2-X)+(y2-Y)*(y2-Y))+m3*((x3-X)*(x3-X)+(y3-Y)*(y3-Y))+m4*((x4-X)*(x4-X)+(y4-Y)*(y4-Y)))
   - 2*((X-d.x)*(m1*(x1-X)+m2*(x2-X)+m3*(x3-X)+m4*(x4-X))+(Y-d.y)*(m1*(y1-Y)+m2*(y2-Y)+m3*(y3-Y)+m4*(y4-Y))):=by
   unfold pw
   clear hX hY eX eY e1 e2 e3 e4 s1 s2 s3 s4 k1 k2 k3 k4 h1 h2 h3 h4 hM aux
   grind
  rw[key0,eX,eY];grind
 apply Rat.not_lt.1
 intro hn
 have hpos:=Rat.mul_pos hM hn
 rw[key] at hpos
 exact absurd (qzn e1 e2 e3 e4 s1 s2 s3 s4) (Rat.not_le.2 hpos)
theorem qif(a:Rat):∃m n:Rat,0≤m∧0≤n∧a=m-n∧(m=0∨n=0):=by
 rcases Rat.le_total (a:=0) (b:=a) with h|h
 ·exact⟨a,0,h,by grind,by grind,.inr rfl⟩
 ·exact⟨0,-a,by grind,by grind,by grind,.inl rfl⟩
theorem qmc{x1 y1 x2 y2 x3 y3 x4 y4 t1 t2 t3 t4:Rat}(h0:t1+t2+t3+t4=0)(hx:t1*x1+t2*x2+t3*x3+t4*x4=0)(hy:t1*y1+t2*y2+t3*y3+t4*y4=0)
  (hn:¬(t1=0∧t2=0∧t3=0∧t4=0)):∃X Y,∀d:DQ,((pw d x2 y2≤0∧pw d x3 y3≤0∧pw d x4 y4≤0)∨(pw d x1 y1≤0∧pw d x3 y3≤0∧pw d x4 y4≤0)∨(pw d x1 y1≤0∧pw d x2 y2≤0∧pw d x4 y4≤0)∨(pw d x1 y1≤0∧pw d x2 y2≤0∧pw d x3 y3≤0))→pw d X Y≤0:=by
 obtain⟨m1,n1,a1,b1,rfl,c1⟩:=qif t1
 obtain⟨m2,n2,a2,b2,rfl,c2⟩:=qif t2
 obtain⟨m3,n3,a3,b3,rfl,c3⟩:=qif t3
 obtain⟨m4,n4,a4,b4,rfl,c4⟩:=qif t4
 have hM:0<m1+m2+m3+m4:=by
  apply Rat.not_le.1;intro hle
  exact hn ⟨by grind,by grind,by grind,by grind⟩
 have hN:0<n1+n2+n3+n4:=by grind
 have hM0:m1+m2+m3+m4≠0:=by grind
 refine⟨(m1*x1+m2*x2+m3*x3+m4*x4)/(m1+m2+m3+m4),(m1*y1+m2*y2+m3*y3+m4*y4)/(m1+m2+m3+m4),fun d hd=>?_⟩
 have eX:(m1*x1+m2*x2+m3*x3+m4*x4)/(m1+m2+m3+m4)*(m1+m2+m3+m4)=m1*x1+m2*x2+m3*x3+m4*x4:=Rat.div_mul_cancel hM0
 have eY:(m1*y1+m2*y2+m3*y3+m4*y4)/(m1+m2+m3+m4)*(m1+m2+m3+m4)=m1*y1+m2*y2+m3*y3+m4*y4:=Rat.div_mul_cancel hM0
 generalize (m1*x1+m2*x2+m3*x3+m4*x4)/(m1+m2+m3+m4)=X at *
 generalize (m1*y1+m2*y2+m3*y3+m4*y4)/(m1+m2+m3+m4)=Y at *
 have hS:n1+n2+n3+n4=m1+m2+m3+m4:=by grind
 have fX:X*(n1+n2+n3+n4)=n1*x1+n2*x2+n3*x3+n4*x4:=by rw[hS,eX];grind
 have fY:Y*(n1+n2+n3+n4)=n1*y1+n2*y2+n3*y3+n4*y4:=by rw[hS,eY];grind
 have P:=qwn a1 a2 a3 a4 hM eX eY d
 have Q:=qwn b1 b2 b3 b4 hN fX fY d
 rcases hd with⟨p2,p3,p4⟩|⟨p1,p3,p4⟩|⟨p1,p2,p4⟩|⟨p1,p2,p3⟩
 ·rcases c1 with c|c
  ·exact P (.inl c) (.inr p2) (.inr p3) (.inr p4)
  ·exact Q (.inl c) (.inr p2) (.inr p3) (.inr p4)
 ·rcases c2 with c|c
  ·exact P (.inr p1) (.inl c) (.inr p3) (.inr p4)
  ·exact Q (.inr p1) (.inl c) (.inr p3) (.inr p4)
 ·rcases c3 with c|c
  ·exact P (.inr p1) (.inr p2) (.inl c) (.inr p4)
  ·exact Q (.inr p1) (.inr p2) (.inl c) (.inr p4)
 ·rcases c4 with c|c
  ·exact P (.inr p1) (.inr p2) (.inr p3) (.inl c)
  ·exact Q (.inr p1) (.inr p2) (.inr p3) (.inl c)
def qp5(x1 y1 x2 y2 x3 y3:Rat):Rat:=(x2-x1)*(y3-y1)-(x3-x1)*(y2-y1)
theorem qyW(x1 y1 x2 y2 x3 y3 x4 y4:Rat):∃X Y,∀d:DQ,((pw d x2 y2≤0∧pw d x3 y3≤0∧pw d x4 y4≤0)∨(pw d x1 y1≤0∧pw d x3 y3≤0∧pw d x4 y4≤0)∨(pw d x1 y1≤0∧pw d x2 y2≤0∧pw d x4 y4≤0)∨(pw d x1 y1≤0∧pw d x2 y2≤0∧pw d x3 y3≤0))→pw d X Y≤0:=by
 by_cases h:qp5 x2 y2 x3 y3 x4 y4=0∧-qp5 x1 y1 x3 y3 x4 y4=0∧qp5 x1 y1 x2 y2 x4 y4=0∧-qp5 x1 y1 x2 y2 x3 y3=0
 ·by_cases e:x1=x2∧y1=y2
  ·exact qmc (t1:=1) (t2:=-1) (t3:=0) (t4:=0) (by grind) (by grind) (by grind) (by grind)
  ·have hA:(x2-x1)*(y3-y1)-(x3-x1)*(y2-y1)=0:=by have:=h.2.2.2;unfold qp5 at this;grind
   have hD:(x2-x1)*(x2-x1)+(y2-y1)*(y2-y1)≠0:=by
    intro h0
    have s1:=q5r (x2-x1)
    have s2:=q5r (y2-y1)
    have z1:(x2-x1)*(x2-x1)=0:=by grind
    have z2:(y2-y1)*(y2-y1)=0:=by grind
    rcases Rat.mul_eq_zero.1 z1 with h1|h1<;>rcases Rat.mul_eq_zero.1 z2 with h2|h2<;>exact e ⟨by grind,by grind⟩
   have hu:((x3-x1)*(x2-x1)+(y3-y1)*(y2-y1))/((x2-x1)*(x2-x1)+(y2-y1)*(y2-y1))*((x2-x1)*(x2-x1)+(y2-y1)*(y2-y1))=(x3-x1)*(x2-x1)+(y3-y1)*(y2-y1):=Rat.div_mul_cancel hD
   generalize ((x3-x1)*(x2-x1)+(y3-y1)*(y2-y1))/((x2-x1)*(x2-x1)+(y2-y1)*(y2-y1))=u at *
   have cancel:∀z:Rat,z*((x2-x1)*(x2-x1)+(y2-y1)*(y2-y1))=0→z=0:=fun z hz=>by
    rcases Rat.mul_eq_zero.1 hz with h|h
    ·exact h
    ·exact absurd h hD
   have kx:(1-u)*x1+u*x2-x3=0:=cancel _ (by clear h e hD cancel;grind)
   have ky:(1-u)*y1+u*y2-y3=0:=cancel _ (by clear h e hD cancel kx;grind)
   exact qmc (t1:=1-u) (t2:=u) (t3:=-1) (t4:=0) (by grind) (by grind) (by grind) (by grind)
 ·exact qmc (t1:=qp5 x2 y2 x3 y3 x4 y4) (t2:=-qp5 x1 y1 x3 y3 x4 y4) (t3:=qp5 x1 y1 x2 y2 x4 y4) (t4:=-qp5 x1 y1 x2 y2 x3 y3) (by unfold qp5;grind) (by unfold qp5;grind) (by unfold qp5;grind) h
theorem qyq:∀(n:Nat) (l:List DQ),l.length≤n→(∀x∈l,∀y∈l,∀z∈l,qcH [x,y,z])→qcH l
 | _,[],_,_=>⟨0,0,fun d hd=>by cases hd⟩
 | _,[x],_,h=>(h x (by simp) x (by simp) x (by simp)).mono (by simp)
 | _,[x,y],_,h=>(h x (by simp) y (by simp) y (by simp)).mono (by simp)
 | _,[x,y,z],_,h=>(h x (by simp) y (by simp) z (by simp)).mono (by simp)
 | 0,a::b::c::d::r,hl,_=>by simp at hl
 | n+1,a::b::c::d::r,hl,h=>by
  simp only[List.length_cons] at hl
  have sub:∀l':List DQ,(∀x∈l',x∈a::b::c::d::r)→l'.length≤n→qcH l':=fun l' hs hn=>
   qyq n l' hn fun x hx y hy z hz=>h x (hs x hx) y (hs y hy) z (hs z hz)
  obtain⟨x1,y1,p1⟩:=sub (b::c::d::r) (by intro x hx;simp at hx ⊢;grind) (by simp only[List.length_cons];omega)
  obtain⟨x2,y2,p2⟩:=sub (a::c::d::r) (by intro x hx;simp at hx ⊢;grind) (by simp only[List.length_cons];omega)
  obtain⟨x3,y3,p3⟩:=sub (a::b::d::r) (by intro x hx;simp at hx ⊢;grind) (by simp only[List.length_cons];omega)
  obtain⟨x4,y4,p4⟩:=sub (a::b::c::r) (by intro x hx;simp at hx ⊢;grind) (by simp only[List.length_cons];omega)
  obtain⟨X,Y,hX⟩:=qyW x1 y1 x2 y2 x3 y3 x4 y4
  refine⟨X,Y,fun e he=>hX e ?_⟩
  simp only[List.mem_cons] at he
  rcases he with rfl|rfl|rfl|rfl|he
  ·exact .inl ⟨p2 _ (by simp),p3 _ (by simp),p4 _ (by simp)⟩
  ·exact .inr (.inl ⟨p1 _ (by simp),p3 _ (by simp),p4 _ (by simp)⟩)
  ·exact .inr (.inr (.inl ⟨p1 _ (by simp),p2 _ (by simp),p4 _ (by simp)⟩))
  ·exact .inr (.inr (.inr ⟨p1 _ (by simp),p2 _ (by simp),p3 _ (by simp)⟩))
  ·exact .inl ⟨p2 _ (by simp[he]),p3 _ (by simp[he]),p4 _ (by simp[he])⟩
end Go.Eng

namespace Go.Eng
theorem qom{ι:Type}(f:ι→Rat):∀(L:List ι),L≠[]→∃a∈L,∀k∈L,f k≤f a
 | [],h=>absurd rfl h
 | [a],_=>⟨a,by simp,fun k hk=>by simp at hk;rw[hk];exact Rat.le_refl⟩
 | a::b::r,_=>by
  obtain⟨m,hm,h⟩:=qom f (b::r) (by simp)
  rcases Rat.le_total (a:=f a) (b:=f m) with hle|hle
  ·refine⟨m,List.mem_cons_of_mem _ hm,fun k hk=>?_⟩
   rcases List.mem_cons.1 hk with rfl|hk
   ·exact hle
   ·exact h k hk
  ·refine⟨a,List.mem_cons_self,fun k hk=>?_⟩
   rcases List.mem_cons.1 hk with rfl|hk
   ·exact Rat.le_refl
   ·exact Rat.le_trans (h k hk) hle
theorem hit{ι:Type}(al be:ι→Rat):∀(L:List ι),(∀k∈L,al k≤0)→(∃k∈L,0<be k)→∃t,0≤t∧(∀k∈L,al k+be k*t≤0)∧∃b∈L,0<be b∧al b+be b*t=0
 | [],_,h=>by obtain⟨k,hk,_⟩:=h;cases hk
 | a::L,h0,h1=>by
  have hLn:∀k∈L,al k≤0:=fun k hk=>h0 k (List.mem_cons_of_mem _ hk)
  have ha0:=h0 a List.mem_cons_self
  by_cases ha:0<be a
  ·obtain⟨ta,hta⟩:∃ta,ta=-al a/be a:=⟨_,rfl⟩
   have eta:ta*be a=-al a:=by rw[hta];exact Rat.div_mul_cancel (by grind)
   have ta0:0≤ta:=by
    apply Rat.not_lt.1;intro hn
    have:=Rat.mul_pos (show 0 < -ta by grind) ha
    grind
   have own:al a+be a*ta=0:=by grind
   by_cases hL:∃k∈L,0<be k
   ·obtain⟨t,k1,k2,b,hb,k3,k4⟩:=hit al be L hLn hL
    rcases Rat.le_total (a:=t) (b:=ta) with hle|hle
    ·refine⟨t,k1,fun k hk=>?_,b,List.mem_cons_of_mem _ hb,k3,k4⟩
     rcases List.mem_cons.1 hk with rfl|hk
     ·have:=Rat.mul_nonneg (show 0≤be k by grind) (show 0≤ta-t by grind);grind
     ·exact k2 k hk
    ·refine⟨ta,ta0,fun k hk=>?_,a,List.mem_cons_self,ha,own⟩
     rcases List.mem_cons.1 hk with rfl|hk
     ·grind
     ·rcases Rat.le_total (a:=0) (b:=be k) with hb|hb
      ·have:=Rat.mul_nonneg hb (show 0≤t-ta by grind);have:=k2 k hk;grind
      ·have:=Rat.mul_nonneg (show 0≤-be k by grind) ta0;have:=hLn k hk;grind
   ·refine⟨ta,ta0,fun k hk=>?_,a,List.mem_cons_self,ha,own⟩
    rcases List.mem_cons.1 hk with rfl|hk
    ·grind
    ·have hb:be k≤0:=Rat.not_lt.1 fun hn=>hL ⟨k,hk,hn⟩
     have:=Rat.mul_nonneg (show 0≤-be k by grind) ta0;have:=hLn k hk;grind
  ·have hL:∃k∈L,0<be k:=by
    obtain⟨k,hk,h⟩:=h1
    rcases List.mem_cons.1 hk with rfl|hk
    ·exact absurd h ha
    ·exact⟨k,hk,h⟩
   obtain⟨t,k1,k2,b,hb,k3,k4⟩:=hit al be L hLn hL
   refine⟨t,k1,fun k hk=>?_,b,List.mem_cons_of_mem _ hb,k3,k4⟩
   rcases List.mem_cons.1 hk with rfl|hk
   ·have:=Rat.mul_nonneg (show 0≤-be k by grind) k1;grind
   ·exact k2 k hk
theorem qnl{a:Rat}(h:a*a≤0):a=0:=by
 have:=q5r a
 rcases Rat.mul_eq_zero.1 (show a*a=0 by grind) with h|h<;>exact h
theorem qfF{a b c d:Rat}(h:q1X a b c d=0):a=c∧b=d:=by
 unfold q1X at h
 have s1:=q5r (a-c)
 have s2:=q5r (b-d)
 have:=qnl (a:=a-c) (by grind)
 have:=qnl (a:=b-d) (by grind)
 exact⟨by grind,by grind⟩
theorem qre(a b c d:Rat):0≤q1X a b c d:=by
 unfold q1X
 have s1:=q5r (a-c)
 have s2:=q5r (b-d)
 grind
theorem qx0{l:List DQ}{x y:Rat}(hl:l≠[])(hs:∀d∈l,0≤d.s)(h:∀d∈l,pw d x y≤0) :
  (∃a∈l,∀d∈l,pw d a.x a.y≤0)∨∃a∈l,∃b∈l,∃X Y,q1X b.x b.y a.x a.y≠0∧pw b X Y=pw a X Y∧(∀d∈l,pw d X Y≤pw a X Y)∧pw a X Y≤0:=by
 obtain⟨a,ha,hmax⟩:=qom (fun d=>pw d x y) l hl
 by_cases hc:∀d∈l,pw d a.x a.y≤0
 ·exact .inl ⟨a,ha,hc⟩
 ·have hex:∃k∈l,0<pw k a.x a.y:=by
   by_cases hn:∃k∈l,0<pw k a.x a.y
   ·exact hn
   ·exact absurd (fun d hd=>Rat.not_lt.1 fun h0=>hn ⟨d,hd,h0⟩) hc
  obtain⟨k0,hk0,hp⟩:=hex
  have hsa:=hs a ha
  have paa:pw a a.x a.y=-a.s:=by unfold pw;grind
  obtain⟨al,hal⟩:∃al:DQ→Rat,al=fun k=>pw k x y-pw a x y:=⟨_,rfl⟩
  obtain⟨be,hbe⟩:∃be:DQ→Rat,be=fun k=>pw k a.x a.y-pw a a.x a.y-(pw k x y-pw a x y):=⟨_,rfl⟩
  have al0:∀k∈l,al k≤0:=fun k hk=>by rw[hal];have:=hmax k hk;simp only at this ⊢;grind
  have be0:al k0+be k0>0:=by rw[hal,hbe];simp only;grind
  obtain⟨t,t0,ht,b,hb,hb1,hb2⟩:=hit al be l al0 ⟨k0,hk0,by have:=al0 k0 hk0;grind⟩
  have line:∀k,pw k (x+t*(a.x-x)) (y+t*(a.y-y))-pw a (x+t*(a.x-x)) (y+t*(a.y-y))=al k+be k*t:=fun k=>by
   rw[hal,hbe];simp only;unfold pw;grind
  have t1:t≤1:=by
   apply Rat.not_lt.1;intro hn
   have h1:=ht k0 hk0
   have h2:=al0 k0 hk0
   have:=Rat.mul_pos (show 0<be k0 by grind) (show 0<t-1 by grind)
   grind
  refine .inr ⟨a,ha,b,hb,x+t*(a.x-x),y+t*(a.y-y),fun hf=>?_,?_,fun d hd=>?_,?_⟩
  ·obtain⟨e1,e2⟩:=qfF hf
   have:be b=0:=by rw[hbe];simp only;unfold pw;rw[e1,e2];grind
   grind
  ·have:=line b;grind
  ·have:=line d;have:=ht d hd;grind
  ·have h1:=h a ha
   have e:pw a (x+t*(a.x-x)) (y+t*(a.y-y))=(1-t)*(1-t)*((x-a.x)*(x-a.x)+(y-a.y)*(y-a.y))-a.s:=by unfold pw;grind
   have q:0≤(x-a.x)*(x-a.x)+(y-a.y)*(y-a.y):=by have:=q5r (x-a.x);have:=q5r (y-a.y);grind
   have m:=qn4 (a:=1-t) (b:=1) (by grind) (by grind)
   have:=Rat.mul_nonneg (show 0≤1-(1-t)*(1-t) by grind) q
   rw[e]
   have:pw a x y=(x-a.x)*(x-a.x)+(y-a.y)*(y-a.y)-a.s:=rfl
   grind
theorem qkq{a b:DQ}(neg:Bool)(hf:q1X b.x b.y a.x a.y≠0) :
  (qk a b neg).ax*(qk a b neg).ax+(qk a b neg).ay*(qk a b neg).ay=q1X b.x b.y a.x a.y ∧
  (qk a b neg).ax*(b.x-a.x)+(qk a b neg).ay*(b.y-a.y)=0 ∧
  (qk a b neg).ax*((qk a b neg).fx-a.x)+(qk a b neg).ay*((qk a b neg).fy-a.y)=0 ∧
  2*(((qk a b neg).fx-a.x)*(b.x-a.x)+((qk a b neg).fy-a.y)*(b.y-a.y))=q1X b.x b.y a.x a.y+a.s-b.s ∧
  kA a (qk a b neg)=0∧kB a (qk a b neg)=0∧kA b (qk a b neg)=0∧kB b (qk a b neg)=0:=by
 obtain⟨far,hfar⟩:∃far,far=q1X b.x b.y a.x a.y:=⟨_,rfl⟩
 obtain⟨t,ht⟩:∃t,t=(far+a.s-b.s)/(2*far):=⟨_,rfl⟩
 obtain⟨h,hh⟩:∃h,h=a.s/far-t*t:=⟨_,rfl⟩
 rw[←hfar] at hf
 have h2f:2*far≠0:=by grind
 have ht':2*far*t=far+a.s-b.s:=by
  rw[ht,Rat.mul_comm];exact Rat.div_mul_cancel h2f
 have hh':far*h=a.s-far*(t*t):=by
  have:a.s/far*far=a.s:=Rat.div_mul_cancel hf
  rw[hh];grind
 have hc:qk a b neg=⟨a.x+t*(b.x-a.x),a.y+t*(b.y-a.y),if neg then b.y-a.y else 0-(b.y-a.y),if neg then 0-(b.x-a.x) else b.x-a.x,h⟩:=by
  rw[hh,ht,hfar];rfl
 have hfar':far=(b.x-a.x)*(b.x-a.x)+(b.y-a.y)*(b.y-a.y):=hfar
 rw[hc,←hfar]
 unfold kA kB
 clear hc hfar ht hh
 cases neg
 ·simp only[Bool.false_eq_true,if_false]
  refine⟨by grind,by grind,by grind,by grind,by grind,by grind,by grind,by grind⟩
 ·simp only[if_true]
  refine⟨by grind,by grind,by grind,by grind,by grind,by grind,by grind,by grind⟩
theorem qsJ(a b:DQ):(qk a b true).ax=-(qk a b false).ax∧(qk a b true).ay=-(qk a b false).ay:=by
 unfold qk
 simp only[Bool.false_eq_true,if_false,if_true]
 exact⟨by grind,by grind⟩
theorem qoT{l:List DQ}{a b:DQ}{x y:Rat}(neg:Bool)(hf:q1X b.x b.y a.x a.y≠0)(hab:pw b x y=pw a x y)(hm:∀d∈l,pw d x y≤pw a x y)(h0:pw a x y≤0)
  (hv:0≤(qk a b neg).ax*(x-a.x)+(qk a b neg).ay*(y-a.y)) :
  (0≤(qk a b neg).h∧∀d∈l,q0e d (qk a b neg)) ∨
  ∃t k,0≤t∧k∈l∧(qk a b neg).ax*(k.x-a.x)+(qk a b neg).ay*(k.y-a.y)<0∧pw k (x+t*(qk a b neg).ax) (y+t*(qk a b neg).ay)=pw a (x+t*(qk a b neg).ax) (y+t*(qk a b neg).ay) ∧
   pw b (x+t*(qk a b neg).ax) (y+t*(qk a b neg).ay)=pw a (x+t*(qk a b neg).ax) (y+t*(qk a b neg).ay)∧(∀d∈l,pw d (x+t*(qk a b neg).ax) (y+t*(qk a b neg).ay)≤pw a (x+t*(qk a b neg).ax) (y+t*(qk a b neg).ay)) ∧
   pw a (x+t*(qk a b neg).ax) (y+t*(qk a b neg).ay)≤0:=by
 obtain⟨f1,f2,f3,f4,f5,f6,f7,f8⟩:=qkq neg hf
 have hpos:0<q1X b.x b.y a.x a.y:=by have:=qre b.x b.y a.x a.y;grind
 have hfd:q1X b.x b.y a.x a.y=(b.x-a.x)*(b.x-a.x)+(b.y-a.y)*(b.y-a.y):=rfl
 have hax:(qk a b neg).ax=if neg then b.y-a.y else 0-(b.y-a.y):=rfl
 have hay:(qk a b neg).ay=if neg then 0-(b.x-a.x) else b.x-a.x:=rfl
 generalize qk a b neg=p at *
 generalize q1X b.x b.y a.x a.y=far at *
 obtain⟨T0,hT0⟩:∃T0,T0=(p.ax*(x-p.fx)+p.ay*(y-p.fy))/far:=⟨_,rfl⟩
 have eT0:T0*far=p.ax*(x-p.fx)+p.ay*(y-p.fy):=by rw[hT0];exact Rat.div_mul_cancel hf
 have hp:(x-p.fx)*(b.x-a.x)+(y-p.fy)*(b.y-a.y)=0:=by
  unfold pw at hab;grind
 have cancel:∀z:Rat,z*far=0→z=0:=fun z hz=>by
  rcases Rat.mul_eq_zero.1 hz with h|h
  ·exact h
  ·exact absurd h hf
 have ex:x=p.fx+T0*p.ax:=by
  have:x-p.fx-T0*p.ax=0:=cancel _ (by
   have e:(x-p.fx-T0*p.ax)*far=(x-p.fx)*far-p.ax*(T0*far):=by grind
   rw[e,eT0,hfd]
   cases neg
   ·simp only[Bool.false_eq_true,if_false] at hax hay;rw[hax,hay];clear hax hay eT0 hT0 f1 f2 f3 f4 f5 f6 f7 f8 hv hab;grind
   ·simp only[if_true] at hax hay;rw[hax,hay];clear hax hay eT0 hT0 f1 f2 f3 f4 f5 f6 f7 f8 hv hab;grind)
  grind
 have ey:y=p.fy+T0*p.ay:=by
  have:y-p.fy-T0*p.ay=0:=cancel _ (by
   have e:(y-p.fy-T0*p.ay)*far=(y-p.fy)*far-p.ay*(T0*far):=by grind
   rw[e,eT0,hfd]
   cases neg
   ·simp only[Bool.false_eq_true,if_false] at hax hay;rw[hax,hay];clear hax hay eT0 hT0 f1 f2 f3 f4 f5 f6 f7 f8 hv hab ex;grind
   ·simp only[if_true] at hax hay;rw[hax,hay];clear hax hay eT0 hT0 f1 f2 f3 f4 f5 f6 f7 f8 hv hab ex;grind)
  grind
 have T0n:0≤T0:=by
  apply Rat.not_lt.1;intro hn
  have:=Rat.mul_pos (show 0 < -T0 by grind) hpos
  grind
 have line:∀d T,pw d (p.fx+T*p.ax) (p.fy+T*p.ay)=kA d p+kB d p*T+far*(T*T-p.h):=fun d T=>by rw[qtp,f1]
 have lineA:∀T,pw a (p.fx+T*p.ax) (p.fy+T*p.ay)=far*(T*T-p.h):=fun T=>by rw[line,f5,f6];grind
 have lineB:∀T,pw b (p.fx+T*p.ax) (p.fy+T*p.ay)=far*(T*T-p.h):=fun T=>by rw[line,f7,f8];grind
 have at0:∀d∈l,kA d p+kB d p*T0≤0:=fun d hd=>by
  have:=hm d hd
  rw[ex,ey,line,lineA] at this
  grind
 have hT:T0*T0≤p.h:=by
  rw[ex,ey,lineA] at h0
  apply Rat.not_lt.1;intro hn
  have:=Rat.mul_pos hpos (show 0<T0*T0-p.h by grind)
  grind
 have hn:0≤p.h:=by have:=q5r T0;grind
 have kb:∀d:DQ,kB d p=-(2*(p.ax*(d.x-a.x)+p.ay*(d.y-a.y))):=fun d=>by unfold kB;grind
 have all:∀T1,T0≤T1→p.h≤T1*T1→(∀d∈l,kA d p+kB d p*T1≤0)→0≤p.h∧∀d∈l,q0e d p:=fun T1 h1 h2 h3=>
  ⟨hn,fun d hd=>qrO T0n h1 hT h2 (at0 d hd) (h3 d hd)⟩
 by_cases hk:∃k∈l,0<kB k p
 ·obtain⟨t,t0,ht,k,hk,hk1,hk2⟩:=hit (fun d=>kA d p+kB d p*T0) (fun d=>kB d p) l at0 hk
  by_cases hle:(T0+t)*(T0+t)≤p.h
  ·have eX:x+t*p.ax=p.fx+(T0+t)*p.ax:=by grind
   have eY:y+t*p.ay=p.fy+(T0+t)*p.ay:=by grind
   refine .inr ⟨t,k,t0,hk,?_,?_,?_,fun d hd=>?_,?_⟩
   ·rw[kb] at hk1;grind
   ·rw[eX,eY,line,lineA];grind
   ·rw[eX,eY,lineA,lineB]
   ·rw[eX,eY,line,lineA];have:=ht d hd;grind
   ·rw[eX,eY,lineA]
    have:=Rat.mul_nonneg (show 0≤far by grind) (show 0≤p.h-(T0+t)*(T0+t) by grind);grind
  ·exact .inl (all (T0+t) (by grind) (by grind) fun d hd=>by have:=ht d hd;grind)
 ·refine .inl (all (T0+p.h+1) (by grind) ?_ fun d hd=>?_)
  ·have:=qn4 (a:=p.h+1) (b:=T0+p.h+1) (by grind) (by grind)
   have:=Rat.mul_nonneg hn hn
   grind
  ·have h1:kB d p≤0:=Rat.not_lt.1 fun h=>hk ⟨d,hd,h⟩
   have:=Rat.mul_nonneg (show 0≤-kB d p by grind) (show 0≤p.h+1 by grind)
   have:=at0 d hd
   grind
def Vx(l:List DQ)(x y:Rat)(t:DQ×DQ×DQ):Prop:=
 qp5 t.1.x t.1.y t.2.1.x t.2.1.y t.2.2.x t.2.2.y≠0∧pw t.2.1 x y=pw t.1 x y∧pw t.2.2 x y=pw t.1 x y∧(∀d∈l,pw d x y≤pw t.1 x y)∧pw t.1 x y≤0
theorem qwK{l:List DQ}{x y x' y':Rat}{t:DQ×DQ×DQ}(h:Vx l x y t)(h':Vx l x' y' t):x=x'∧y=y':=by
 obtain⟨a,b,c⟩:=t
 obtain⟨hA,h1,h2,-,-⟩:=h
 obtain⟨-,h1',h2',-,-⟩:=h'
 unfold pw qp5 at *
 simp only at *
 have e1:(x-x')*(b.x-a.x)+(y-y')*(b.y-a.y)=0:=by grind
 have e2:(x-x')*(c.x-a.x)+(y-y')*(c.y-a.y)=0:=by grind
 generalize b.x-a.x=p at *
 generalize b.y-a.y=q at *
 generalize c.x-a.x=r at *
 generalize c.y-a.y=s at *
 have k1:(x-x')*(p*s-r*q)=0:=by clear h1 h2 h1' h2' hA;grind
 have k2:(y-y')*(p*s-r*q)=0:=by clear h1 h2 h1' h2' hA;grind
 constructor
 ·rcases Rat.mul_eq_zero.1 k1 with h|h
  ·grind
  ·exact absurd h hA
 ·rcases Rat.mul_eq_zero.1 k2 with h|h
  ·grind
  ·exact absurd h hA
theorem qt5(l:List DQ):∀L:List (DQ×DQ×DQ),(∃t∈L,∃x y,Vx l x y t)→∃t∈L,∃x y,Vx l x y t∧∀t'∈L,∀x' y',Vx l x' y' t'→pw t'.1 x' y'≤pw t.1 x y
 | [],h=>by obtain⟨t,ht,_⟩:=h;cases ht
 | s::L,h=>by
  by_cases hs:∃x y,Vx l x y s
  ·obtain⟨x,y,hs⟩:=hs
   have own:∀x' y',Vx l x' y' s→pw s.1 x' y'≤pw s.1 x y:=fun x' y' h'=>by
    obtain⟨rfl,rfl⟩:=qwK h' hs;exact Rat.le_refl
   by_cases hL:∃t∈L,∃x y,Vx l x y t
   ·obtain⟨t,ht,u,v,hv,hmax⟩:=qt5 l L hL
    rcases Rat.le_total (a:=pw s.1 x y) (b:=pw t.1 u v) with hle|hle
    ·refine⟨t,List.mem_cons_of_mem _ ht,u,v,hv,fun t' ht' x' y' h'=>?_⟩
     rcases List.mem_cons.1 ht' with rfl|ht'
     ·exact Rat.le_trans (own x' y' h') hle
     ·exact hmax t' ht' x' y' h'
    ·refine⟨s,List.mem_cons_self,x,y,hs,fun t' ht' x' y' h'=>?_⟩
     rcases List.mem_cons.1 ht' with rfl|ht'
     ·exact own x' y' h'
     ·exact Rat.le_trans (hmax t' ht' x' y' h') hle
   ·refine⟨s,List.mem_cons_self,x,y,hs,fun t' ht' x' y' h'=>?_⟩
    rcases List.mem_cons.1 ht' with rfl|ht'
    ·exact own x' y' h'
    ·exact absurd ⟨t',ht',x',y',h'⟩ hL
  ·have hL:∃t∈L,∃x y,Vx l x y t:=by
    obtain⟨t,ht,h⟩:=h
    rcases List.mem_cons.1 ht with rfl|ht
    ·exact absurd h hs
    ·exact⟨t,ht,h⟩
   obtain⟨t,ht,u,v,hv,hmax⟩:=qt5 l L hL
   refine⟨t,List.mem_cons_of_mem _ ht,u,v,hv,fun t' ht' x' y' h'=>?_⟩
   rcases List.mem_cons.1 ht' with rfl|ht'
   ·exact absurd ⟨x',y',h'⟩ hs
   ·exact hmax t' ht' x' y' h'
theorem qti{l:List DQ}{x y:Rat}{t:DQ×DQ×DQ}(ht:t.1∈l∧t.2.1∈l∧t.2.2∈l)(hv:Vx l x y t) :
  ∃a∈l,∃b∈l,∃neg,q1X b.x b.y a.x a.y≠0∧pw a x y=pw t.1 x y∧pw b x y=pw a x y∧0≤(qk a b neg).ax*(x-a.x)+(qk a b neg).ay*(y-a.y) ∧
   ∀k∈l,pw k x y=pw a x y→0≤(qk a b neg).ax*(k.x-a.x)+(qk a b neg).ay*(k.y-a.y):=by
 obtain⟨a0,b0,c0⟩:=t
 obtain⟨hA,h1,h2,h3,h4⟩:=hv
 simp only at *
 obtain⟨I,hI⟩:∃I,I=l.filter fun k=>decide (pw k x y=pw a0 x y):=⟨_,rfl⟩
 have memI:∀k,k∈I↔k∈l∧pw k x y=pw a0 x y:=fun k=>by rw[hI];simp
 have ia:a0∈I:=(memI _).2 ⟨ht.1,rfl⟩
 have ib:b0∈I:=(memI _).2 ⟨ht.2.1,h1⟩
 have ic:c0∈I:=(memI _).2 ⟨ht.2.2,h2⟩
 obtain⟨a,haI,hmax⟩:=qom (fun k:DQ=>q1X k.x k.y x y) I (by intro h;rw[h] at ia;cases ia)
 obtain⟨hal,hap⟩:=(memI a).1 haI
 obtain⟨D,hD⟩:∃D:DQ→Rat,D=fun k=>(x-a.x)*(k.x-a.x)+(y-a.y)*(k.y-a.y):=⟨_,rfl⟩
 obtain⟨X,hX⟩:∃X:DQ→Rat,X=fun k=>(x-a.x)*(k.y-a.y)-(y-a.y)*(k.x-a.x):=⟨_,rfl⟩
 obtain⟨J,hJ⟩:∃J,J=I.filter fun k=>decide (q1X k.x k.y a.x a.y≠0):=⟨_,rfl⟩
 have memJ:∀k,k∈J↔k∈I∧q1X k.x k.y a.x a.y≠0:=fun k=>by rw[hJ];simp
 have hDp:∀k∈J,0<D k:=fun k hk=>by
  obtain⟨hk1,hk2⟩:=(memJ k).1 hk
  have e1:=hmax k hk1
  have e2:=qre k.x k.y a.x a.y
  rw[hD]
  simp only at e1 ⊢
  unfold q1X at e1 e2 hk2
  grind
 have hJn:J≠[]:=by
  intro hJ0
  have all:∀k∈I,k.x=a.x∧k.y=a.y:=fun k hk=>by
   by_cases hz:q1X k.x k.y a.x a.y=0
   ·exact qfF hz
   ·have:=(memJ k).2 ⟨hk,hz⟩
    rw[hJ0] at this;cases this
  obtain⟨p1,q1⟩:=all a0 ia
  obtain⟨p2,q2⟩:=all b0 ib
  obtain⟨p3,q3⟩:=all c0 ic
  apply hA
  unfold qp5
  rw[p1,p2,p3,q1,q2,q3];grind
 have slope:∀k b:DQ,0<D k→0<D b→X k/D k≤X b/D b→X k*D b≤X b*D k:=fun k b k0 b0 h=>by
  have e1:X k/D k*D k=X k:=Rat.div_mul_cancel (by grind)
  have e2:X b/D b*D b=X b:=Rat.div_mul_cancel (by grind)
  generalize X k/D k=u at *
  generalize X b/D b=v at *
  have:=Rat.mul_nonneg (show 0≤v-u by grind) (Rat.mul_nonneg (show 0≤D k by grind) (show 0≤D b by grind))
  rw[←e1,←e2];grind
 have lag:∀k b:DQ,((x-a.x)*(x-a.x)+(y-a.y)*(y-a.y))*((k.x-a.x)*(b.y-a.y)-(k.y-a.y)*(b.x-a.x))=D k*X b-X k*D b:=fun k b=>by
  rw[hD,hX];simp only;grind
 have upos:∀b,0<D b→0<(x-a.x)*(x-a.x)+(y-a.y)*(y-a.y):=fun b hb=>by
  apply Rat.not_le.1;intro hn
  have s1:=q5r (x-a.x)
  have s2:=q5r (y-a.y)
  have z1:=qnl (a:=x-a.x) (by grind)
  have z2:=qnl (a:=y-a.y) (by grind)
  rw[hD] at hb;simp only at hb;rw[z1,z2] at hb;grind
 obtain⟨b,hb,hbm⟩:=qom (fun k=>X k/D k) J hJn
 have hbD:=hDp b hb
 obtain⟨hbI,hbf⟩:=(memJ b).1 hb
 obtain⟨hbl,hbp⟩:=(memI b).1 hbI
 have onI:∀k∈l,pw k x y=pw a x y→k∈I:=fun k hk e=>(memI k).2 ⟨hk,by rw[e,hap]⟩
 by_cases hXb:0≤X b
 ·refine⟨a,hal,b,hbl,true,hbf,hap,by rw[hbp,hap],?_,fun k hk hkp=>?_⟩
  ·have e:(qk a b true).ax*(x-a.x)+(qk a b true).ay*(y-a.y)=X b:=by
    rw[hX];unfold qk;simp only[if_true];grind
   rw[e];exact hXb
  ·have e:(qk a b true).ax*(k.x-a.x)+(qk a b true).ay*(k.y-a.y)=(k.x-a.x)*(b.y-a.y)-(k.y-a.y)*(b.x-a.x):=by
    unfold qk;simp only[if_true];grind
   rw[e]
   by_cases hz:q1X k.x k.y a.x a.y=0
   ·obtain⟨z1,z2⟩:=qfF hz
    rw[z1,z2];grind
   ·have hkJ:=(memJ k).2 ⟨onI k hk hkp,hz⟩
    have s:=slope k b (hDp k hkJ) hbD (hbm k hkJ)
    have g:=lag k b
    apply Rat.not_lt.1;intro hn
    have:=Rat.mul_pos (upos b hbD) (show 0 < -((k.x-a.x)*(b.y-a.y)-(k.y-a.y)*(b.x-a.x)) by grind)
    grind
 ·obtain⟨c,hc,hcm⟩:=qom (fun k=>-(X k/D k)) J hJn
  have hcD:=hDp c hc
  obtain⟨hcI,hcf⟩:=(memJ c).1 hc
  obtain⟨hcl,hcp⟩:=(memI c).1 hcI
  have hXc:X c<0:=by
   have s:=slope c b hcD hbD (hbm c hc)
   apply Rat.not_le.1;intro hn
   have m1:=Rat.mul_nonneg hn (show 0≤D b by grind)
   have m2:=Rat.mul_pos (show 0 < -X b by grind) hcD
   grind
  refine⟨a,hal,c,hcl,false,hcf,hap,by rw[hcp,hap],?_,fun k hk hkp=>?_⟩
  ·have e:(qk a c false).ax*(x-a.x)+(qk a c false).ay*(y-a.y)=-X c:=by
    rw[hX];unfold qk;simp only[Bool.false_eq_true,if_false];grind
   rw[e];grind
  ·have e:(qk a c false).ax*(k.x-a.x)+(qk a c false).ay*(k.y-a.y)=-((k.x-a.x)*(c.y-a.y)-(k.y-a.y)*(c.x-a.x)):=by
    unfold qk;simp only[Bool.false_eq_true,if_false];grind
   rw[e]
   by_cases hz:q1X k.x k.y a.x a.y=0
   ·obtain⟨z1,z2⟩:=qfF hz
    rw[z1,z2];grind
   ·have hkJ:=(memJ k).2 ⟨onI k hk hkp,hz⟩
    have hle:=hcm k hkJ
    have s:=slope c k hcD (hDp k hkJ) (by grind)
    have g:=lag k c
    apply Rat.not_lt.1;intro hn
    have:=Rat.mul_pos (upos c hcD) (show 0<(k.x-a.x)*(c.y-a.y)-(k.y-a.y)*(c.x-a.x) by grind)
    grind
theorem qvv{l:List DQ}(hl:l≠[])(hs:∀d∈l,0≤d.s)(hm:qcH l) :
  (∃a∈l,∀d∈l,pw d a.x a.y≤0)∨∃a∈l,∃b∈l,∃neg,q1X b.x b.y a.x a.y≠0∧0≤(qk a b neg).h∧∀d∈l,q0e d (qk a b neg):=by
 obtain⟨x,y,hxy⟩:=hm
 rcases qx0 hl hs hxy with h|⟨a,ha,b,hb,X,Y,hf,hab,hmx,h0⟩
 ·exact .inl h
 ·right
  have vtx:∀{a b k:DQ} {neg:Bool} {X Y:Rat},(qk a b neg).ax*(k.x-a.x)+(qk a b neg).ay*(k.y-a.y)<0→pw k X Y=pw a X Y→pw b X Y=pw a X Y→(∀d∈l,pw d X Y≤pw a X Y)→pw a X Y≤0→Vx l X Y (a,b,k):=by
   intro a b k neg X Y h1 h2 h3 h4 h5
   refine⟨fun hA=>?_,h3,h2,h4,h5⟩
   unfold qp5 at hA
   simp only at hA
   unfold qk at h1
   cases neg
   ·simp only[Bool.false_eq_true,if_false] at h1;grind
   ·simp only[if_true] at h1;grind
  have hneg:∃neg,0≤(qk a b neg).ax*(X-a.x)+(qk a b neg).ay*(Y-a.y):=by
   obtain⟨e1,e2⟩:=qsJ a b
   rcases Rat.le_total (a:=0) (b:=(qk a b false).ax*(X-a.x)+(qk a b false).ay*(Y-a.y)) with h|h
   ·exact⟨false,h⟩
   ·exact⟨true,by rw[e1,e2];grind⟩
  obtain⟨neg,hv⟩:=hneg
  rcases qoT neg hf hab hmx h0 hv with⟨h1,h2⟩|⟨t,k,t0,hk,k1,k2,k3,k4,k5⟩
  ·exact⟨a,ha,b,hb,neg,hf,h1,h2⟩
  ·obtain⟨L,hL⟩:∃L,L=l.flatMap fun a=>l.flatMap fun b=>l.map fun c=>(a,b,c):=⟨_,rfl⟩
   have memL:∀t:DQ×DQ×DQ,t∈L↔t.1∈l∧t.2.1∈l∧t.2.2∈l:=fun t=>by
    obtain⟨a,b,c⟩:=t
    rw[hL];simp only[List.mem_flatMap,List.mem_map,Prod.mk.injEq]
    exact⟨fun⟨a',h1,b',h2,c',h3,e1,e2,e3⟩=>⟨e1▸h1,e2▸h2,e3▸h3⟩,fun⟨h1,h2,h3⟩=>⟨a,h1,b,h2,c,h3,rfl,rfl,rfl⟩⟩
   obtain⟨s,hs,u,v,hV,hmax⟩:=qt5 l L ⟨(a,b,k),(memL _).2 ⟨ha,hb,hk⟩,_,_,vtx k1 k2 k3 k4 k5⟩
   obtain⟨a',ha',b',hb',neg',hf',hp',hab',hv',hact⟩:=qti ((memL s).1 hs) hV
   rcases qoT neg' hf' hab' (fun d hd=>by rw[hp'];exact hV.2.2.2.1 d hd) (by rw[hp'];exact hV.2.2.2.2) hv' with⟨h1,h2⟩|⟨t,k,t0,hk,k1,k2,k3,k4,k5⟩
   ·exact⟨a',ha',b',hb',neg',hf',h1,h2⟩
   ·exfalso
    have hm':=hmax (a',b',k) ((memL _).2 ⟨ha',hb',hk⟩) _ _ (vtx k1 k2 k3 k4 k5)
    simp only at hm'
    rw[←hp'] at hm'
    obtain⟨f1,-⟩:=qkq neg' hf'
    have hpos:0<q1X b'.x b'.y a'.x a'.y:=by have:=qre b'.x b'.y a'.x a'.y;grind
    generalize qk a' b' neg'=p at *
    have t1:0<t:=by
     apply Rat.not_le.1;intro hn
     have:t=0:=by grind
     rw[this] at k2
     have e1:u+0*p.ax=u:=by grind
     have e2:v+0*p.ay=v:=by grind
     rw[e1,e2] at k2
     have:=hact k hk k2
     grind
    have e:pw a' (u+t*p.ax) (v+t*p.ay)=pw a' u v+2*(t*(p.ax*(u-a'.x)+p.ay*(v-a'.y)))+t*t*(p.ax*p.ax+p.ay*p.ay):=by unfold pw;grind
    rw[e,f1] at hm'
    have m1:=Rat.mul_nonneg t0 hv'
    have m2:=Rat.mul_pos (Rat.mul_pos t1 t1) hpos
    grind
end Go.Eng

namespace Go.Eng
def cls(q:Rat):Prop:=(qn q≤12∧q.den=1)∨(qn q≤10∧qd q≤10)
def qyQ(q:Rat):Prop:=qn q≤13∧qd q≤10
structure GD (d:DQ):Prop where
 x:cls d.x
 y:cls d.y
 s:qyQ d.s
 nn:0≤d.s
theorem Bd.of_nl{m:Int}{k:Nat}(h:nl m≤k):Bd 1 k m:=by
 unfold Bd
 have:=qyu h
 omega
theorem Bd.of_le{C e:Nat}{x y:Int}(h:Bd C e y)(hxy:x.natAbs≤y.natAbs):Bd C e x:=Nat.le_trans hxy h
theorem qlk{q:Rat}(h:cls q):∃u v,Wt u v q∧((u=12∧v=0)∨(u=10∧v=10)):=by
 rcases h with⟨h1,h2⟩|⟨h1,h2⟩
 ·refine⟨12,0,⟨Bd.of_nl h1,?_,?_⟩,.inl ⟨rfl,rfl⟩⟩
  ·unfold Bd;rw[h2];decide
  ·unfold Bd;rw[h2];decide
 ·exact⟨10,10,⟨Bd.of_nl h1,Bd.of_nl (m:=(q.den:Int)) h2,Bd.of_nl (m:=(q.den:Int)) h2⟩,.inr ⟨rfl,rfl⟩⟩
theorem qyB{q:Rat}(h:cls q):qyQ q:=by
 rcases h with⟨h1,h2⟩|⟨h1,h2⟩
 ·exact⟨by omega,by unfold qd;rw[h2];decide⟩
 ·exact⟨by omega,h2⟩
theorem qqi{q:Rat}(h:qyQ q):∃u v,Wt u v q∧u=13∧v=10:=
 ⟨13,10,⟨Bd.of_nl h.1,Bd.of_nl (m:=(q.den:Int)) h.2,(Bd.of_nl (m:=(q.den:Int)) h.2).mono (by omega) (by omega)⟩,rfl,rfl⟩
theorem zQ{q:Rat}(h:cls q):bnd 12 10 q:=by
 rcases h with⟨h1,h2⟩|⟨h1,h2⟩
 ·exact⟨h1,by unfold qd;rw[h2];decide⟩
 ·exact⟨by omega,h2⟩
theorem q3Q{q:Rat}(h:qyQ q):bnd 13 10 q:=h
theorem GD.sh{d:DQ}(h:GD d):d.sh:=⟨zQ h.x,zQ h.y,q3Q h.s⟩
theorem qqg{q:Rat}(h:shT (tQ q)):cls q:=by
 unfold shT at h
 obtain⟨h1,h2⟩:=qeV q
 have h3:=qhx q
 have h4:=qnA q
 rcases h2 with h2|h2
 ·exact .inl ⟨by omega,h2⟩
 ·exact .inr ⟨by omega,by omega⟩
theorem qs8{a b d:DQ}(ga:GD a)(gb:GD b)(gd:GD d)(neg:Bool)(hf:(b.x-a.x)*(b.x-a.x)+(b.y-a.y)*(b.y-a.y)≠0)(oa:okQ (kA d (qk a b neg)))(ob:okQ (kB d (qk a b neg)))(oc:okQ (qk a b neg).h) :
  RootOk (kA d (qk a b neg)) (kB d (qk a b neg)) (qk a b neg).h:=by
 obtain⟨f1,f2,f3,f4⟩:=qpA a b d neg hf
 generalize kA d (qk a b neg)=A at *
 generalize kB d (qk a b neg)=B at *
 generalize (qk a b neg).h=H at *
 obtain⟨hx1,vx1,wx1,ex1⟩:=qlk ga.x
 obtain⟨hy1,vy1,wy1,ey1⟩:=qlk ga.y
 obtain⟨hs1,vs1,ws1,es1⟩:=qqi ga.s
 obtain⟨hx2,vx2,wx2,ex2⟩:=qlk gb.x
 obtain⟨hy2,vy2,wy2,ey2⟩:=qlk gb.y
 obtain⟨hs2,vs2,ws2,es2⟩:=qqi gb.s
 obtain⟨hx3,vx3,wx3,ex3⟩:=qlk gd.x
 obtain⟨hy3,vy3,wy3,ey3⟩:=qlk gd.y
 obtain⟨hs3,vs3,ws3,es3⟩:=qqi gd.s
 have k1:8*hx1+vx1≤96∧14*hx1+4*vx1≤180:=by omega
 have k2:8*hy1+vy1≤96∧14*hy1+4*vy1≤180:=by omega
 have k3:7*hx2+vx2≤84∧14*hx2+2*vx2≤168:=by omega
 have k4:7*hy2+vy2≤84∧14*hy2+2*vy2≤168:=by omega
 have k5:2*hx3+vx3≤30∧2*hx3+4*vx3≤60:=by omega
 have k6:2*hy3+vy3≤30∧2*hy3+4*vy3≤60:=by omega
 have k7:hs1+2*vs1≤33∧2*hs1+4*vs1≤66:=by omega
 have k8:hs2+2*vs2≤33∧2*hs2+4*vs2≤66:=by omega
 have k9:hs3≤13∧vs3≤10:=by omega
 clear ex1 ey1 es1 ex2 ey2 es2 ex3 ey3 es3
 have p0:∀q:Rat,(q.den:Int)≠0:=fun q=>by have:=qwc q;omega
 have hM:iM a.x.num a.x.den a.y.num a.y.den a.s.den b.x.num b.x.den b.y.num b.y.den b.s.den d.x.den d.y.den d.s.den≠0:=by
  unfold iM iSq
  have:=p0 a.x;have:=p0 a.y;have:=p0 a.s;have:=p0 b.x;have:=p0 b.y;have:=p0 b.s;have:=p0 d.x;have:=p0 d.y;have:=p0 d.s
  exact Int.mul_ne_zero (Int.mul_ne_zero (Int.mul_ne_zero f4 (Int.mul_ne_zero (Int.mul_ne_zero ‹_› ‹_›) ‹_›)) (Int.mul_ne_zero (Int.mul_ne_zero (Int.mul_ne_zero ‹_› ‹_›) (Int.mul_ne_zero ‹_› ‹_›)) (Int.mul_ne_zero (Int.mul_ne_zero ‹_› ‹_›) (Int.mul_ne_zero ‹_› ‹_›)))) (Int.mul_ne_zero ‹_› ‹_›)
 have hQ:iQ a.x.den a.y.den b.x.den b.y.den d.x.den d.y.den≠0:=by
  unfold iQ
  exact Int.mul_ne_zero (Int.mul_ne_zero (Int.mul_ne_zero (p0 _) (p0 _)) (p0 _)) (Int.mul_ne_zero (Int.mul_ne_zero (p0 _) (p0 _)) (p0 _))
 have hC:iCd a.x.num a.x.den a.y.num a.y.den a.s.den b.x.num b.x.den b.y.num b.y.den b.s.den≠0:=by
  unfold iCd
  exact Int.mul_ne_zero (Int.mul_ne_zero (by omega) (Int.mul_ne_zero f4 f4)) (Int.mul_ne_zero (Int.mul_ne_zero (p0 _) (p0 _)) (Int.mul_ne_zero (p0 _) (p0 _)))
 obtain⟨g1,g2⟩:=qik hM f1
 obtain⟨g3,g4⟩:=qik hQ f2
 obtain⟨g5,g6⟩:=qik hC f3
 have b1:=(bA wx1.n wx1.dh wy1.n wy1.dh wx2.n wx2.dh wy2.n wy2.dh wx3.n wx3.dh wy3.n wy3.dh ws1.n ws1.dh ws2.n ws2.dh ws3.n ws3.dh).of_le (x:=A.num) g1
 have b2:=(bM wx1.n wx1.dh wy1.n wy1.dh wx2.n wx2.dh wy2.n wy2.dh wx1.d wy1.d wx2.d wy2.d wx3.d wy3.d ws1.d ws2.d ws3.d).of_le (x:=(A.den:Int)) g2
 have b3:Bd 16 (hx1+hx2+hx3+hy1+hy2+hy3) B.num:=by
  refine(bK wx1.n wx1.dh wy1.n wy1.dh wx2.n wx2.dh wy2.n wy2.dh wx3.n wx3.dh wy3.n wy3.dh).of_le (Nat.le_trans g3 ?_)
  rw[Int.natAbs_mul]
  cases neg<;>simp
 have b4:=(bQ wx1.d wy1.d wx2.d wy2.d wx3.d wy3.d).of_le (x:=(B.den:Int)) g4
 have b5:=(bCn wx1.n wx1.dh wy1.n wy1.dh wx2.n wx2.dh wy2.n wy2.dh ws1.n ws1.dh ws2.n ws2.dh).of_le (x:=H.num) g5
 have b6:=(bCd wx1.n wx1.dh wy1.n wy1.dh wx2.n wx2.dh wy2.n wy2.dh ws1.d ws2.d).of_le (x:=(H.den:Int)) g6
 have X1:=b1.mul b4
 have X:Bd 40960 500 (rX A B H):=(X1.mul b6).mono (by omega) (by omega)
 have Y:=b3.mul b2
 have R:=b5.mul b6
 have XX:=(X.mul X).mono (C':=1677721600) (e':=1000) (by omega) (by omega)
 have YY:=Y.mul Y
 have YR:=(YY.mul R).mono (C':=553648128) (e':=972) (by omega) (by omega)
 have c10:(1000000000:Nat)≤10^9:=by decide
 exact { oa:=oa,ob:=ob,oc:=oc,x1:=X1.okL (k:=9) (by omega) (by omega) (by omega),x:=X.okL (k:=9) (by omega) (by omega) (by omega),y:=Y.okL (k:=9) (by omega) (by omega) (by omega),r:=R.okL (k:=9) (by omega) (by omega) (by omega),xx:=XX.okL (k:=10) (by decide) (by omega) (by omega),yy:=YY.okL (k:=9) (by omega) (by omega) (by omega),yr:=YR.okL (k:=9) (by omega) (by omega) (by omega),d:=((XX.mono (C':=1677721600) (e':=1000) (by omega) (by omega)).sub (YR.mono (C':=553648128) (e':=1000) (by omega) (by omega))).okL (k:=10) (by decide) (by omega) (by omega) }
end Go.Eng

namespace Go.Eng
theorem qzc{far c:Rat}(h0:far≠0)(hf:bnd 87 80 far)(hc:bnd 24 20 c):bnd 108 108 ((far+c)/(2*far)):=by
 have hn:far.num≠0:=fun h=>h0 (Rat.num_eq_zero.1 h)
 have hm:2*(far.num*(c.den:Int))≠0:=by
  have:=qwc c
  exact Int.mul_ne_zero (by omega) (Int.mul_ne_zero hn (by omega))
 have h2f:2*far≠0:=by grind
 have key:(far+c)/(2*far)*((2*(far.num*(c.den:Int)):Int):Rat)=((far.num*(c.den:Int)+c.num*(far.den:Int):Int):Rat):=by
  have e1:=qbf far
  have e2:=qbf c
  have e3:(far+c)/(2*far)*(2*far)=far+c:=Rat.div_mul_cancel h2f
  have f2:((2:Int):Rat)=2:=by simp
  simp only[Rat.intCast_add,Rat.intCast_mul,Rat.intCast_natCast,e1,e2,f2]
  generalize (far+c)/(2*far)=q at *
  generalize (far.den:Rat)=fd at *
  generalize (c.den:Rat)=cd at *
  have e4:q*(2*(far*fd*cd))=q*(2*far)*(fd*cd):=by grind
  rw[e4,e3];grind
 obtain⟨k1,k2⟩:=qik hm key
 have g1:=qjS k1
 have g2:=quR k2
 have a1:=qou (far.num*(c.den:Int)) (c.num*(far.den:Int))
 have a2:=q2u far.num (c.den:Int)
 have a3:=q2u c.num (far.den:Int)
 have a4:=q2u 2 (far.num*(c.den:Int))
 have a5:nl 2=1:=by decide
 have a6:dl (2*(far.num*(c.den:Int))).natAbs=nl (2*(far.num*(c.den:Int))):=rfl
 have b1:nl far.num≤87:=hf.1
 have b2:nl (far.den:Int)≤80:=hf.2
 have b3:nl c.num≤24:=hc.1
 have b4:nl (c.den:Int)≤20:=hc.2
 refine⟨?_,?_⟩
 ·show nl _≤108
  omega
 ·show dl _≤108
  omega
structure PB (p:SQ):Prop where
 fx:bnd 142 138 p.fx
 fy:bnd 142 138 p.fy
 ax:bnd 23 20 p.ax
 ay:bnd 23 20 p.ay
 h:bnd 314 313 p.h
theorem qzh(a:Rat):0-a=-a:=by grind
theorem quF{a b:DQ}(ga:GD a)(gb:GD b)(hf:q1X b.x b.y a.x a.y≠0):bnd 108 108 ((q1X b.x b.y a.x a.y+a.s-b.s)/(2*q1X b.x b.y a.x a.y)):=by
 rw[show q1X b.x b.y a.x a.y+a.s-b.s=q1X b.x b.y a.x a.y+(a.s-b.s) by grind]
 exact qzc hf (qiR (zQ gb.x) (zQ gb.y) (zQ ga.x) (zQ ga.y)) ((q3Q ga.s).sub (q3Q gb.s) (by omega) (by omega))
theorem qgc(a b:DQ)(neg:Bool):qk a b neg=⟨a.x+(q1X b.x b.y a.x a.y+a.s-b.s)/(2*q1X b.x b.y a.x a.y)*(b.x-a.x),a.y+(q1X b.x b.y a.x a.y+a.s-b.s)/(2*q1X b.x b.y a.x a.y)*(b.y-a.y),if neg then b.y-a.y else 0-(b.y-a.y),if neg then 0-(b.x-a.x) else b.x-a.x,a.s/q1X b.x b.y a.x a.y-(q1X b.x b.y a.x a.y+a.s-b.s)/(2*q1X b.x b.y a.x a.y)*((q1X b.x b.y a.x a.y+a.s-b.s)/(2*q1X b.x b.y a.x a.y))⟩:=rfl
theorem qeY{a b:DQ}(ga:GD a)(gb:GD b)(neg:Bool)(hf:q1X b.x b.y a.x a.y≠0):PB (qk a b neg):=by
 have dx:=q56 (zQ gb.x) (zQ ga.x)
 have dy:=q56 (zQ gb.y) (zQ ga.y)
 have far:=qiR (zQ gb.x) (zQ gb.y) (zQ ga.x) (zQ ga.y)
 have ht:=quF ga gb hf
 rw[qgc]
 have nx:bnd 23 20 (0-(b.x-a.x)):=by rw[qzh];exact dx.neg
 have ny:bnd 23 20 (0-(b.y-a.y)):=by rw[qzh];exact dy.neg
 have hh:=((q3Q ga.s).div hf far).sub (ht.mul ht) (K:=314) (by omega) (by omega)
 have hx:=(zQ ga.x).add (ht.mul dx) (K:=142) (by omega) (by omega)
 have hy:=(zQ ga.y).add (ht.mul dy) (K:=142) (by omega) (by omega)
 exact⟨hx,hy,by cases neg<;>assumption,by cases neg<;>assumption,hh⟩
theorem PB.m{p:SQ}{d:DQ}(hp:PB p)(gd:GD d):bnd 153 148 (p.fx-d.x)∧bnd 153 148 (p.fy-d.y):=
 ⟨hp.fx.sub (zQ gd.x) (by omega) (by omega),hp.fy.sub (zQ gd.y) (by omega) (by omega)⟩
theorem PB.mm{p:SQ}{d:DQ}(hp:PB p)(gd:GD d):bnd 603 592 ((p.fx-d.x)*(p.fx-d.x)+(p.fy-d.y)*(p.fy-d.y)):=
 qnj (hp.m gd).1 (hp.m gd).2 (hp.m gd).1 (hp.m gd).2
theorem PB.aa{p:SQ}(hp:PB p):bnd 87 80 (p.ax*p.ax+p.ay*p.ay):=qnj hp.ax hp.ay hp.ax hp.ay
theorem PB.ha{p:SQ}(hp:PB p):bnd 401 393 (p.h*(p.ax*p.ax+p.ay*p.ay)):=hp.h.mul hp.aa
theorem PB.x{p:SQ}{d:DQ}(hp:PB p)(gd:GD d):bnd 997 985 ((p.fx-d.x)*(p.fx-d.x)+(p.fy-d.y)*(p.fy-d.y)+p.h*(p.ax*p.ax+p.ay*p.ay)):=
 (hp.mm gd).add hp.ha (by omega) (by omega)
theorem PB.ma{p:SQ}{d:DQ}(hp:PB p)(gd:GD d):bnd 345 336 ((p.fx-d.x)*p.ax+(p.fy-d.y)*p.ay):=
 qnj (hp.m gd).1 (hp.m gd).2 hp.ax hp.ay
theorem PB.kA{p:SQ}{d:DQ}(hp:PB p)(gd:GD d):bnd 1008 995 (kA d p):=(hp.x gd).sub (q3Q gd.s) (by omega) (by omega)
theorem PB.kB{p:SQ}{d:DQ}(hp:PB p)(gd:GD d):bnd 346 337 (kB d p):=qkb.mul (hp.ma gd)
structure PG (p:SQ):Prop where
 pb:PB p
 nn:0≤p.h
 root:∀d,GD d→RootOk (kA d p) (kB d p) p.h
theorem qvD{a b:DQ}(ga:GD a)(gb:GD b)(neg:Bool)(hf:q1X b.x b.y a.x a.y≠0)(hn:0≤(qk a b neg).h):PG (qk a b neg):=
 ⟨qeY ga gb neg hf,hn,fun _ gd=>qs8 ga gb gd neg hf (((qeY ga gb neg hf).kA gd).ok (by omega) (by omega)) (((qeY ga gb neg hf).kB gd).ok (by omega) (by omega)) ((qeY ga gb neg hf).h.ok (by omega) (by omega))⟩
theorem qxY{a:DQ}(ga:GD a):PG ⟨a.x,a.y,0,0,0⟩:=by
 refine⟨⟨(zQ ga.x).mono (by omega) (by omega),(zQ ga.y).mono (by omega) (by omega),q4V.mono (by omega) (by omega),q4V.mono (by omega) (by omega),q4V.mono (by omega) (by omega)⟩,Rat.le_refl,fun d gd=>?_⟩
 have e1:Go.Eng.kA d ⟨a.x,a.y,0,0,0⟩=q1X a.x a.y d.x d.y-d.s:=by unfold Go.Eng.kA q1X;grind
 have e2:Go.Eng.kB d ⟨a.x,a.y,0,0,0⟩=0:=by unfold Go.Eng.kB;grind
 rw[e1,e2]
 have f1:bnd 98 90 (q1X a.x a.y d.x d.y-d.s):=(qiR (zQ ga.x) (zQ ga.y) (zQ gd.x) (zQ gd.y)).sub (q3Q gd.s) (by omega) (by omega)
 exact RootOk.of f1 q4V q4V (by omega) (by omega)
theorem qt1{d:DQ}{p:SQ}(gd:GD d)(hp:PG p) :
  (ji [.s (tQ d.x),.s (tQ d.y),.s (tQ d.s),.s (tQ p.fx),.s (tQ p.fy),.s (tQ p.ax),.s (tQ p.ay),.s (tQ p.h),.i 0]).run=some (0,[.b (decide (q0e d p)),.i 0]):=by
 rw[qez]
 have hr:=qt9 (hp.root d gd) hp.nn
 obtain⟨hp,-,-⟩:=hp
 obtain⟨m1,m2⟩:=hp.m gd
 have h0:=qtv hp.fx hp.fy (zQ gd.x) (zQ gd.y) (by omega) (by omega) (by omega)
 have h1:=qu9 m1 m2 m1 m2 (by omega) (by omega)
 have h2:=qu9 hp.ax hp.ay hp.ax hp.ay (by omega) (by omega)
 have h3:=qmN hp.h hp.aa (by omega) (by omega)
 have h4:=qsv (hp.mm gd) hp.ha (by omega) (by omega) (by omega)
 have h5:=qms (hp.x gd) (q3Q gd.s) (by omega) (by omega) (by omega)
 have h6:=qu9 m1 m2 hp.ax hp.ay (by omega) (by omega)
 have h7:=qmN qkb (hp.ma gd) (by omega) (by omega)
 rw[qu6] at h7
 have e:q0e d p=(qar (Go.Eng.kA d p) (Go.Eng.kB d p) p.h≤0):=rfl
 unfold Go.Eng.kA Go.Eng.kB at hr e
 simp only[STD,h0,h1,h2,h3,h4,h5,h6,h7,hr,e]
 rfl
def qbq(d:DQ):List U:=[.s (tQ d.x),.s (tQ d.y),.s (tQ d.s)]
def rD(l:List DQ):R:=l.map qbq
def ix(l:List DQ)(i:Nat):DQ:=l.getD i ⟨0,0,0⟩
theorem zp(l:List DQ):qt (rD l)=(l.length:Int):=by simp[qt,rD]
theorem qkC{l:List DQ}{i:Nat}(h:i<l.length):cS (rD l) (i:Int) 0=tQ (ix l i).x∧cS (rD l) (i:Int) 1=tQ (ix l i).y∧cS (rD l) (i:Int) 2=tQ (ix l i).s:=by
 unfold cS ve rD ix
 simp[List.getD_eq_getElem?_getD,h,qbq,U.toS]
theorem q60{l:List DQ}{i:Nat}(h:i<l.length):ix l i∈l:=by
 unfold ix
 simp[List.getD_eq_getElem?_getD,h]
def q8s(a b:DQ)(same:Bool)(side:Int):Option SQ:=
 if same then (if side=0 then some ⟨a.x,a.y,0,0,0⟩ else none)
 else if q1X b.x b.y a.x a.y=0 then none
 else if 0≤(qk a b (decide (side<0))).h∧((qk a b (decide (side<0))).h=0↔side=0) then some (qk a b (decide (side<0))) else none
theorem qvc{a b:DQ}(ga:GD a)(gb:GD b){same:Bool}{side:Int}{p:SQ}(h:q8s a b same side=some p):PG p:=by
 unfold q8s at h
 split at h
 ·split at h
  ·cases h;exact qxY ga
  ·cases h
 ·split at h
  ·cases h
  ·rename_i hf
   split at h
   ·rename_i hc
    cases h;exact qvD ga gb _ hf hc.1
   ·cases h
def q24(l:List DQ)(i j:Nat)(side:Int):Bool:=
 match q8s (ix l i) (ix l j) (decide (i=j)) side with
 | none=>false
 | some p=>l.all fun d=>decide (q0e d p)
def qje(l:List DQ)(i j:Nat)(side:Int):Option (Nat×Nat×Int):=if q24 l i j side then some (i,j,side) else none
def qbl(l:List DQ)(i j:Nat):Option (Nat×Nat×Int):=
 match qje l i j 0 with
 | some w=>some w
 | none=>match qje l i j 1 with
  | some w=>some w
  | none=>qje l i j (-1)
def yx(l:List DQ):Option (Nat×Nat×Int):=
 match q1e (fun i=>qje l i i 0) 0 l.length with
 | some w=>some w
 | none=>q1e (fun i=>q1e (fun k=>qbl l i (i+1+k)) 0 (l.length-(i+1))) 0 l.length
end Go.Eng

namespace Go.Eng
theorem qsH(d a:DQ):q0e d ⟨a.x,a.y,0,0,0⟩↔pw d a.x a.y≤0:=by
 have e1:kA d ⟨a.x,a.y,0,0,0⟩=pw d a.x a.y:=by unfold kA pw;grind
 have e2:kB d ⟨a.x,a.y,0,0,0⟩=0:=by unfold kB;grind
 unfold q0e
 rw[e1,e2]
 simp only[qll,qcO]
theorem qo9{d:DQ}{p q:SQ}(hA:kA d p=kA d q)(hB:kB d p=kB d q)(hh:p.h=q.h):q0e d p↔q0e d q:=by
 unfold q0e;rw[hA,hB,hh]
theorem qjo{d:DQ}{p:SQ}(hh:p.h=0):q0e d p↔kA d p≤0:=by
 unfold q0e
 rw[hh,qie (by grind)]
 constructor
 ·rintro (⟨h,-⟩|⟨h1,h2,h3⟩)
  ·exact h
  ·have:=Rat.mul_pos h1 h1;grind
 ·intro h;exact .inl ⟨h,.inr (.inl rfl)⟩
theorem qsn{a b:DQ}(neg:Bool)(hf:q1X b.x b.y a.x a.y≠0) :
  (qk b a (!neg)).fx=(qk a b neg).fx∧(qk b a (!neg)).fy=(qk a b neg).fy∧(qk b a (!neg)).ax=(qk a b neg).ax∧(qk b a (!neg)).ay=(qk a b neg).ay∧(qk b a (!neg)).h=(qk a b neg).h:=by
 have hsw:q1X a.x a.y b.x b.y=q1X b.x b.y a.x a.y:=by unfold q1X;grind
 rw[qgc,qgc,hsw]
 generalize q1X b.x b.y a.x a.y=far at *
 have h2f:2*far≠0:=by grind
 have h1:(far+b.s-a.s)/(2*far)*(2*far)=far+b.s-a.s:=Rat.div_mul_cancel h2f
 have h2:(far+a.s-b.s)/(2*far)*(2*far)=far+a.s-b.s:=Rat.div_mul_cancel h2f
 have h3:a.s/far*far=a.s:=Rat.div_mul_cancel hf
 have h4:b.s/far*far=b.s:=Rat.div_mul_cancel hf
 generalize (far+b.s-a.s)/(2*far)=u at *
 generalize (far+a.s-b.s)/(2*far)=t at *
 generalize a.s/far=p at *
 generalize b.s/far=q at *
 have cancel:∀z:Rat,z*far=0→z=0:=fun z hz=>by
  rcases Rat.mul_eq_zero.1 hz with h|h
  ·exact h
  ·exact absurd h hf
 have hu:u=1-t:=by
  have:=cancel (u-(1-t)) (by grind)
  grind
 have hpq:q=p-t*t+(1-t)*(1-t):=by
  have:=cancel (q-(p-t*t+(1-t)*(1-t))) (by grind)
  grind
 simp only
 refine⟨by rw[hu];grind,by rw[hu];grind,?_,?_,by rw[hu,hpq];grind⟩
 ·cases neg<;>simp only[Bool.not_false,Bool.not_true,Bool.false_eq_true,if_false,if_true]<;>grind
 ·cases neg<;>simp only[Bool.not_false,Bool.not_true,Bool.false_eq_true,if_false,if_true]<;>grind
theorem q5v{l:List DQ}{d:DQ}(h:d∈l):∃i,i<l.length∧ix l i=d:=by
 obtain⟨i,hi,e⟩:=List.getElem_of_mem h
 exact⟨i,hi,by unfold ix;simp[List.getD_eq_getElem?_getD,hi,e]⟩
def Wit(l:List DQ):Prop:=(∃i,i<l.length∧q24 l i i 0=true)∨∃i j side,i<j∧j<l.length∧(side=0∨side=1∨side=-1)∧q24 l i j side=true
theorem q9j{l:List DQ}{i j:Nat}{side:Int}:q24 l i j side=true↔∃p,q8s (ix l i) (ix l j) (decide (i=j)) side=some p∧∀d∈l,q0e d p:=by
 unfold q24
 cases h:q8s (ix l i) (ix l j) (decide (i=j)) side with
 | none=>simp
 | some p=>simp
theorem qv8{a b:DQ}{same:Bool}{side:Int}{p:SQ}(h:q8s a b same side=some p):0≤p.h:=by
 unfold q8s at h
 split at h
 ·split at h
  ·cases h;exact Rat.le_refl
  ·cases h
 ·split at h
  ·cases h
  ·split at h
   ·rename_i hc
    cases h;exact hc.1
   ·cases h
theorem qkV{l:List DQ}{i j:Nat}{side:Int}(h:q24 l i j side=true):qcH l:=by
 obtain⟨p,h1,h2⟩:=q9j.1 h
 exact qm7 (qv8 h1) h2
theorem qpR{l:List DQ}(hl:l≠[])(hs:∀d∈l,0≤d.s)(hm:qcH l):Wit l:=by
 rcases qvv hl hs hm with⟨a,ha,h⟩|⟨a,ha,b,hb,neg,hf,h0,hk⟩
 ·obtain⟨i,hi,rfl⟩:=q5v ha
  refine .inl ⟨i,hi,q9j.2 ⟨⟨(ix l i).x,(ix l i).y,0,0,0⟩,?_,fun d hd=>(qsH d _).2 (h d hd)⟩⟩
  unfold q8s;simp
 ·have main:∀(i j:Nat) (neg:Bool),i<j→j<l.length→q1X (ix l j).x (ix l j).y (ix l i).x (ix l i).y≠0→0≤(qk (ix l i) (ix l j) neg).h→(∀d∈l,q0e d (qk (ix l i) (ix l j) neg))→Wit l:=by
   intro i j neg hij hj hf h0 hk
   by_cases hz:(qk (ix l i) (ix l j) neg).h=0
   ·have hz':(qk (ix l i) (ix l j) false).h=0:=hz
    refine .inr ⟨i,j,0,hij,hj,.inl rfl,q9j.2 ⟨qk (ix l i) (ix l j) false,?_,fun d hd=>?_⟩⟩
    ·unfold q8s
     rw[if_neg (by simp;omega),if_neg hf]
     simp[hz']
    ·have:=(qjo hz).1 (hk d hd)
     rw[qjo hz']
     have e:kA d (qk (ix l i) (ix l j) false)=kA d (qk (ix l i) (ix l j) neg):=by
      unfold kA;rw[hz,hz']
      have e1:(qk (ix l i) (ix l j) false).fx=(qk (ix l i) (ix l j) neg).fx:=rfl
      have e2:(qk (ix l i) (ix l j) false).fy=(qk (ix l i) (ix l j) neg).fy:=rfl
      rw[e1,e2];grind
     rw[e];exact this
   ·cases neg
    ·refine .inr ⟨i,j,1,hij,hj,.inr (.inl rfl),q9j.2 ⟨qk (ix l i) (ix l j) false,?_,hk⟩⟩
     unfold q8s
     rw[if_neg (by simp;omega),if_neg hf]
     simp[hz,h0]
    ·refine .inr ⟨i,j,-1,hij,hj,.inr (.inr rfl),q9j.2 ⟨qk (ix l i) (ix l j) true,?_,hk⟩⟩
     unfold q8s
     rw[if_neg (by simp;omega),if_neg hf]
     simp[hz,h0]
  obtain⟨i,hi,rfl⟩:=q5v ha
  obtain⟨j,hj,rfl⟩:=q5v hb
  rcases Nat.lt_trichotomy i j with hij|rfl|hij
  ·exact main i j neg hij hj hf h0 hk
  ·exact absurd (by unfold q1X;grind) hf
  ·obtain⟨e1,e2,e3,e4,e5⟩:=qsn neg hf
   refine main j i (!neg) hij hi ?_ (by rw[e5];exact h0) fun d hd=>?_
   ·intro h;apply hf;unfold q1X at *;grind
   ·refine(qo9 ?_ ?_ e5).2 (hk d hd)
    ·unfold kA;rw[e1,e2,e3,e4,e5]
    ·unfold kB;rw[e1,e2,e3,e4]
theorem qg8{l:List DQ}{i j:Nat}{side:Int}{w:Nat×Nat×Int}(h:qje l i j side=some w):w=(i,j,side)∧q24 l i j side=true:=by
 unfold qje at h
 split at h
 ·cases h;exact⟨rfl,by assumption⟩
 ·cases h
theorem qfY{l:List DQ}{i j:Nat}{side:Int}(h:qje l i j side=none):q24 l i j side=false:=by
 unfold qje at h
 split at h
 ·cases h
 ·simp_all
theorem q2J{α:Type}{f:Nat→Option α}{a:α}:∀{k i:Nat},q1e f i k=some a→∃j,i≤j∧j<i+k∧f j=some a∧∀m,i≤m→m<j→f m=none
 | 0,i,h=>by cases h
 | k+1,i,h=>by
  simp only[q1e] at h
  cases hf:f i with
  | some b=>rw[hf] at h;exact⟨i,Nat.le_refl _,by omega,by rw[hf];exact h,fun m h1 h2=>by omega⟩
  | none=>
   rw[hf] at h
   obtain⟨j,h1,h2,h3,h4⟩:=q2J h
   refine⟨j,by omega,by omega,h3,fun m m1 m2=>?_⟩
   rcases Nat.eq_or_lt_of_le m1 with rfl|m1
   ·exact hf
   ·exact h4 m m1 m2
theorem qpP{l:List DQ}{i j:Nat}{w:Nat×Nat×Int}(h:qbl l i j=some w):∃side,w=(i,j,side)∧(side=0∨side=1∨side=-1)∧q24 l i j side=true:=by
 unfold qbl at h
 cases h0:qje l i j 0 with
 | some v=>rw[h0] at h;simp only at h;cases h;obtain⟨e1,e2⟩:=qg8 h0;exact⟨0,e1,.inl rfl,e2⟩
 | none=>
  rw[h0] at h;simp only at h
  cases h1:qje l i j 1 with
  | some v=>rw[h1] at h;simp only at h;cases h;obtain⟨e1,e2⟩:=qg8 h1;exact⟨1,e1,.inr (.inl rfl),e2⟩
  | none=>
   rw[h1] at h;simp only at h
   obtain⟨e1,e2⟩:=qg8 h;exact⟨-1,e1,.inr (.inr rfl),e2⟩
theorem qpN{l:List DQ}{i j:Nat}(h:qbl l i j=none):∀side:Int,side=0∨side=1∨side=-1→q24 l i j side=false:=by
 unfold qbl at h
 cases h0:qje l i j 0 with
 | some v=>rw[h0] at h;cases h
 | none=>
  rw[h0] at h;simp only at h
  cases h1:qje l i j 1 with
  | some v=>rw[h1] at h;cases h
  | none=>
   rw[h1] at h;simp only at h
   rintro side (rfl|rfl|rfl)
   ·exact qfY h0
   ·exact qfY h1
   ·exact qfY h
theorem qjk{l:List DQ}{w:Nat×Nat×Int}(h:yx l=some w):q24 l w.1 w.2.1 w.2.2=true∧w.1≤w.2.1∧w.2.1<l.length∧(w.2.2=0∨w.2.2=1∨w.2.2=-1)∧(w.1=w.2.1→w.2.2=0):=by
 unfold yx at h
 cases h0:q1e (fun i=>qje l i i 0) 0 l.length with
 | some v=>
  rw[h0] at h;simp only at h;cases h
  obtain⟨i,-,hi,hf,-⟩:=q2J h0
  obtain⟨rfl,e⟩:=qg8 hf
  exact⟨e,Nat.le_refl _,by simpa using hi,.inl rfl,fun _=>rfl⟩
 | none=>
  rw[h0] at h;simp only at h
  obtain⟨i,-,hi,hf,-⟩:=q2J h
  obtain⟨k,-,hk,hf,-⟩:=q2J hf
  obtain⟨side,rfl,h1,h2⟩:=qpP hf
  exact⟨h2,by simp only;omega,by simp only;omega,h1,fun h=>by simp only at h;omega⟩
theorem qqt{l:List DQ}(h:yx l=none):¬Wit l:=by
 unfold yx at h
 cases h0:q1e (fun i=>qje l i i 0) 0 l.length with
 | some v=>rw[h0] at h;cases h
 | none=>
  rw[h0] at h;simp only at h
  rintro (⟨i,hi,hp⟩|⟨i,j,side,hij,hj,hs,hp⟩)
  ·have:=qfY (q16 h0 i (by omega) (by omega));simp_all
  ·have h1:=q16 h i (by omega) (by omega)
   have h2:=q16 h1 (j-(i+1)) (by omega) (by omega)
   simp only[show i+1+(j-(i+1))=j by omega] at h2
   have:=qpN h2 side hs;simp_all
theorem q9U{l:List DQ}(hl:l≠[])(hs:∀d∈l,0≤d.s):(yx l).isSome=true↔qcH l:=by
 constructor
 ·intro h
  cases hf:yx l with
  | none=>rw[hf] at h;cases h
  | some w=>exact qkV (qjk hf).1
 ·intro h
  cases hf:yx l with
  | none=>exact absurd (qpR hl hs h) (qqt hf)
  | some w=>rfl
theorem qvl{d:DQ}(h:0≤d.s):qcH [d]:=⟨d.x,d.y,fun e he=>by simp at he;rw[he];unfold pw;grind⟩
theorem qvd{l:List DQ}(hs:∀d∈l,0≤d.s)(h2:∀i j,i<j→j<l.length→qcH [ix l i,ix l j])(h3:∀i j k,i<j→j<k→k<l.length→qcH [ix l i,ix l j,ix l k]):qcH l:=by
 refine qyq l.length l (Nat.le_refl _) fun x hx y hy z hz=>?_
 obtain⟨i,hi,rfl⟩:=q5v hx
 obtain⟨j,hj,rfl⟩:=q5v hy
 obtain⟨k,hk,rfl⟩:=q5v hz
 have p2:∀i j,i<l.length→j<l.length→qcH [ix l i,ix l j]:=fun i j hi hj=>by
  rcases Nat.lt_trichotomy i j with h|rfl|h
  ·exact h2 i j h hj
  ·exact(qvl (hs _ (q60 hi))).mono (by simp)
  ·exact(h2 j i h hi).mono (by simp<;>grind)
 rcases Nat.lt_trichotomy i j with h|rfl|h
 ·rcases Nat.lt_trichotomy j k with g|rfl|g
  ·exact h3 i j k h g hk
  ·exact(p2 i j hi hj).mono (by simp)
  ·rcases Nat.lt_trichotomy i k with f|rfl|f
   ·exact(h3 i k j f g hj).mono (by simp<;>grind)
   ·exact(p2 i j hi hj).mono (by simp<;>grind)
   ·exact(h3 k i j f h hj).mono (by simp<;>grind)
 ·exact(p2 i k hi hk).mono (by simp<;>grind)
 ·rcases Nat.lt_trichotomy i k with g|rfl|g
  ·exact(h3 j i k h g hk).mono (by simp<;>grind)
  ·exact(p2 i j hi hj).mono (by simp<;>grind)
  ·rcases Nat.lt_trichotomy j k with f|rfl|f
   ·exact(h3 j k i f g hi).mono (by simp<;>grind)
   ·exact(p2 i j hi hj).mono (by simp<;>grind)
   ·exact(h3 k j i f h hi).mono (by simp<;>grind)
end Go.Eng

namespace Go.Eng
def GDs(l:List DQ):Prop:=∀d∈l,GD d
theorem GDs.ix{l:List DQ}(h:GDs l){i:Nat}(hi:i<l.length):GD (ix l i):=h _ (q60 hi)
theorem qwl(q:Rat):(seq (tQ q) [48]=true)=(q=0):=by rw[zd,qiO]
theorem qh6(q:Rat):(0:Int)<qm (tQ q):=by
 have h1:=qeV q
 have h2:=qhx q
 unfold qm;omega
theorem qzg(i:Nat):((i:Int)=(i:Int))=True:=by simp
def plc(p:SQ):List PV:=[.s (tQ p.fx),.s (tQ p.fy),.s (tQ p.ax),.s (tQ p.ay),.s (tQ p.h)]
theorem qgU(q:Rat):(¬(tQ q).getD 0 0=45)=(0≤q):=by
 by_cases h:0≤q
 ·exact propext ⟨fun _=>h,fun _=>qvj h⟩
 ·have:=qtQ (c:=q) (by grind)
  exact propext ⟨fun h'=>absurd this h',fun h'=>absurd h' h⟩
theorem qxD(b:Bool)(p q:Prop)[Decidable p][Decidable q](hb:(b=true)=p):(Go.Eng.beq b (decide q))=decide (p↔q):=by
 subst hb
 by_cases hq:q<;>cases b<;>simp[Go.Eng.beq,hq]<;>rfl
set_option maxHeartbeats 2000000 in
theorem qx3{l:List DQ}(hl:GDs l){i j:Nat}(hi:i<l.length)(hj:j<l.length)(side:Int) :
  (q8s (ix l i) (ix l j) (decide (i=j)) side=none∧∃a b c d e,(vo [.r (rD l),.i (i:Int),.i (j:Int),.i side,.i 0]).run=some (0,[.s a,.s b,.s c,.s d,.s e,.b false,.i 0])) ∨
  ∃p,q8s (ix l i) (ix l j) (decide (i=j)) side=some p∧(vo [.r (rD l),.i (i:Int),.i (j:Int),.i side,.i 0]).run=some (0,plc p++[.b true,.i 0]):=by
 rw[qeG]
 obtain⟨x1,x2,x3⟩:=qkC hi
 obtain⟨y1,y2,y3⟩:=qkC hj
 have ga:=hl.ix hi
 have gb:=hl.ix hj
 have bi:0≤(i:Int)∧(i:Int)<qt (rD l):=by rw[zp];omega
 have bj:0≤(j:Int)∧(j:Int)<qt (rD l):=by rw[zp];omega
 obtain⟨a,ha⟩:∃a,a=ix l i:=⟨_,rfl⟩
 obtain⟨b,hb⟩:∃b,b=ix l j:=⟨_,rfl⟩
 rw[←ha] at x1 x2 x3 ga ⊢
 rw[←hb] at y1 y2 y3 gb ⊢
 simp only[x1,x2,x3,y1,y2,y3]
 clear x1 x2 x3 y1 y2 y3 hb
 unfold q8s plc
 by_cases hij:i=j
 ·subst hij
  have z:tQ 0=[48]:=rfl
  by_cases hs:side=0
  ·subst hs
   right
   refine⟨⟨a.x,a.y,0,0,0⟩,by simp,?_⟩
   have e:ieq 0 0=true:=rfl
   simp only[STD,bi,and_self,z,e]
   rfl
  ·left
   refine⟨by simp[hs],tQ a.x,tQ a.y,[48],[48],[48],?_⟩
   have e:ieq side 0=false:=by simp[ieq,hs]
   simp only[STD,bi,and_self,e]
 ·have hij':¬(i:Int)=(j:Int):=by omega
  obtain⟨a1,a2,a3⟩:=ga.sh
  obtain⟨b1,b2,b3⟩:=gb.sh
  have dx:=q56 b1 a1
  have dy:=q56 b2 a2
  have far:=qiR b1 b2 a1 a2
  have h0:=qtv b1 b2 a1 a2 (by omega) (by omega) (by omega)
  have h1:=qu9 dx dy dx dy (by omega) (by omega)
  have hfd:(b.x-a.x)*(b.x-a.x)+(b.y-a.y)*(b.y-a.y)=q1X b.x b.y a.x a.y:=rfl
  rw[hfd] at h1
  by_cases hf:q1X b.x b.y a.x a.y=0
  ·left
   refine⟨by simp[hij,hf],[],[],[],[],[],?_⟩
   simp only[STD,bi,bj,and_self,hij',h0,h1,qwl,hf]
  ·have hpb:=fun neg=>qeY ga gb neg hf
   have ht:=quF ga gb hf
   have n1:bnd 98 90 (q1X b.x b.y a.x a.y+a.s):=far.add a3 (by omega) (by omega)
   have h2:=qsv far a3 (by omega) (by omega) (by omega)
   have n2:bnd 112 100 (q1X b.x b.y a.x a.y+a.s-b.s):=n1.sub b3 (by omega) (by omega)
   have h3:=qms n1 b3 (by omega) (by omega) (by omega)
   have h4:=qmN qkb far (by omega) (by omega)
   rw[qu6] at h4
   have n4:=qkb.mul far
   have hf2:2*q1X b.x b.y a.x a.y≠0:=by grind
   have h5:=qys hf2 n2 n4 (by omega) (by omega)
   have h6:=qmN ht dx (by omega) (by omega)
   have h7:=qsv a1 (ht.mul dx) (by omega) (by omega) (by omega)
   have h8:=qmN ht dy (by omega) (by omega)
   have h9:=qsv a2 (ht.mul dy) (by omega) (by omega) (by omega)
   have h10:=qms q4V dy (by omega) (by omega) (by omega)
   have h14:=qms q4V dx (by omega) (by omega) (by omega)
   rw[show tQ 0=[48] from rfl] at h10 h14
   have h11:=qys hf a3 far (by omega) (by omega)
   have h12:=qmN ht ht (by omega) (by omega)
   have h13:=qms (a3.div hf far) (ht.mul ht) (by omega) (by omega) (by omega)
   have hbd:=fun (q:Rat)=>qxD (seq (tQ q) [48]) (q=0) (side=0) (qwl q)
   have hie:ieq side 0=decide (side=0):=rfl
   rw[if_neg (by simp[hij]),if_neg hf]
   obtain⟨p,hcr'⟩:∃p,p=qk a b (decide (side<0)):=⟨_,rfl⟩
   rw[←hcr']
   have hcr:=hcr'.symm
   clear hcr'
   rw[qgc] at hcr
   obtain⟨t,htt⟩:∃t,t=(q1X b.x b.y a.x a.y+a.s-b.s)/(2*q1X b.x b.y a.x a.y):=⟨_,rfl⟩
   rw[←htt] at hcr h5 h6 h7 h8 h9 h12 h13
   obtain⟨h,hh⟩:∃h,h=a.s/q1X b.x b.y a.x a.y-t*t:=⟨_,rfl⟩
   rw[←hh] at hcr h13
   have hp5:p.h=h:=by rw[←hcr]
   by_cases hs:side<0
   ·simp only[hs,decide_true,if_true] at hcr
    by_cases hn:0≤h
    ·by_cases hz:(h=0↔side=0)
     ·right
      refine⟨p,by rw[if_pos ⟨by rw[hp5];exact hn,by rw[hp5];exact hz⟩],?_⟩
      rw[←hcr]
      simp only[STD,bi,bj,and_self,hij',h0,h1,h2,h3,h4,h5,h6,h7,h8,h9,h10,h11,h12,h13,h14,qwl,hf,hs,Int.le_refl,qh6,qfq,qgU,hn,hie,hbd,hz,decide_true]
      rfl
     ·left
      refine⟨by rw[if_neg (by rw[hp5];exact fun c=>hz c.2)],tQ p.fx,tQ p.fy,tQ p.ax,tQ p.ay,tQ p.h,?_⟩
      rw[←hcr]
      simp only[STD,bi,bj,and_self,hij',h0,h1,h2,h3,h4,h5,h6,h7,h8,h9,h10,h11,h12,h13,h14,qwl,hf,hs,Int.le_refl,qh6,qfq,qgU,hn,hie,hbd,hz,decide_false]
    ·left
     refine⟨by rw[if_neg (by rw[hp5];exact fun c=>hn c.1)],tQ p.fx,tQ p.fy,tQ p.ax,tQ p.ay,tQ p.h,?_⟩
     rw[←hcr]
     simp only[STD,bi,bj,and_self,hij',h0,h1,h2,h3,h4,h5,h6,h7,h8,h9,h10,h11,h12,h13,h14,qwl,hf,hs,Int.le_refl,qh6,qfq,qgU,hn]
   ·simp only[hs,decide_false,Bool.false_eq_true,if_false] at hcr
    by_cases hn:0≤h
    ·by_cases hz:(h=0↔side=0)
     ·right
      refine⟨p,by rw[if_pos ⟨by rw[hp5];exact hn,by rw[hp5];exact hz⟩],?_⟩
      rw[←hcr]
      simp only[STD,bi,bj,and_self,hij',h0,h1,h2,h3,h4,h5,h6,h7,h8,h9,h10,h11,h12,h13,h14,qwl,hf,hs,Int.le_refl,qh6,qfq,qgU,hn,hie,hbd,hz,decide_true]
      rfl
     ·left
      refine⟨by rw[if_neg (by rw[hp5];exact fun c=>hz c.2)],tQ p.fx,tQ p.fy,tQ p.ax,tQ p.ay,tQ p.h,?_⟩
      rw[←hcr]
      simp only[STD,bi,bj,and_self,hij',h0,h1,h2,h3,h4,h5,h6,h7,h8,h9,h10,h11,h12,h13,h14,qwl,hf,hs,Int.le_refl,qh6,qfq,qgU,hn,hie,hbd,hz,decide_false]
    ·left
     refine⟨by rw[if_neg (by rw[hp5];exact fun c=>hn c.1)],tQ p.fx,tQ p.fy,tQ p.ax,tQ p.ay,tQ p.h,?_⟩
     rw[←hcr]
     simp only[STD,bi,bj,and_self,hij',h0,h1,h2,h3,h4,h5,h6,h7,h8,h9,h10,h11,h12,h13,h14,qwl,hf,hs,Int.le_refl,qh6,qfq,qgU,hn]
end Go.Eng

namespace Go.Eng
theorem quX{α:Type}(p:Nat→Bool)(g:Nat→α)(n:Nat):(q1e (fun i=>if p i=true then none else some (g i)) 0 n=none∧∀i,i<n→p i=true)∨∃i,i<n∧p i=false∧q1e (fun i=>if p i=true then none else some (g i)) 0 n=some (g i):=by
 cases h:q1e (fun i=>if p i=true then none else some (g i)) 0 n with
 | none=>
  refine .inl ⟨rfl,fun i hi=>?_⟩
  have:=q16 h i (by omega) (by omega)
  cases hp:p i
  ·rw[hp] at this;simp at this
  ·rfl
 | some a=>
  obtain⟨j,-,hj,hf,-⟩:=q2J h
  cases hp:p j
  ·rw[hp] at hf;simp at hf
   exact .inr ⟨j,by omega,hp,by rw[hf]⟩
  ·rw[hp] at hf;simp at hf
theorem qwr(l:List DQ)(p:DQ→Bool):l.all p=true↔∀i,i<l.length→p (ix l i)=true:=by
 rw[List.all_eq_true]
 constructor
 ·intro h i hi;exact h _ (q60 hi)
 ·intro h d hd
  obtain⟨i,hi,rfl⟩:=q5v hd
  exact h i hi
theorem qwQ{l:List DQ}{p:DQ→Bool}{i:Nat}(hi:i<l.length)(h:p (ix l i)=false):l.all p=false:=by
 cases ha:l.all p
 ·rfl
 ·have:=(qwr l p).1 ha i hi;simp_all
theorem qmK{l:List DQ}(hl:GDs l)(hn:l.length<1000000){i j:Nat}(hi:i<l.length)(hj:j<l.length)(side:Int) :
  (qL [.r (rD l),.i (i:Int),.i (j:Int),.i side,.i 0]).run=some (0,[.b (q24 l i j side),.i 0]):=by
 rw[qd7]
 unfold q24
 rcases qx3 hl hi hj side with⟨h1,a,b,c,d,e,h2⟩|⟨p,h1,h2⟩
 ·rw[h1]
  simp only[STD,h2]
 ·rw[h1]
  have hp:=qvc (hl.ix hi) (hl.ix hj) h1
  unfold plc at h2
  simp only[List.cons_append,List.nil_append] at h2
  have key:=qfQ (S:=wx)
   (fun k=>[.r (rD l),.i (qt (rD l)),.i (k:Int),.r (rD l),.r (rD l),.r (rD l),.i (i:Int),.i (j:Int),.i side,.b true,.s (tQ p.fx),.s (tQ p.fy),.s (tQ p.ax),.s (tQ p.ay),.s (tQ p.h),.b true,.r (rD l),.i (i:Int),.i (j:Int),.i side,.s (tQ p.fx),.s (tQ p.fy),.s (tQ p.ax),.s (tQ p.ay),.s (tQ p.h),.b true,.s (tQ p.fx),.s (tQ p.fy),.s (tQ p.ax),.s (tQ p.ay),.s (tQ p.h),.b true,.b true,.r (rD l),.i 0,.i (i:Int),.i (j:Int),.i side,.s (tQ p.fx),.s (tQ p.fy),.s (tQ p.ax),.s (tQ p.ay),.s (tQ p.h)])
   (fun k=>if decide (q0e (ix l k) p)=true then none else some (1,[.i (k:Int),.r (rD l),.r (rD l),.r (rD l),.i (i:Int),.i (j:Int),.i side,.b true,.s (tQ p.fx),.s (tQ p.fy),.s (tQ p.ax),.s (tQ p.ay),.s (tQ p.h),.b true,.r (rD l),.i (i:Int),.i (j:Int),.i side,.s (tQ p.fx),.s (tQ p.fy),.s (tQ p.ax),.s (tQ p.ay),.s (tQ p.h),.b true,.s (tQ p.fx),.s (tQ p.fy),.s (tQ p.ax),.s (tQ p.ay),.s (tQ p.h),.b true,.b true,.r (rD l),.i 0,.i (i:Int),.i (j:Int),.i side,.s (tQ p.fx),.s (tQ p.fy),.s (tQ p.ax),.s (tQ p.ay),.s (tQ p.h)]))
   (0,[.r (rD l),.r (rD l),.r (rD l),.i (i:Int),.i (j:Int),.i side,.b true,.s (tQ p.fx),.s (tQ p.fy),.s (tQ p.ax),.s (tQ p.ay),.s (tQ p.h),.b true,.r (rD l),.i (i:Int),.i (j:Int),.i side,.s (tQ p.fx),.s (tQ p.fy),.s (tQ p.ax),.s (tQ p.ay),.s (tQ p.h),.b true,.s (tQ p.fx),.s (tQ p.fy),.s (tQ p.ax),.s (tQ p.ay),.s (tQ p.h),.b true,.b true,.r (rD l),.i 0,.i (i:Int),.i (j:Int),.i side,.s (tQ p.fx),.s (tQ p.fy),.s (tQ p.ax),.s (tQ p.ay),.s (tQ p.h)])
   l.length (by omega)
   (fun k hk hf=>by
    rw[yC]
    obtain⟨x1,x2,x3⟩:=qkC hk
    have hK:=qt1 (hl.ix hk) hp
    by_cases hd:q0e (ix l k) p
    ·simp only[x1,x2,x3,STD,hK,hd,zp,q43 hk (show l.length<9223372036854775808 by omega),show (k:Int)<(l.length:Int) by omega,show (0:Int)≤(k:Int) by omega,and_self,decide_true]
    ·simp[hd] at hf)
   (fun k r hk hf=>by
    rw[yC]
    obtain⟨x1,x2,x3⟩:=qkC hk
    have hK:=qt1 (hl.ix hk) hp
    by_cases hd:q0e (ix l k) p
    ·simp[hd] at hf
    ·simp only[hd,decide_false,Bool.false_eq_true,if_false,Option.some.injEq] at hf
     subst hf
     simp only[x1,x2,x3,STD,hK,hd,zp,show (k:Int)<(l.length:Int) by omega,show (0:Int)≤(k:Int) by omega,and_self,decide_false])
   (by rw[yC];simp only[STD,zp,show ¬(l.length:Int)<(l.length:Int) by omega])
  rcases quX (fun k=>decide (q0e (ix l k) p)) (fun k=>((1,[.i (k:Int),.r (rD l),.r (rD l),.r (rD l),.i (i:Int),.i (j:Int),.i side,.b true,.s (tQ p.fx),.s (tQ p.fy),.s (tQ p.ax),.s (tQ p.ay),.s (tQ p.h),.b true,.r (rD l),.i (i:Int),.i (j:Int),.i side,.s (tQ p.fx),.s (tQ p.fy),.s (tQ p.ax),.s (tQ p.ay),.s (tQ p.h),.b true,.s (tQ p.fx),.s (tQ p.fy),.s (tQ p.ax),.s (tQ p.ay),.s (tQ p.h),.b true,.b true,.r (rD l),.i 0,.i (i:Int),.i (j:Int),.i side,.s (tQ p.fx),.s (tQ p.fy),.s (tQ p.ax),.s (tQ p.ay),.s (tQ p.h)]):Nat×List PV)) l.length with⟨s1,s2⟩|⟨k,hk,s2,s1⟩
  ·rw[s1] at key
   have hall:(l.all fun d=>decide (q0e d p))=true:=(qwr l _).2 s2
   simp only[Option.getD_none] at key
   simp only[STD,h2,hall]
   have key':=key
   simp only[show ((0:Nat):Int)=0 from rfl] at key'
   simp only[STD,key',qM key',show ieq 0 0=true from rfl]
  ·rw[s1] at key
   have hall:=qwQ (p:=fun d=>decide (q0e d p)) hk s2
   simp only[Option.getD_some] at key
   simp only[STD,h2,hall]
   have key':=key
   simp only[show ((0:Nat):Int)=0 from rfl] at key'
   simp only[STD,key',qM key',show ¬(1=0) by omega,show (0:Int)≤(k:Int) by omega]
end Go.Eng

namespace Go.Eng
theorem q2N{S:List PV→TR}{α:Type}(st:Nat→List PV)(f:Nat→Option α)(g:α→List PV)(fin:List PV)(n:Nat)(hn:n<9223372036854775808)
  (h:∀i,i<n→(S (st i)).run=(f i).elim (some (0,st (i+1))) (fun a=>some (2,g a))) (h3:(S (st n)).run=some (1,fin)) :
  (qj S (st 0)).run=some ((q1e f 0 n).elim (0,fin) (fun a=>(1,g a))):=by
 have key:=qfQ st (fun i=>(f i).map fun a=>(1,g a)) (0,fin) n hn (fun i hi hf=>by
  rw[h i hi]
  cases hfi:f i with
  | none=>rfl
  | some a=>rw[hfi] at hf;cases hf) (fun i r hi hf=>by
  rw[h i hi]
  cases hfi:f i with
  | none=>rw[hfi] at hf;cases hf
  | some a=>rw[hfi] at hf;simp at hf;rw[←hf];rfl) h3
 rw[key,qnp]
 cases q1e f 0 n<;>rfl
def sd(s:Nat):Int:=cI [[.i 0],[.i 1],[.i (-1)]] (s:Int) 0
theorem qsg(l:List DQ)(i j:Nat):q1e (fun s=>qje l i j (sd s)) 0 3=qbl l i j:=by
 have e0:sd 0=0:=rfl
 have e1:sd 1=1:=rfl
 have e2:sd 2=-1:=rfl
 simp only[q1e,e0,e1,e2]
 unfold qbl
 cases qje l i j 0
 ·cases qje l i j 1
  ·cases qje l i j (-1)<;>rfl
  ·rfl
 ·rfl
def dex(l:List DQ)(w:Nat×Nat×Int):List PV:=[.i 0,.r (rD l),.i (w.1:Int),.i (w.2.1:Int),.i w.2.2,.b true,.i (l.length:Int)]
def fW(o:Option (Nat×Nat×Int)):List PV:=o.elim [.i 0,.i 0,.i 0,.b false] (fun w=>[.i (w.1:Int),.i (w.2.1:Int),.i w.2.2,.b true])
theorem n3:qt [[U.i 0],[U.i 1],[U.i (-1)]]=3:=rfl
set_option maxHeartbeats 600000 in
theorem qpi{l:List DQ}(hl:GDs l)(hn:l.length<1000000):(qA [.r (rD l),.i 0]).run=some (0,fW (yx l)++[.i 0]):=by
 rw[qeJ]
 have big:l.length<9223372036854775808:=by omega
 have A:=q2N (S:=wK) (fun k=>[.i (l.length:Int),.i (k:Int),.i 0,.r (rD l),.i 0,.i 0,.i 0,.b false,.i (l.length:Int)]) (fun k=>qje l k k 0) (dex l)
  [.i 0,.r (rD l),.i 0,.i 0,.i 0,.b false,.i (l.length:Int)] l.length big
  (fun k hk=>by
   rw[q2v]
   have hp:=qmK hl hn hk hk 0
   unfold qje
   by_cases c:q24 l k k 0=true
   ·rw[if_pos c]
    simp only[STD,hp,c,show (k:Int)<(l.length:Int) by omega,dex]
   ·rw[if_neg c]
    simp only[STD,hp,c,show (k:Int)<(l.length:Int) by omega,q43 hk big]
    rfl)
  (by rw[q2v];simp only[STD,show ¬(l.length:Int)<(l.length:Int) by omega])
 have B:=fun i j (hi:i<l.length) (hj:j<l.length)=>q2N (S:=wl) (fun s=>[.i (i:Int),.i (j:Int),.i (l.length:Int),.i (i:Int),.i 3,.i (s:Int),.i 0,.r (rD l),.i 0,.i 0,.i 0,.b false,.i (l.length:Int),.r [[.i 0],[.i 1],[.i (-1)]]]) (fun s=>qje l i j (sd s)) (dex l)
  [.i (i:Int),.i (j:Int),.i (l.length:Int),.i (i:Int),.i 0,.r (rD l),.i 0,.i 0,.i 0,.b false,.i (l.length:Int)] 3 (by omega)
  (fun s hs=>by
   rw[q1Z]
   have hp:=qmK hl hn hi hj (sd s)
   have esd:cI [[.i 0],[.i 1],[.i (-1)]] (s:Int) 0=sd s:=rfl
   unfold qje
   by_cases c:q24 l i j (sd s)=true
   ·rw[if_pos c]
    simp only[STD,hp,c,esd,n3,show (s:Int)<3 by omega,show (0:Int)≤(s:Int) by omega,and_self,dex]
   ·rw[if_neg c]
    simp only[STD,hp,c,esd,n3,show (s:Int)<3 by omega,show (0:Int)≤(s:Int) by omega,and_self,q43 hs (show 3<9223372036854775808 by omega)]
    rfl)
  (by rw[q1Z];simp only[STD,show ((3:Nat):Int)=3 from rfl,show ¬(3:Int)<3 by omega])
 have C:=fun i (hi:i<l.length)=>q2N (S:=wo) (fun k=>[.i (i:Int),.i ((i+1+k:Nat):Int),.i (l.length:Int),.i (i:Int),.i 0,.r (rD l),.i 0,.i 0,.i 0,.b false,.i (l.length:Int)]) (fun k=>qbl l i (i+1+k)) (dex l)
  [.i (l.length:Int),.i (i:Int),.i 0,.r (rD l),.i 0,.i 0,.i 0,.b false,.i (l.length:Int)] (l.length-(i+1)) (by omega)
  (fun k hk=>by
   rw[q1V]
   have hj:i+1+k<l.length:=by omega
   have b:=B i (i+1+k) hi hj
   rw[qsg] at b
   simp only[show ((0:Nat):Int)=0 from rfl] at b
   have w:=q43 hj big
   cases hs:qbl l i (i+1+k) with
   | none=>
    rw[hs] at b
    simp only[Option.elim] at b ⊢
    simp only[STD,b,qM b,n3,show ((i+1+k:Nat):Int)<(l.length:Int) by omega,w]
    rfl
   | some v=>
    rw[hs] at b
    simp only[Option.elim,dex] at b ⊢
    simp only[STD,b,qM b,n3,show ((i+1+k:Nat):Int)<(l.length:Int) by omega,show ¬(1=0) by omega])
  (by rw[q1V];simp only[STD,show ¬((i+1+(l.length-(i+1)):Nat):Int)<(l.length:Int) by omega])
 have D:=q2N (S:=wW) (fun i=>[.i (l.length:Int),.i (i:Int),.i 0,.r (rD l),.i 0,.i 0,.i 0,.b false,.i (l.length:Int)]) (fun i=>q1e (fun k=>qbl l i (i+1+k)) 0 (l.length-(i+1))) (dex l)
  [.i 0,.r (rD l),.i 0,.i 0,.i 0,.b false,.i (l.length:Int)] l.length big
  (fun i hi=>by
   rw[q2G]
   have c:=C i hi
   simp only[Nat.add_zero] at c
   have w:=q43 hi big
   cases hs:q1e (fun k=>qbl l i (i+1+k)) 0 (l.length-(i+1)) with
   | none=>
    rw[hs] at c
    simp only[Option.elim] at c ⊢
    simp only[STD,w,c,qM c,show (i:Int)<(l.length:Int) by omega]
   | some v=>
    rw[hs] at c
    simp only[Option.elim,dex] at c ⊢
    simp only[STD,w,c,qM c,show (i:Int)<(l.length:Int) by omega,show ¬(1=0) by omega])
  (by rw[q2G];simp only[STD,show ¬(l.length:Int)<(l.length:Int) by omega])
 simp only[show ((0:Nat):Int)=0 from rfl] at A D
 unfold yx
 cases hs:q1e (fun i=>qje l i i 0) 0 l.length with
 | some v=>
  rw[hs] at A
  simp only[Option.elim,dex] at A
  simp only[STD,zp,A,qM A,show ¬(1=0) by omega,fW,Option.elim]
  rfl
 | none=>
  rw[hs] at A
  simp only[Option.elim] at A
  simp only[]
  cases hs':q1e (fun i=>q1e (fun k=>qbl l i (i+1+k)) 0 (l.length-(i+1))) 0 l.length with
  | none=>
   rw[hs'] at D
   simp only[Option.elim] at D
   simp only[STD,zp,A,qM A,D,qM D,fW,Option.elim]
   rfl
  | some v=>
   rw[hs'] at D
   simp only[Option.elim,dex] at D
   simp only[STD,zp,A,qM A,D,qM D,fW,Option.elim,show ¬(1=0) by omega]
   rfl
end Go.Eng

namespace Go.Eng
theorem qze{x y s:List UInt8}(h:qrq x y s=0)(hx:shT x)(hy:shT y)(hs:shT s):∃d:DQ,GD d∧x=tQ d.x∧y=tQ d.y∧s=tQ d.s:=by
 obtain⟨d,rfl,rfl,rfl,-,-,-,hn⟩:=qxl h
 exact⟨d,⟨qqg hx,qqg hy,qyB (qqg hs),hn⟩,rfl,rfl,rfl⟩
theorem qtO{d:DQ}(h:GD d):qrq (tQ d.x) (tQ d.y) (tQ d.s)=0:=
 qxx ((zQ h.x).ok (by omega) (by omega)) ((zQ h.y).ok (by omega) (by omega)) ((q3Q h.s).ok (by omega) (by omega)) h.nn
theorem qln{s:List UInt8}(h:shT s):s.length≤1000000:=by unfold shT at h;omega
theorem qq7{a b:DQ}(ga:GD a)(gb:GD b) :
  (q2i [.s (tQ a.x),.s (tQ a.y),.s (tQ a.s),.s (tQ b.x),.s (tQ b.y),.s (tQ b.s)]).run=some (0,[.i (qxd a b),.i 0]):=by
 rw[qiW]
 have ca:=qan _ _ _ (show (tQ a.x).length≤1000000 from by have:=q7w ((zQ ga.x).ok (by omega) (by omega));omega) (show (tQ a.y).length≤1000000 from by have:=q7w ((zQ ga.y).ok (by omega) (by omega));omega) (show (tQ a.s).length≤1000000 from by have:=q7w ((q3Q ga.s).ok (by omega) (by omega));omega)
 have cb:=qan _ _ _ (show (tQ b.x).length≤1000000 from by have:=q7w ((zQ gb.x).ok (by omega) (by omega));omega) (show (tQ b.y).length≤1000000 from by have:=q7w ((zQ gb.y).ok (by omega) (by omega));omega) (show (tQ b.s).length≤1000000 from by have:=q7w ((q3Q gb.s).ok (by omega) (by omega));omega)
 rw[qtO ga] at ca
 rw[qtO gb] at cb
 have nr:qt [[U.s (tQ a.x),U.s (tQ a.y),U.s (tQ a.s)],[U.s (tQ b.x),U.s (tQ b.y),U.s (tQ b.s)]]=2:=rfl
 have r0:∀j,cS [[U.s (tQ a.x),U.s (tQ a.y),U.s (tQ a.s)],[U.s (tQ b.x),U.s (tQ b.y),U.s (tQ b.s)]] 0 j=cS [[U.s (tQ a.x),U.s (tQ a.y),U.s (tQ a.s)]] 0 j:=fun j=>rfl
 have r1:∀j,cS [[U.s (tQ a.x),U.s (tQ a.y),U.s (tQ a.s)],[U.s (tQ b.x),U.s (tQ b.y),U.s (tQ b.s)]] 1 j=cS [[U.s (tQ b.x),U.s (tQ b.y),U.s (tQ b.s)]] 0 j:=fun j=>rfl
 have q0:∀d:DQ,cS [[U.s (tQ d.x),U.s (tQ d.y),U.s (tQ d.s)]] 0 0=tQ d.x∧cS [[U.s (tQ d.x),U.s (tQ d.y),U.s (tQ d.s)]] 0 1=tQ d.y∧cS [[U.s (tQ d.x),U.s (tQ d.y),U.s (tQ d.s)]] 0 2=tQ d.s:=fun d=>⟨rfl,rfl,rfl⟩
 have L:=q2N (S:=q0g) (fun k=>[.i 2,.i (k:Int),.s (tQ a.x),.s (tQ a.y),.s (tQ a.s),.s (tQ b.x),.s (tQ b.y),.s (tQ b.s),.r [[U.s (tQ a.x),U.s (tQ a.y),U.s (tQ a.s)],[U.s (tQ b.x),U.s (tQ b.y),U.s (tQ b.s)]]]) (fun _=>(none:Option Nat)) (fun _=>[])
  [.s (tQ a.x),.s (tQ a.y),.s (tQ a.s),.s (tQ b.x),.s (tQ b.y),.s (tQ b.s)] 2 (by omega)
  (fun k hk=>by
   rw[q9P]
   have w:=q43 hk (show 2<9223372036854775808 by omega)
   rcases (show k=0∨k=1 by omega) with rfl|rfl
   ·simp only[show ((0:Nat):Int)=0 from rfl,r0,q0,nr] at w ⊢
    simp only[STD,ca,w,Int.le_refl,show (0:Int)<2 by omega,and_self]
    rfl
   ·simp only[show ((1:Nat):Int)=1 from rfl,r1,q0,nr] at w ⊢
    simp only[STD,cb,w,show (0:Int)≤1 by omega,show (1:Int)<2 by omega,and_self]
    rfl)
  (by rw[q9P];simp only[STD,show ((2:Nat):Int)=2 from rfl,show ¬(2:Int)<2 by omega])
 simp only[show ((0:Nat):Int)=0 from rfl,q1e,Option.elim] at L
 have w1:=qr7 ga.sh gb.sh ga.nn gb.nn
 have w2:=qr7 gb.sh ga.sh gb.nn ga.nn
 have w3:=qwu ga.sh gb.sh ga.nn gb.nn qvs
 rw[qwX] at w3
 have bd:=qvr a b (-2)
 have wn:=qmH (x:=qmL a b (-2)) (by omega)
 unfold qxd
 by_cases c1:q34 a b
 ·simp only[STD,nr,L,qM L,w1,c1]
 ·by_cases c2:q34 b a
  ·simp only[STD,nr,L,qM L,w1,w2,c1,c2]
  ·simp only[STD,nr,L,qM L,w1,w2,w3,c1,c2,wn]
end Go.Eng

namespace Go.Eng
noncomputable def cD(x:R)(i:Nat):Int:=qrq (cS x (i:Int) 0) (cS x (i:Int) 1) (cS x (i:Int) 2)
noncomputable def lE(x:R):Int:=if 64<x.length then 5 else if q9K (cD x) x.length=0 then (if x.length=0 then 13 else 0) else q9K (cD x) x.length
theorem qoZ(x:R)(h:64<x.length∨∀i,i<x.length→∀j,(cS x (i:Int) j).length≤1000000):(zq [.r x]).run=some (0,[.i (lE x)]):=by
 rw[qnd]
 unfold lE
 by_cases hn:64<x.length
 ·have:(64:Int)<qt x:=by unfold qt;omega
  simp only[STD,this,hn]
 ·have h':∀i,i<x.length→∀j,(cS x (i:Int) j).length≤1000000:=by
   rcases h with h|h
   ·omega
   ·exact h
  have hn':¬(64:Int)<qt x:=by unfold qt;omega
  have L:=qmE (S:=q2E) (fun k=>[.r x,.r x,.i (qt x),.i (k:Int)]) (cD x) [] [.r x] x.length (by omega)
   (fun i hi=>by
    rw[qc5]
    have c:=qan _ _ _ (h' i hi 0) (h' i hi 1) (h' i hi 2)
    have w:=q43 hi (show x.length<9223372036854775808 by omega)
    by_cases e:qrq (cS x (i:Int) 0) (cS x (i:Int) 1) (cS x (i:Int) 2)=0
    ·simp only[STD,c,e,w,qbm hi,q0h,and_self,cD]
    ·simp only[STD,c,e,qbm hi,q0h,and_self,cD])
   (by rw[qc5];simp only[STD,qmD])
  simp only[show ((0:Nat):Int)=0 from rfl] at L
  by_cases e:q9K (cD x) x.length=0
  ·rw[if_pos e] at L
   by_cases z:x.length=0
   ·have:qt x=0:=by unfold qt;omega
    rw[if_neg hn,if_pos e,if_pos z]
    have L':=L
    rw[this] at L'
    simp only[STD,this,show ¬(64:Int)<0 by omega,L',qM L']
   ·have:¬qt x=0:=by unfold qt;omega
    simp only[STD,hn',L,qM L,hn,e,z,this]
  ·rw[if_neg e] at L
   simp only[STD,hn',L,qM L,hn,e,show ¬(1=0) by omega]
theorem qhE(x:R)(h:64<x.length∨∀i,i<x.length→∀j,(cS x (i:Int) j).length≤1000000):(q1h [.r x]).run=some (0,[.i (lE x)]):=by
 rw[qfP]
 unfold lE
 by_cases hn:64<x.length
 ·have:(64:Int)<qt x:=by unfold qt;omega
  simp only[STD,this,hn]
 ·have h':∀i,i<x.length→∀j,(cS x (i:Int) j).length≤1000000:=by
   rcases h with h|h
   ·omega
   ·exact h
  have hn':¬(64:Int)<qt x:=by unfold qt;omega
  have L:=qmE (S:=q0t) (fun k=>[.r x,.i (k:Int)]) (cD x) [] [.r x] x.length (by omega)
   (fun i hi=>by
    rw[q3N]
    have c:=qfu _ _ _ (h' i hi 0) (h' i hi 1) (h' i hi 2)
    have w:=q43 hi (show x.length<9223372036854775808 by omega)
    by_cases e:qrq (cS x (i:Int) 0) (cS x (i:Int) 1) (cS x (i:Int) 2)=0
    ·simp only[STD,c,e,w,qbm hi,q0h,and_self,cD]
    ·simp only[STD,c,e,qbm hi,q0h,and_self,cD])
   (by rw[q3N];simp only[STD,qmD])
  simp only[show ((0:Nat):Int)=0 from rfl] at L
  by_cases e:q9K (cD x) x.length=0
  ·rw[if_pos e] at L
   by_cases z:x.length=0
   ·have:qt x=0:=by unfold qt;omega
    rw[if_neg hn,if_pos e,if_pos z]
    simp only[STD,this,show ¬(64:Int)<0 by omega,L,qM L]
   ·have:¬qt x=0:=by unfold qt;omega
    simp only[STD,hn',L,qM L,hn,e,z,this]
  ·rw[if_neg e] at L
   simp only[STD,hn',L,qM L,hn,e,show ¬(1=0) by omega]
instance (s:List UInt8):Decidable (shT s):=by unfold shT;infer_instance
theorem qyg(s:List UInt8):((12:Int)<qm s)=¬shT s:=by unfold qm shT;exact propext ⟨fun h=>by omega,fun h=>by omega⟩
theorem qtG(x y s:List UInt8):(q1w [.s x,.s y,.s s]).run=some (0,[.b (decide (shT x∧shT y∧shT s))]):=by
 rw[ql5]
 have nr:qt [[U.s x],[U.s y],[U.s s]]=3:=rfl
 have L:=q2N (S:=q1b) (fun k=>[.i 3,.i (k:Int),.r [[.s x],[.s y],[.s s]]]) (fun k=>if shT (cS [[.s x],[.s y],[.s s]] (k:Int) 0) then none else some ()) (fun _=>[.b false])
  [] 3 (by omega)
  (fun k hk=>by
   rw[qb4]
   have w:=q43 hk (show 3<9223372036854775808 by omega)
   by_cases c:shT (cS [[.s x],[.s y],[.s s]] (k:Int) 0)
   ·rw[if_pos c]
    simp only[STD,nr,show (k:Int)<3 by omega,q0h,and_self,qyg,c,w]
    rfl
   ·rw[if_neg c]
    simp only[STD,nr,show (k:Int)<3 by omega,q0h,and_self,qyg,c]
    try rfl)
  (by rw[qb4];simp only[STD,show ((3:Nat):Int)=3 from rfl,show ¬(3:Int)<3 by omega])
 have d0:cS [[.s x],[.s y],[.s s]] ((0:Nat):Int) 0=x:=rfl
 have d1:cS [[.s x],[.s y],[.s s]] ((0+1:Nat):Int) 0=y:=rfl
 have d2:cS [[.s x],[.s y],[.s s]] ((0+1+1:Nat):Int) 0=s:=rfl
 simp only[q1e,d0,d1,d2] at L
 simp only[show ((0:Nat):Int)=0 from rfl] at L
 by_cases c0:shT x
 ·by_cases c1:shT y
  ·by_cases c2:shT s
   ·simp only[c0,c1,c2,if_true,Option.elim] at L
    simp only[STD,nr,L,qM L,c0,c1,c2,and_self,decide_true]
   ·simp only[c0,c1,c2,if_true,if_false,Option.elim] at L
    simp only[STD,nr,L,qM L,c0,c1,c2,and_false,decide_false,show ¬(1=0) by omega]
  ·simp only[c0,c1,if_true,if_false,Option.elim] at L
   simp only[STD,nr,L,qM L,c0,c1,and_false,false_and,decide_false,show ¬(1=0) by omega]
 ·simp only[c0,if_false,Option.elim] at L
  simp only[STD,nr,L,qM L,c0,false_and,decide_false,show ¬(1=0) by omega]
def qhe(x:R)(i:Nat):Prop:=shT (cS x (i:Int) 0)∧shT (cS x (i:Int) 1)∧shT (cS x (i:Int) 2)
theorem qxy(x:R):∃b,(q4A [.r x]).run=some (0,[.b b])∧(b=true→(x.length≤5∧∀i,i<x.length→qhe x i)∨64<x.length)∧(x.length≤5→(∀i,i<x.length→qhe x i)→b=true):=by
 rw[qnG]
 have L:=q2N (S:=q3M) (fun k=>[.r x,.i (k:Int)]) (fun k=>if decide (shT (cS x (k:Int) 0)∧shT (cS x (k:Int) 1)∧shT (cS x (k:Int) 2))=true then none else some ()) (fun _=>[.b false])
  [.r x] (min x.length 6) (by omega)
  (fun k hk=>by
   rw[qdo]
   have hk':k<x.length:=by omega
   have w:=q43 hk (show min x.length 6<9223372036854775808 by omega)
   have s:=qtG (cS x (k:Int) 0) (cS x (k:Int) 1) (cS x (k:Int) 2)
   by_cases c:shT (cS x (k:Int) 0)∧shT (cS x (k:Int) 1)∧shT (cS x (k:Int) 2)
   ·have c':decide (shT (cS x (k:Int) 0)∧shT (cS x (k:Int) 1)∧shT (cS x (k:Int) 2))=true:=by simp[c]
    rw[if_pos c']
    rw[c'] at s
    simp only[STD,s,qbm hk',q0h,and_self,w,show (k:Int)<6 by omega]
    rfl
   ·have c':decide (shT (cS x (k:Int) 0)∧shT (cS x (k:Int) 1)∧shT (cS x (k:Int) 2))=false:=by simp only[c,decide_false]
    rw[c'] at s
    rw[c',if_neg (by simp)]
    simp only[STD,s,qbm hk',q0h,and_self,show (k:Int)<6 by omega]
    try rfl)
  (by
   rw[qdo]
   by_cases c:x.length≤6
   ·rw[Nat.min_eq_left c]
    simp only[STD,qmD]
   ·rw[Nat.min_eq_right (by omega)]
    have:((6:Nat):Int)<qt x:=by unfold qt;omega
    simp only[STD,this,show ¬((6:Nat):Int)<6 by omega])
 simp only[show ((0:Nat):Int)=0 from rfl] at L
 rcases quX (fun k=>decide (shT (cS x (k:Int) 0)∧shT (cS x (k:Int) 1)∧shT (cS x (k:Int) 2))) (fun _=>()) (min x.length 6) with⟨s1,s2⟩|⟨k,hk,s2,s1⟩
 ·rw[s1] at L
  simp only[Option.elim] at L
  by_cases c:x.length≤5
  ·have:qt x≤5:=by unfold qt;omega
   refine⟨true,by simp only[STD,L,qM L,this],fun _=>.inl ⟨c,fun i hi=>?_⟩,fun _ _=>rfl⟩
   have:=s2 i (by omega)
   simpa[qhe] using this
  ·have h5:¬qt x≤5:=by unfold qt;omega
   by_cases c':64<x.length
   ·have h6:(64:Int)<qt x:=by unfold qt;omega
    exact⟨ilt (qt x) 128,by simp only[STD,L,qM L,h5,h6],fun _=>.inr c',fun h=>absurd h c⟩
   ·have h6:¬(64:Int)<qt x:=by unfold qt;omega
    exact⟨false,by simp only[STD,L,qM L,h5,h6],fun h=>(by simp at h),fun h=>absurd h c⟩
 ·rw[s1] at L
  simp only[Option.elim] at L
  refine⟨false,by simp only[STD,L,qM L,show ¬(1=0) by omega],fun h=>(by simp at h),fun h1 h2=>?_⟩
  have:=h2 k (by omega)
  unfold qhe at this
  simp only[this,and_self,decide_true] at s2
  simp at s2
def isD(x:R):Prop:=∀r,r∈x→∃a b c,r=[U.s a,U.s b,U.s c]
theorem qxw{x:R}(h:UFit (.sl [.str,.str,.str]) (.l x)):isD x:=by
 cases h with
 | sl row l h hl hf=>
  intro r hr
  have hlen:=hl r hr
  match r,hlen with
  | [a,b,c],_=>
   have ha:=hf [a,b,c] 0 .str a hr rfl rfl
   have hb:=hf [a,b,c] 1 .str b hr rfl rfl
   have hc:=hf [a,b,c] 2 .str c hr rfl rfl
   cases ha;cases hb;cases hc
   exact⟨_,_,_,rfl⟩
theorem qmz(x:R)(i:Nat)(j:Nat):cS x (i:Int) j=((x.getD i []).getD j (.i 0)).toS:=rfl
theorem quY:∀{x:R},isD x→(∀i,i<x.length→qhe x i)→(∀i,i<x.length→cD x i=0)→∃l,x=rD l∧GDs l∧l.length=x.length
 | [],_,_,_=>⟨[],rfl,(fun d h=>nomatch h),rfl⟩
 | r::x,h1,h2,h3=>by
  obtain⟨l,e1,e2,e3⟩:=quY (x:=x) (fun r hr=>h1 r (List.mem_cons_of_mem _ hr))
   (fun i hi=>by have:=h2 (i+1) (by simp;omega);unfold qhe at this ⊢;simp only[qmz] at this ⊢;simpa using this)
   (fun i hi=>by have:=h3 (i+1) (by simp;omega);unfold cD at this ⊢;simp only[qmz] at this ⊢;simpa using this)
  obtain⟨a,b,c,rfl⟩:=h1 r List.mem_cons_self
  have s:=h2 0 (by simp)
  have k:=h3 0 (by simp)
  unfold qhe at s
  unfold cD at k
  have z0:cS ([U.s a,U.s b,U.s c]::x) ((0:Nat):Int) 0=a:=rfl
  have z1:cS ([U.s a,U.s b,U.s c]::x) ((0:Nat):Int) 1=b:=rfl
  have z2:cS ([U.s a,U.s b,U.s c]::x) ((0:Nat):Int) 2=c:=rfl
  rw[z0,z1,z2] at s k
  obtain⟨d,gd,rfl,rfl,rfl⟩:=qze k s.1 s.2.1 s.2.2
  refine⟨d::l,by rw[e1];rfl,fun e he=>?_,by simp[e3]⟩
  rcases List.mem_cons.1 he with rfl|he
  ·exact gd
  ·exact e2 e he
theorem qtR{x:R}(hD:isD x)(hF:(x.length≤5∧∀i,i<x.length→qhe x i)∨64<x.length)(h:lE x=0):∃l,x=rD l∧GDs l∧l≠[]∧l.length≤5:=by
 unfold lE at h
 split at h
 ·omega
 ·rename_i hn
  obtain⟨h5,hs⟩:x.length≤5∧∀i,i<x.length→qhe x i:=by
   rcases hF with h|h
   ·exact h
   ·omega
  split at h
  ·rename_i he
   split at h
   ·omega
   ·rename_i hz
    obtain⟨l,e1,e2,e3⟩:=quY hD hs (fun i hi=>qpC he i hi)
    exact⟨l,e1,e2,fun h=>hz (by rw[←e3,h];rfl),by omega⟩
  ·rename_i he;exact absurd h he
theorem qxA{x:R}(hF:(x.length≤5∧∀i,i<x.length→qhe x i)∨64<x.length)(hD:isD x):64<x.length∨∀i,i<x.length→∀j,(cS x (i:Int) j).length≤1000000:=by
 rcases hF with⟨h1,h2⟩|h
 ·right
  intro i hi j
  obtain⟨s0,s1,s2⟩:=h2 i hi
  match j with
  | 0=>exact qln s0
  | 1=>exact qln s1
  | 2=>exact qln s2
  | j+3=>
   rw[qmz]
   have hm:x.getD i []∈x:=by simp[List.getD_eq_getElem?_getD,hi]
   obtain⟨a,b,c,e⟩:=hD _ hm
   rw[e];simp[List.getD_eq_getElem?_getD,U.toS]
 ·exact .inl h
theorem qyX{l:List DQ}(hl:GDs l)(h0:l≠[])(hn:l.length≤64):lE (rD l)=0:=by
 have hlen:(rD l).length=l.length:=by simp[rD]
 have hz:l.length≠0:=fun h=>h0 (List.length_eq_zero_iff.1 h)
 unfold lE
 rw[hlen,if_neg (by omega),if_neg hz,if_pos]
 refine quM fun i hi=>?_
 obtain⟨x1,x2,x3⟩:=qkC hi
 unfold cD
 rw[x1,x2,x3]
 exact qtO (hl.ix hi)
theorem qxg{l:List DQ}(hl:GDs l):∀i,i<(rD l).length→∀j,(cS (rD l) (i:Int) j).length≤1000000:=by
 intro i hi j
 have hi':i<l.length:=by simpa[rD] using hi
 obtain⟨x1,x2,x3⟩:=qkC hi'
 have g:=hl.ix hi'
 match j with
 | 0=>rw[x1];have:=q7w ((zQ g.x).ok (by omega) (by omega));omega
 | 1=>rw[x2];have:=q7w ((zQ g.y).ok (by omega) (by omega));omega
 | 2=>rw[x3];have:=q7w ((q3Q g.s).ok (by omega) (by omega));omega
 | j+3=>
  rw[qmz]
  have e:(rD l).getD i []=qbq (ix l i):=by
   unfold rD ix
   simp[List.getD_eq_getElem?_getD,hi']
  rw[e];simp[qbq,List.getD_eq_getElem?_getD,U.toS]
theorem qjy{l:List DQ}(hl:GDs l)(h0:l≠[])(hn:l.length≤64):(zq [.r (rD l)]).run=some (0,[.i 0]):=by
 rw[qoZ _ (.inr (qxg hl)),qyX hl h0 hn]
def cW(o:Option (Nat×Nat×Int)):List PV:=o.elim [.b false,.i 0,.i 0,.i 0,.i 0] (fun w=>[.b true,.i (w.1:Int),.i (w.2.1:Int),.i w.2.2,.i 0])
theorem q7c{l:List DQ}(hl:GDs l)(h0:l≠[])(hn:l.length≤64):(qV [.r (rD l)]).run=some (0,cW (yx l)):=by
 rw[qiD]
 have a:=qjy hl h0 hn
 have b:=qpi hl (by omega)
 cases hf:yx l with
 | none=>
  rw[hf] at b
  simp only[fW,Option.elim,List.cons_append,List.nil_append] at b
  simp only[STD,a,b,cW,Option.elim]
 | some w=>
  rw[hf] at b
  simp only[fW,Option.elim,List.cons_append,List.nil_append] at b
  simp only[STD,a,b,cW,Option.elim]
def vE(n x1 x2 x3:Int):Int:=if x1<0∨n≤x1∨x2<0∨n≤x2 then 2 else if x2<x1 then 9 else if x3 < -1∨1<x3 then 1 else 0
def vB(l:List DQ)(x1 x2 x3:Int):Bool:=if vE l.length x1 x2 x3=0 then q24 l x1.toNat x2.toNat x3 else false
theorem qpQ{l:List DQ}(hl:GDs l)(h0:l≠[])(hn:l.length≤64)(x1 x2 x3:Int):(uz [.r (rD l),.i x1,.i x2,.i x3]).run=some (0,[.b (vB l x1 x2 x3),.i (vE l.length x1 x2 x3)]):=by
 rw[qkp]
 have a:=qjy hl h0 hn
 unfold vB vE
 by_cases c1:x1<0
 ·simp only[STD,a,c1,true_or,show ¬((2:Int)=0) by omega]
 by_cases c2:(l.length:Int)≤x1
 ·simp only[STD,a,c1,c2,zp,true_or,or_true,show ¬((2:Int)=0) by omega]
 by_cases c3:x2<0
 ·simp only[STD,a,c1,c2,c3,zp,true_or,or_true,show ¬((2:Int)=0) by omega]
 by_cases c4:(l.length:Int)≤x2
 ·simp only[STD,a,c1,c2,c3,c4,zp,or_true,show ¬((2:Int)=0) by omega]
 by_cases c5:x2<x1
 ·simp only[STD,a,c1,c2,c3,c4,c5,zp,or_self,show ¬((9:Int)=0) by omega]
 by_cases c6:x3 < -1
 ·simp only[STD,a,c1,c2,c3,c4,c5,c6,zp,or_self,true_or,show ¬((1:Int)=0) by omega]
 by_cases c7:1<x3
 ·simp only[STD,a,c1,c2,c3,c4,c5,c6,c7,zp,or_self,or_true,show ¬((1:Int)=0) by omega]
 have p:=qmK hl (by omega) (i:=x1.toNat) (j:=x2.toNat) (by omega) (by omega) x3
 rw[show ((x1.toNat:Nat):Int)=x1 by omega,show ((x2.toNat:Nat):Int)=x2 by omega] at p
 simp only[STD,a,c1,c2,c3,c4,c5,c6,c7,zp,or_self,p]
end Go.Eng

namespace Go.Eng
theorem q74(l:R)(h:l.length<9223372036854775808):(wj [.r l,.r l]).run=some (0,[.b true]):=by
 have e:(qj va [.r l,.r l,.i (qt l),.i 0]).run=some (0,[]):=by
  refine yM (fun i=>[.r l,.r l,.i (qt l),.i (i:Int)]) (0,[]) l.length h (fun i hi=>?_) ?_
  ·have h1:(i:Int)<qt l:=by unfold qt;omega
   rw[q2m]
   simp only[STD,h1,q43 hi h,show (0:Int)≤(i:Int) by omega,and_self]
  ·rw[q2m]
   simp only[STD,show ¬((l.length:Int)<qt l) by unfold qt;omega]
 rw[qaf]
 simp only[STD,e,qM e]
end Go.Eng

namespace Go.Eng
def two(i j:Nat):R:=[[.i (i:Int)],[.i (j:Int)]]
def qgy(i j k:Nat):R:=[[.i (i:Int)],[.i (j:Int)],[.i (k:Int)]]
def q3f(l:List DQ)(i j:Nat):Option R:=if (yx [ix l i,ix l j]).isSome=true then none else some (two i j)
def q8j(l:List DQ)(i j k:Nat):Option R:=if (yx [ix l i,ix l j,ix l k]).isSome=true then none else some (qgy i j k)
def qp9(l:List DQ):Option R:=q1e (fun i=>q1e (fun k=>q3f l i (i+1+k)) 0 (l.length-(i+1))) 0 l.length
def qsx(l:List DQ):Option R:=q1e (fun i=>q1e (fun k=>q1e (fun m=>q8j l i (i+1+k) (i+1+k+1+m)) 0 (l.length-(i+1+k+1))) 0 (l.length-(i+1))) 0 l.length
def q4x(l:List DQ):R:=(qp9 l).elim ((qsx l).getD []) id
theorem qyR{a b:DQ}(ga:GD a)(gb:GD b):GDs [a,b]:=fun d hd=>by
 simp only[List.mem_cons,List.not_mem_nil,or_false] at hd
 rcases hd with rfl|rfl<;>assumption
theorem qzj{a b c:DQ}(ga:GD a)(gb:GD b)(gc:GD c):GDs [a,b,c]:=fun d hd=>by
 simp only[List.mem_cons,List.not_mem_nil,or_false] at hd
 rcases hd with rfl|rfl|rfl<;>assumption
theorem qt2(o:Option (Nat×Nat×Int)):∃a b c,fW o=[.i a,.i b,.i c,.b o.isSome]:=by
 cases o with
 | none=>exact⟨_,_,_,rfl⟩
 | some w=>exact⟨_,_,_,rfl⟩
theorem qz4(l:List DQ)(i j k:Nat)(hk:k<2):∃m,(m=i∨m=j)∧cI (two i j) (k:Int) 0=(m:Int)∧[qbq (ix l i),qbq (ix l j)].take (k+1)=[qbq (ix l i),qbq (ix l j)].take k++[qbq (ix l m)]:=by
 rcases (show k=0∨k=1 by omega) with rfl|rfl
 ·exact⟨i,.inl rfl,rfl,rfl⟩
 ·exact⟨j,.inr rfl,rfl,rfl⟩
theorem qzd(l:List DQ)(i j o k:Nat)(hk:k<3):∃m,(m=i∨m=j∨m=o)∧cI (qgy i j o) (k:Int) 0=(m:Int)∧[qbq (ix l i),qbq (ix l j),qbq (ix l o)].take (k+1)=[qbq (ix l i),qbq (ix l j),qbq (ix l o)].take k++[qbq (ix l m)]:=by
 rcases (show k=0∨k=1∨k=2 by omega) with rfl|rfl|rfl
 ·exact⟨i,.inl rfl,rfl,rfl⟩
 ·exact⟨j,.inr (.inl rfl),rfl,rfl⟩
 ·exact⟨o,.inr (.inr rfl),rfl,rfl⟩
theorem qnM{x:R}{k:Nat}:qt (x.take k)≤qt x:=by unfold qt;rw[List.length_take];omega
theorem qrk(i j:Nat):qt (two i j)=2:=rfl
theorem qlO(i j k:Nat):qt (qgy i j k)=3:=rfl
theorem qsW{l:List DQ}(_:l.length<1000000){i j:Nat}(hi:i<l.length)(hj:j<l.length)(a b c d e f g h:Int) :
  (qj qX [.i (qt (two i j)),.i 0,.i a,.i b,.i c,.i d,.i e,.r (rD l),.i f,.i g,.i h,.r (rD l),.i 0,.r (two i j),.r []]).run=some (0,[.i a,.i b,.i c,.i d,.i e,.r (rD l),.i f,.i g,.i h,.r (rD l),.i 0,.r (two i j),.r (rD [ix l i,ix l j])]):=by
 have key:=yM (S:=qX) (fun k=>[.i (qt (two i j)),.i (k:Int),.i a,.i b,.i c,.i d,.i e,.r (rD l),.i f,.i g,.i h,.r (rD l),.i 0,.r (two i j),.r ([qbq (ix l i),qbq (ix l j)].take k)])
  (0,[.i a,.i b,.i c,.i d,.i e,.r (rD l),.i f,.i g,.i h,.r (rD l),.i 0,.r (two i j),.r (rD [ix l i,ix l j])]) 2 (by omega)
  (fun k hk=>by
   rw[kL]
   obtain⟨m,hm,e1,e2⟩:=qz4 l i j k hk
   have hml:m<l.length:=by rcases hm with rfl|rfl<;>assumption
   obtain⟨x1,x2,x3⟩:=qkC hml
   have w:=q43 hk (show 2<9223372036854775808 by omega)
   have t:=qnM (x:=[qbq (ix l i),qbq (ix l j)]) (k:=k)
   have t2:qt [qbq (ix l i),qbq (ix l j)]=2:=rfl
   have t1:qt [[U.s (tQ (ix l m).x),U.s (tQ (ix l m).y),U.s (tQ (ix l m).s)]]=1:=rfl
   rw[e1,x1,x2,x3,e2]
   simp only[STD,qrk,show (k:Int)<2 by omega,q0h,zp,show (m:Int)<(l.length:Int) by omega,and_self,w,show qt ([qbq (ix l i),qbq (ix l j)].take k)+qt [[U.s (tQ (ix l m).x),U.s (tQ (ix l m).y),U.s (tQ (ix l m).s)]]≤2932031007402 by omega]
   rfl)
  (by rw[kL];simp only[STD,qrk,show ¬((2:Nat):Int)<2 by omega];rfl)
 exact key
theorem quq{l:List DQ}(_:l.length<1000000){i j o:Nat}(hi:i<l.length)(hj:j<l.length)(ho:o<l.length)(a b c d e f g h p q:Int) :
  (qj qW [.i (qt (qgy i j o)),.i 0,.i a,.i b,.i c,.i d,.i e,.i f,.r (rD l),.i g,.i h,.i p,.i q,.r (rD l),.i 0,.r (qgy i j o),.r []]).run=some (0,[.i a,.i b,.i c,.i d,.i e,.i f,.r (rD l),.i g,.i h,.i p,.i q,.r (rD l),.i 0,.r (qgy i j o),.r (rD [ix l i,ix l j,ix l o])]):=by
 have key:=yM (S:=qW) (fun k=>[.i (qt (qgy i j o)),.i (k:Int),.i a,.i b,.i c,.i d,.i e,.i f,.r (rD l),.i g,.i h,.i p,.i q,.r (rD l),.i 0,.r (qgy i j o),.r ([qbq (ix l i),qbq (ix l j),qbq (ix l o)].take k)])
  (0,[.i a,.i b,.i c,.i d,.i e,.i f,.r (rD l),.i g,.i h,.i p,.i q,.r (rD l),.i 0,.r (qgy i j o),.r (rD [ix l i,ix l j,ix l o])]) 3 (by omega)
  (fun k hk=>by
   rw[kN]
   obtain⟨m,hm,e1,e2⟩:=qzd l i j o k hk
   have hml:m<l.length:=by rcases hm with rfl|rfl|rfl<;>assumption
   obtain⟨x1,x2,x3⟩:=qkC hml
   have w:=q43 hk (show 3<9223372036854775808 by omega)
   have t:=qnM (x:=[qbq (ix l i),qbq (ix l j),qbq (ix l o)]) (k:=k)
   have t2:qt [qbq (ix l i),qbq (ix l j),qbq (ix l o)]=3:=rfl
   have t1:qt [[U.s (tQ (ix l m).x),U.s (tQ (ix l m).y),U.s (tQ (ix l m).s)]]=1:=rfl
   rw[e1,x1,x2,x3,e2]
   simp only[STD,qlO,show (k:Int)<3 by omega,q0h,zp,show (m:Int)<(l.length:Int) by omega,and_self,w,show qt ([qbq (ix l i),qbq (ix l j),qbq (ix l o)].take k)+qt [[U.s (tQ (ix l m).x),U.s (tQ (ix l m).y),U.s (tQ (ix l m).s)]]≤2932031007402 by omega]
   rfl)
  (by rw[kN];simp only[STD,qlO,show ¬((3:Nat):Int)<3 by omega];rfl)
 exact key
theorem qeC{l:List DQ}(hl:GDs l)(h0:l≠[])(hn:l.length≤64):(qT [.r (rD l)]).run=some (0,[.r (q4x l),.i 0]):=by
 rw[qbs]
 have a:=qjy hl h0 hn
 have big:l.length<9223372036854775808:=by omega
 have A:=fun i (hi:i<l.length)=>q2N (S:=wY) (fun k=>[.i (i:Int),.i ((i+1+k:Nat):Int),.i (l.length:Int),.i (i:Int),.r (rD l),.i 0]) (fun k=>q3f l i (i+1+k)) (fun r=>[.i 0,.r r])
  [.i (l.length:Int),.i (i:Int),.r (rD l),.i 0] (l.length-(i+1)) (by omega)
  (fun k hk=>by
   rw[q2o]
   have hj:i+1+k<l.length:=by omega
   have g:=qsW (l:=l) (by omega) hi hj (i:Int) ((i+1+k:Nat):Int) (l.length:Int) (i:Int) ((i+1+k:Nat):Int) (l.length:Int) (i:Int) ((i+1+k:Nat):Int)
   have f:=qpi (qyR (hl.ix hi) (hl.ix hj)) (by simp)
   obtain⟨u,v,w,hfw⟩:=qt2 (yx [ix l i,ix l (i+1+k)])
   rw[hfw] at f
   simp only[List.cons_append,List.nil_append] at f
   have ws:=q43 hj big
   have tw:[[U.i (i:Int)],[U.i ((i+1+k:Nat):Int)]]=two i (i+1+k):=rfl
   rw[tw]
   unfold q3f
   cases hs:(yx [ix l i,ix l (i+1+k)]).isSome
   ·rw[hs] at f
    simp only[STD,zp,g,f,show ((i+1+k:Nat):Int)<(l.length:Int) by omega,show ieq 0 0=true from rfl,Option.elim,tw]
   ·rw[hs] at f
    simp only[STD,zp,g,f,show ((i+1+k:Nat):Int)<(l.length:Int) by omega,Option.elim,ws]
    rfl)
  (by rw[q2o];simp only[STD,zp,show ¬((i+1+(l.length-(i+1)):Nat):Int)<(l.length:Int) by omega])
 have B:=q2N (S:=vj) (fun i=>[.i (l.length:Int),.i (i:Int),.r (rD l),.i 0]) (fun i=>q1e (fun k=>q3f l i (i+1+k)) 0 (l.length-(i+1))) (fun r=>[.i 0,.r r])
  [.r (rD l),.i 0] l.length big
  (fun i hi=>by
   rw[q3d]
   have c:=A i hi
   simp only[Nat.add_zero] at c
   have w:=q43 hi big
   cases hs:q1e (fun k=>q3f l i (i+1+k)) 0 (l.length-(i+1)) with
   | none=>
    rw[hs] at c
    simp only[Option.elim] at c ⊢
    simp only[STD,w,c,qM c,show (i:Int)<(l.length:Int) by omega]
   | some v=>
    rw[hs] at c
    simp only[Option.elim] at c ⊢
    simp only[STD,w,c,qM c,show (i:Int)<(l.length:Int) by omega,show ¬(1=0) by omega])
  (by rw[q3d];simp only[STD,show ¬(l.length:Int)<(l.length:Int) by omega])
 have C:=fun i j (hi:i<l.length) (hj:j<l.length)=>q2N (S:=wM) (fun k=>[.i (i:Int),.i (j:Int),.i ((j+1+k:Nat):Int),.i (l.length:Int),.i (i:Int),.r (rD l),.i 0]) (fun k=>q8j l i j (j+1+k)) (fun r=>[.i 0,.r r])
  [.i (i:Int),.i (j:Int),.i (l.length:Int),.i (i:Int),.r (rD l),.i 0] (l.length-(j+1)) (by omega)
  (fun k hk=>by
   rw[q2t]
   have ho:j+1+k<l.length:=by omega
   have g:=quq (l:=l) (by omega) hi hj ho (i:Int) (j:Int) ((j+1+k:Nat):Int) (l.length:Int) (i:Int) ((j+1+k:Nat):Int) (l.length:Int) (i:Int) (j:Int) ((j+1+k:Nat):Int)
   have f:=qpi (qzj (hl.ix hi) (hl.ix hj) (hl.ix ho)) (by simp)
   obtain⟨u,v,w,hfw⟩:=qt2 (yx [ix l i,ix l j,ix l (j+1+k)])
   rw[hfw] at f
   simp only[List.cons_append,List.nil_append] at f
   have ws:=q43 ho big
   have tw:[[U.i (i:Int)],[U.i (j:Int)],[U.i ((j+1+k:Nat):Int)]]=qgy i j (j+1+k):=rfl
   rw[tw]
   unfold q8j
   cases hs:(yx [ix l i,ix l j,ix l (j+1+k)]).isSome
   ·rw[hs] at f
    simp only[STD,zp,g,f,show ((j+1+k:Nat):Int)<(l.length:Int) by omega,show ieq 0 0=true from rfl,Option.elim,tw]
   ·rw[hs] at f
    simp only[STD,zp,g,f,show ((j+1+k:Nat):Int)<(l.length:Int) by omega,Option.elim,ws]
    rfl)
  (by rw[q2t];simp only[STD,zp,show ¬((j+1+(l.length-(j+1)):Nat):Int)<(l.length:Int) by omega])
 have D:=fun i (hi:i<l.length)=>q2N (S:=v6) (fun k=>[.i (i:Int),.i ((i+1+k:Nat):Int),.i (l.length:Int),.i (i:Int),.r (rD l),.i 0]) (fun k=>q1e (fun m=>q8j l i (i+1+k) (i+1+k+1+m)) 0 (l.length-(i+1+k+1))) (fun r=>[.i 0,.r r])
  [.i (l.length:Int),.i (i:Int),.r (rD l),.i 0] (l.length-(i+1)) (by omega)
  (fun k hk=>by
   rw[q2r]
   have hj:i+1+k<l.length:=by omega
   have c:=C i (i+1+k) hi hj
   simp only[Nat.add_zero] at c
   have w:=q43 hj big
   cases hs:q1e (fun m=>q8j l i (i+1+k) (i+1+k+1+m)) 0 (l.length-(i+1+k+1)) with
   | none=>
    rw[hs] at c
    simp only[Option.elim] at c ⊢
    simp only[STD,w,c,qM c,zp,show ((i+1+k:Nat):Int)<(l.length:Int) by omega]
    rfl
   | some v=>
    rw[hs] at c
    simp only[Option.elim] at c ⊢
    simp only[STD,w,c,qM c,zp,show ((i+1+k:Nat):Int)<(l.length:Int) by omega,show ¬(1=0) by omega])
  (by rw[q2r];simp only[STD,zp,show ¬((i+1+(l.length-(i+1)):Nat):Int)<(l.length:Int) by omega])
 have E:=q2N (S:=wX) (fun i=>[.i (l.length:Int),.i (i:Int),.r (rD l),.i 0]) (fun i=>q1e (fun k=>q1e (fun m=>q8j l i (i+1+k) (i+1+k+1+m)) 0 (l.length-(i+1+k+1))) 0 (l.length-(i+1))) (fun r=>[.i 0,.r r])
  [.i 0] l.length big
  (fun i hi=>by
   rw[q2F]
   have c:=D i hi
   simp only[Nat.add_zero] at c
   have w:=q43 hi big
   cases hs:q1e (fun k=>q1e (fun m=>q8j l i (i+1+k) (i+1+k+1+m)) 0 (l.length-(i+1+k+1))) 0 (l.length-(i+1)) with
   | none=>
    rw[hs] at c
    simp only[Option.elim] at c ⊢
    simp only[STD,w,c,qM c,show (i:Int)<(l.length:Int) by omega]
   | some v=>
    rw[hs] at c
    simp only[Option.elim] at c ⊢
    simp only[STD,w,c,qM c,show (i:Int)<(l.length:Int) by omega,show ¬(1=0) by omega])
  (by rw[q2F];simp only[STD,show ¬(l.length:Int)<(l.length:Int) by omega])
 simp only[show ((0:Nat):Int)=0 from rfl] at B E
 unfold q4x
 cases hp:qp9 l with
 | some r=>
  rw[show q1e (fun i=>q1e (fun k=>q3f l i (i+1+k)) 0 (l.length-(i+1))) 0 l.length=some r from hp] at B
  simp only[Option.elim] at B
  simp only[STD,a,zp,B,qM B,Option.elim,id,show ¬(1=0) by omega]
 | none=>
  rw[show q1e (fun i=>q1e (fun k=>q3f l i (i+1+k)) 0 (l.length-(i+1))) 0 l.length=none from hp] at B
  simp only[Option.elim] at B
  cases ht:qsx l with
  | some r=>
   rw[show q1e (fun i=>q1e (fun k=>q1e (fun m=>q8j l i (i+1+k) (i+1+k+1+m)) 0 (l.length-(i+1+k+1))) 0 (l.length-(i+1))) 0 l.length=some r from ht] at E
   simp only[Option.elim] at E
   simp only[STD,a,zp,B,qM B,E,qM E,Option.elim,Option.getD_some,show ¬(1=0) by omega]
  | none=>
   rw[show q1e (fun i=>q1e (fun k=>q1e (fun m=>q8j l i (i+1+k) (i+1+k+1+m)) 0 (l.length-(i+1+k+1))) 0 (l.length-(i+1))) 0 l.length=none from ht] at E
   simp only[Option.elim] at E
   simp only[STD,a,zp,B,qM B,E,qM E,Option.elim,Option.getD_none]
end Go.Eng

namespace Go.Eng
def qvw(l:List DQ)(i k:Nat):Bool:=decide (k≠i)&&decide (q34 (ix l k) (ix l i))&&(decide (k<i)||!decide (q34 (ix l i) (ix l k)))
def fnd(l:List DQ)(i k:Nat):Bool:=(List.range k).any (qvw l i)
def D4(x y s:Rat):DQ:=⟨x,y,s⟩
theorem qv0{q:Rat}(h:qn q≤10∧qd q≤10):cls q:=.inr h
theorem gdx{x y s:Rat}(hx:qn x≤10∧qd x≤10)(hy:qn y≤10∧qd y≤10)(hs:qn s≤10∧qd s≤10)(h:0≤s):GD (D4 x y s):=⟨qv0 hx,qv0 hy,qyB (qv0 hs),h⟩
end Go.Eng

namespace Go.Eng
theorem t0:tQ 0=[48]:=rfl
theorem t1:tQ 1=[49]:=by decide +kernel
theorem t2':tQ 2=[50]:=by decide +kernel
theorem t4:tQ 4=[52]:=by decide +kernel
theorem t5:tQ 5=[53]:=by decide +kernel
theorem t53:tQ (5/3)=[53,47,51]:=by decide +kernel
theorem qzp:yx [D4 0 0 4,D4 4 0 4]=some (0,1,0):=by decide +kernel
theorem qzk:yx [D4 0 0 5,D4 4 0 5]=some (0,1,1):=by decide +kernel
theorem qzm:q4x [D4 0 0 1,D4 4 0 1]=[[.i 0],[.i 1]]:=by
 have h1:yx [D4 0 0 1,D4 4 0 1]=none:=by decide +kernel
 have e:∀i j k,q1e (fun k=>q3f [D4 0 0 1,D4 4 0 1] i (i+1+k)) j k=q1e (fun k=>q3f [D4 0 0 1,D4 4 0 1] i (i+1+k)) j k:=fun _ _ _=>rfl
 have z:q3f [D4 0 0 1,D4 4 0 1] 0 1=some (two 0 1):=by
  unfold q3f
  have:[ix [D4 0 0 1,D4 4 0 1] 0,ix [D4 0 0 1,D4 4 0 1] 1]=[D4 0 0 1,D4 4 0 1]:=rfl
  rw[this,h1];rfl
 unfold q4x qp9
 simp only[show ([D4 0 0 1,D4 4 0 1]).length=2 from rfl,q1e,Nat.zero_add,Nat.add_zero,show 2-1=1 from rfl,z,Option.elim,id]
 rfl
theorem qzo:q4x [D4 0 0 1,D4 2 0 1,D4 1 (5/3) 1]=[[.i 0],[.i 1],[.i 2]]:=by
 have h1:(yx [D4 0 0 1,D4 2 0 1]).isSome=true:=by decide +kernel
 have h2:(yx [D4 0 0 1,D4 1 (5/3) 1]).isSome=true:=by decide +kernel
 have h3:(yx [D4 2 0 1,D4 1 (5/3) 1]).isSome=true:=by decide +kernel
 have h4:yx [D4 0 0 1,D4 2 0 1,D4 1 (5/3) 1]=none:=by decide +kernel
 have z1:q3f [D4 0 0 1,D4 2 0 1,D4 1 (5/3) 1] 0 1=none:=by unfold q3f;rw[if_pos];exact h1
 have z2:q3f [D4 0 0 1,D4 2 0 1,D4 1 (5/3) 1] 0 2=none:=by unfold q3f;rw[if_pos];exact h2
 have z3:q3f [D4 0 0 1,D4 2 0 1,D4 1 (5/3) 1] 1 2=none:=by unfold q3f;rw[if_pos];exact h3
 have z4:q8j [D4 0 0 1,D4 2 0 1,D4 1 (5/3) 1] 0 1 2=some (qgy 0 1 2):=by
  unfold q8j
  have:[ix [D4 0 0 1,D4 2 0 1,D4 1 (5/3) 1] 0,ix [D4 0 0 1,D4 2 0 1,D4 1 (5/3) 1] 1,ix [D4 0 0 1,D4 2 0 1,D4 1 (5/3) 1] 2]=[D4 0 0 1,D4 2 0 1,D4 1 (5/3) 1]:=rfl
  rw[this,h4];rfl
 unfold q4x qp9 qsx
 simp only[show ([D4 0 0 1,D4 2 0 1,D4 1 (5/3) 1]).length=3 from rfl,q1e,Nat.sub_self,show 3-1=2 from rfl,show 3-2=1 from rfl,show 1+1=2 from rfl,show 0+1=1 from rfl,show 2+1=3 from rfl,z1,z2,z3,z4,Option.elim,Option.getD_some]
 rfl
theorem qzl:qxd (D4 0 0 1) (D4 1 0 4)=2:=by decide +kernel
theorem qj9:(jS []).run=some (0,[.b true]):=by
 rw[qkH]
 have g1:GD (D4 0 0 4):=gdx (by decide +kernel) (by decide +kernel) (by decide +kernel) (by decide +kernel)
 have g2:GD (D4 4 0 4):=gdx (by decide +kernel) (by decide +kernel) (by decide +kernel) (by decide +kernel)
 have g3:GD (D4 0 0 5):=gdx (by decide +kernel) (by decide +kernel) (by decide +kernel) (by decide +kernel)
 have g4:GD (D4 4 0 5):=gdx (by decide +kernel) (by decide +kernel) (by decide +kernel) (by decide +kernel)
 have g5:GD (D4 0 0 1):=gdx (by decide +kernel) (by decide +kernel) (by decide +kernel) (by decide +kernel)
 have g6:GD (D4 4 0 1):=gdx (by decide +kernel) (by decide +kernel) (by decide +kernel) (by decide +kernel)
 have g7:GD (D4 2 0 1):=gdx (by decide +kernel) (by decide +kernel) (by decide +kernel) (by decide +kernel)
 have g8:GD (D4 1 (5/3) 1):=gdx (by decide +kernel) (by decide +kernel) (by decide +kernel) (by decide +kernel)
 have g9:GD (D4 1 0 4):=gdx (by decide +kernel) (by decide +kernel) (by decide +kernel) (by decide +kernel)
 have a:=q7c (qyR g1 g2) (by simp) (by simp)
 have b:=q7c (qyR g3 g4) (by simp) (by simp)
 have c:=qeC (qyR g5 g6) (by simp) (by simp)
 have d:=qeC (qzj g5 g7 g8) (by simp) (by simp)
 have e:=qq7 g5 g9
 rw[qzp] at a
 rw[qzk] at b
 rw[qzm] at c
 rw[qzo] at d
 rw[qzl] at e
 simp only[rD,qbq,List.map_cons,List.map_nil,D4,t0,t1,t2',t4,t5,t53,cW,Option.elim] at a b c d e
 have f1:=q74 [[.i 0],[.i 1]] (by simp)
 have f2:=q74 [[.i 0],[.i 1],[.i 2]] (by simp)
 have D:∀x y s,(wQ [.s x,.s y,.s s]).run=some (0,[.s x,.s y,.s s]):=fun x y s=>by rw[qm5];rfl
 have w:qh .i64 0 0=0:=by decide
 simp only[STD,D,a,b,c,d,e,f1,f2,w,show ((0:Nat):Int)=0 from rfl,show ((1:Nat):Int)=1 from rfl,and_self]
 rfl
end Go.Eng

namespace Go.Eng
theorem qrd{a b:DQ}(na:0≤a.s)(nb:0≤b.s)(h:q34 a b) :
  let D:=q1X a.x a.y b.x b.y
  D≤b.s-a.s∧4*(a.s*b.s)≤(a.s+b.s-D)*(a.s+b.s-D)∧0≤a.s+b.s-D:=by
 obtain⟨hs,hp⟩:=h
 unfold qmL at hp
 simp only
 generalize q1X a.x a.y b.x b.y=D at *
 have hc:=qwj na nb
 obtain⟨T,t0,t1,t2⟩:=qnu hc hp
 have sa:a.s*a.s≤a.s*b.s:=Rat.mul_le_mul_of_nonneg_left hs na
 have key:D-(a.s+b.s)+2*a.s≤0:=by
  rcases Rat.le_total (a:=T) (b:=a.s) with hT|hT
  ·exact t2 a.s hT sa
  ·have:=t2 T Rat.le_refl t1
   grind
 refine⟨by grind,?_,by grind⟩
 rw[qie hc] at hp
 rcases hp with⟨h1,h2⟩|⟨-,h2,-⟩
 ·rcases h2 with h2|h2|h2
  ·exact absurd h2 (by decide)
  ·have:=q5r (a.s+b.s-D)
   rw[h2];grind
  ·grind
 ·exact absurd h2 (by decide)
theorem qrK{a b:DQ}(na:0≤a.s)(nb:0≤b.s)(h:q34 a b){x y:Rat}(hp:pw a x y≤0):pw b x y≤0:=by
 obtain⟨h1,h2,h3⟩:=qrd na nb h
 apply Rat.not_lt.1
 intro hn
 have eD:q1X a.x a.y b.x b.y=(a.x-b.x)*(a.x-b.x)+(a.y-b.y)*(a.y-b.y):=rfl
 generalize q1X a.x a.y b.x b.y=D at *
 obtain⟨c,hc⟩:∃c,c=(x-a.x)*(a.x-b.x)+(y-a.y)*(a.y-b.y):=⟨_,rfl⟩
 obtain⟨P,hP⟩:∃P,P=(x-a.x)*(x-a.x)+(y-a.y)*(y-a.y):=⟨_,rfl⟩
 have D0:0≤D:=by have:=q5r (a.x-b.x);have:=q5r (a.y-b.y);grind
 have e1:pw a x y=P-a.s:=by rw[hP];rfl
 have e2:pw b x y=P+D+2*c-b.s:=by rw[hP,eD,hc];unfold pw;grind
 have cs:c*c≤P*D:=by
  have:=q5r ((x-a.x)*(a.y-b.y)-(y-a.y)*(a.x-b.x))
  rw[hP,hc,eD];clear e1 e2 hP hc eD h1 h2 h3 hn hp;grind
 rw[e1] at hp
 rw[e2] at hn
 have k1:P*D≤a.s*D:=Rat.mul_le_mul_of_nonneg_right (by grind) D0
 have k2:0≤b.s-a.s-D:=by grind
 have k3:b.s-a.s-D<2*c:=by grind
 have k4:(b.s-a.s-D)*(b.s-a.s-D)<4*(c*c):=by
  have m1:=Rat.mul_pos (show 0<2*c-(b.s-a.s-D) by grind) (show 0<2*c+(b.s-a.s-D) by grind)
  clear cs e1 e2 h2 k1;grind
 have K:(a.s+b.s-D)*(a.s+b.s-D)-4*(a.s*b.s)=(b.s-a.s-D)*(b.s-a.s-D)-4*(a.s*D):=by clear cs e1 e2 h2 k1 k4;grind
 generalize (a.s+b.s-D)*(a.s+b.s-D)=U at *
 generalize (b.s-a.s-D)*(b.s-a.s-D)=V at *
 generalize c*c=C at *
 generalize P*D=W at *
 generalize a.s*D=Z at *
 generalize a.s*b.s=Y at *
 grind
theorem qpB{a b:DQ}(na:0≤a.s)(nb:0≤b.s)(h:q34 a b)(hs:a.s=b.s):q34 b a:=by
 obtain⟨h1,-,-⟩:=qrd na nb h
 have hD:q1X a.x a.y b.x b.y=0:=by have:=qre a.x a.y b.x b.y;grind
 obtain⟨e1,e2⟩:=qfF hD
 obtain⟨ax,ay,sa⟩:=a
 obtain⟨bx,by_,sb⟩:=b
 simp only at *
 subst e1 e2 hs
 exact h
def blw(l:List DQ)(k i:Nat):Prop:=(ix l k).s<(ix l i).s∨(ix l k).s=(ix l i).s∧k<i
theorem qtu{l:List DQ}{a b c:Nat}(h:blw l a b)(k:blw l b c):blw l a c:=by
 unfold blw at *
 rcases h with h|⟨h,h'⟩<;>rcases k with k|⟨k,k'⟩
 ·exact .inl (by grind)
 ·exact .inl (by grind)
 ·exact .inl (by grind)
 ·exact .inr ⟨by grind,by omega⟩
theorem qtn{l:List DQ}{a:Nat}(h:blw l a a):False:=by
 unfold blw at h
 rcases h with h|⟨-,h⟩
 ·grind
 ·omega
theorem qrt(l:List DQ):∀L:List Nat,L≠[]→∃m∈L,∀k∈L,¬blw l k m
 | [],h=>absurd rfl h
 | [a],_=>⟨a,by simp,fun k hk h=>by simp at hk;subst hk;exact qtn h⟩
 | a::b::r,_=>by
  obtain⟨m,hm,h⟩:=qrt l (b::r) (by simp)
  by_cases c:blw l a m
  ·refine⟨a,List.mem_cons_self,fun k hk hb=>?_⟩
   rcases List.mem_cons.1 hk with rfl|hk
   ·exact qtn hb
   ·exact h k hk (qtu hb c)
  ·refine⟨m,List.mem_cons_of_mem _ hm,fun k hk hb=>?_⟩
   rcases List.mem_cons.1 hk with rfl|hk
   ·exact c hb
   ·exact h k hk hb
theorem qyz{l:List DQ}{i n:Nat}(h:fnd l i n=true):∃k,k<n∧qvw l i k=true:=by
 unfold fnd at h
 rw[List.any_eq_true] at h
 obtain⟨k,hk,h⟩:=h
 exact⟨k,List.mem_range.1 hk,h⟩
theorem qt6{l:List DQ}(hl:GDs l){i k:Nat}(hi:i<l.length)(hk:k<l.length)(h:qvw l i k=true):q34 (ix l k) (ix l i)∧blw l k i:=by
 unfold qvw at h
 simp only[Bool.and_eq_true,Bool.or_eq_true,decide_eq_true_eq,Bool.not_eq_true',decide_eq_false_iff_not] at h
 obtain⟨⟨h1,h2⟩,h3⟩:=h
 refine⟨h2,?_⟩
 unfold blw
 have hs:=h2.1
 by_cases c:(ix l k).s=(ix l i).s
 ·refine .inr ⟨c,?_⟩
  rcases h3 with h3|h3
  ·exact h3
  ·exact absurd (qpB (hl.ix hk).nn (hl.ix hi).nn h2 c) h3
 ·exact .inl (by grind)
theorem kept{l:List DQ}(hl:GDs l){i:Nat}(hi:i<l.length):∃k,k<l.length∧fnd l k l.length=false∧∀x y,pw (ix l k) x y≤0→pw (ix l i) x y≤0:=by
 obtain⟨m,hm,hmin⟩:=qrt l ((List.range l.length).filter fun k=>@decide (∀x y,pw (ix l k) x y≤0→pw (ix l i) x y≤0) (Classical.propDecidable _)) (by
  intro h0
  have:i∈(List.range l.length).filter fun k=>@decide (∀x y,pw (ix l k) x y≤0→pw (ix l i) x y≤0) (Classical.propDecidable _):=by
   rw[List.mem_filter]
   exact⟨List.mem_range.2 hi,@decide_eq_true _ (Classical.propDecidable _) fun _ _ h=>h⟩
  rw[h0] at this;cases this)
 rw[List.mem_filter] at hm
 obtain⟨hm1,hm2⟩:=hm
 have hm1:=List.mem_range.1 hm1
 have hm2:=@of_decide_eq_true _ (Classical.propDecidable _) hm2
 refine⟨m,hm1,?_,hm2⟩
 cases hf:fnd l m l.length
 ·rfl
 ·exfalso
  obtain⟨k,hk,hc⟩:=qyz hf
  obtain⟨w,b⟩:=qt6 hl hm1 hk hc
  refine hmin k ?_ b
  rw[List.mem_filter]
  exact⟨List.mem_range.2 hk,@decide_eq_true _ (Classical.propDecidable _) fun x y h=>hm2 x y (qrK (hl.ix hk).nn (hl.ix hm1).nn w h)⟩
end Go.Eng

namespace Go.Eng
theorem qxf(l:List DQ)(d:DQ):q7Y (rD l) [[.s (tQ d.x),.s (tQ d.y),.s (tQ d.s)]]=rD (l++[d]):=by simp[q7Y,rD,qbq]
theorem qtg(x:R):∃b,(kQ [.r x]).run=some (0,[.b b])∧(b=true→isD x→∃l,x=rD l∧GDs l∧l≠[]∧l.length≤5∧∀d∈l,shT (tQ d.x)∧shT (tQ d.y)∧shT (tQ d.s)):=by
 rw[qkw]
 by_cases h5:x.length≤5
 ·have h5':qt x≤5:=by unfold qt;omega
  obtain⟨f,hf,h1,-⟩:=qxy x
  cases f
  ·exact⟨false,by simp only[STD,h5',hf],fun h=>by cases h⟩
  ·have hF:=h1 rfl
   by_cases hD:isD x
   ·have L:=qhE x (qxA hF hD)
    refine⟨ieq (lE x) 0,by simp only[STD,h5',hf,L],fun h _=>?_⟩
    rw[qqn] at h
    obtain⟨l,rfl,hl,h0,hn⟩:=qtR hD hF h
    refine⟨l,rfl,hl,h0,hn,fun d hd=>?_⟩
    obtain⟨i,hi,rfl⟩:=q5v hd
    have hs:∀i,i<(rD l).length→qhe (rD l) i:=by
     rcases hF with h|h
     ·exact h.2
     ·have:(rD l).length=l.length:=by simp[rD]
      omega
    have:=hs i (by simpa[rD] using hi)
    unfold qhe at this
    obtain⟨x1,x2,x3⟩:=qkC hi
    rw[x1,x2,x3] at this
    exact this
   ·have hs:∀i,i<x.length→qhe x i:=by
     rcases hF with h|h
     ·exact h.2
     ·omega
    by_cases hb:∀i,i<x.length→∀j,(cS x (i:Int) j).length≤1000000
    ·exact⟨ieq (lE x) 0,by simp only[STD,h5',hf,qhE x (.inr hb)],fun _ h=>absurd h hD⟩
    ·have hb':∀i,i<x.length→(cS x (i:Int) 0).length≤1000000∧(cS x (i:Int) 1).length≤1000000∧(cS x (i:Int) 2).length≤1000000:=fun i hi=>⟨qln (hs i hi).1,qln (hs i hi).2.1,qln (hs i hi).2.2⟩
     have L:∃e,(q1h [.r x]).run=some (0,[.i e]):=by
      rw[qfP]
      have hn':¬(64:Int)<qt x:=by unfold qt;omega
      have L:=qmE (S:=q0t) (fun k=>[.r x,.i (k:Int)]) (cD x) [] [.r x] x.length (by omega)
       (fun i hi=>by
        rw[q3N]
        have c:=qfu _ _ _ (hb' i hi).1 (hb' i hi).2.1 (hb' i hi).2.2
        have w:=q43 hi (show x.length<9223372036854775808 by omega)
        by_cases e:qrq (cS x (i:Int) 0) (cS x (i:Int) 1) (cS x (i:Int) 2)=0
        ·simp only[STD,c,e,w,qbm hi,q0h,and_self,cD]
        ·simp only[STD,c,e,qbm hi,q0h,and_self,cD])
       (by rw[q3N];simp only[STD,qmD])
      simp only[show ((0:Nat):Int)=0 from rfl] at L
      by_cases e:q9K (cD x) x.length=0
      ·rw[if_pos e] at L
       by_cases z:qt x=0
       ·refine⟨13,?_⟩
        simp only[STD,L,qM L,z,show ¬(64:Int)<0 by omega]
       ·refine⟨0,?_⟩
        simp only[STD,hn',L,qM L,z]
      ·rw[if_neg e] at L
       exact⟨q9K (cD x) x.length,by simp only[STD,hn',L,qM L,show ¬(1=0) by omega]⟩
     obtain⟨e,L⟩:=L
     exact⟨ieq e 0,by simp only[STD,h5',hf,L],fun _ h=>absurd h hD⟩
 ·have h5':¬qt x≤5:=by unfold qt;omega
  exact⟨false,by simp only[STD,h5'],fun h=>by cases h⟩
end Go.Eng

namespace Go.Eng
theorem qiA{l:List DQ}(hs:∀d∈l,0≤d.s){i j:Nat}(hi:i<l.length)(hj:j<l.length):q3f l i j=none↔qcH [ix l i,ix l j]:=by
 have:=q9U (l:=[ix l i,ix l j]) (by simp) (fun d hd=>by
  simp only[List.mem_cons,List.not_mem_nil,or_false] at hd
  rcases hd with rfl|rfl
  ·exact hs _ (q60 hi)
  ·exact hs _ (q60 hj))
 rw[←this];unfold q3f
 split<;>simp_all
theorem qjF{l:List DQ}(hs:∀d∈l,0≤d.s){i j k:Nat}(hi:i<l.length)(hj:j<l.length)(hk:k<l.length):q8j l i j k=none↔qcH [ix l i,ix l j,ix l k]:=by
 have:=q9U (l:=[ix l i,ix l j,ix l k]) (by simp) (fun d hd=>by
  simp only[List.mem_cons,List.not_mem_nil,or_false] at hd
  rcases hd with rfl|rfl|rfl
  ·exact hs _ (q60 hi)
  ·exact hs _ (q60 hj)
  ·exact hs _ (q60 hk))
 rw[←this];unfold q8j
 split<;>simp_all
theorem qsy{l:List DQ}(hs:∀d∈l,0≤d.s):(qp9 l=none∧∀i j,i<j→j<l.length→qcH [ix l i,ix l j]) ∨
  ∃i j,i<j∧j<l.length∧qp9 l=some (two i j)∧¬qcH [ix l i,ix l j]:=by
 cases h:qp9 l with
 | none=>
  refine .inl ⟨rfl,fun i j hij hj=>?_⟩
  have h1:=q16 h i (by omega) (by omega)
  have h2:=q16 h1 (j-(i+1)) (by omega) (by omega)
  simp only[show i+1+(j-(i+1))=j by omega] at h2
  exact(qiA hs (by omega) hj).1 h2
 | some a=>
  obtain⟨i,_,hi,h1,_⟩:=q2J h
  obtain⟨k,_,hk,h2,_⟩:=q2J h1
  refine .inr ⟨i,i+1+k,by omega,by omega,?_,?_⟩
  ·unfold q3f at h2
   split at h2
   ·cases h2
   ·exact h2.symm
  ·rw[←qiA hs (by omega) (by omega),h2];simp
theorem qse{l:List DQ}(hs:∀d∈l,0≤d.s):(qsx l=none∧∀i j k,i<j→j<k→k<l.length→qcH [ix l i,ix l j,ix l k]) ∨
  ∃i j k,i<j∧j<k∧k<l.length∧qsx l=some (qgy i j k)∧¬qcH [ix l i,ix l j,ix l k]:=by
 cases h:qsx l with
 | none=>
  refine .inl ⟨rfl,fun i j k hij hjk hk=>?_⟩
  have h1:=q16 h i (by omega) (by omega)
  have h2:=q16 h1 (j-(i+1)) (by omega) (by omega)
  simp only[show i+1+(j-(i+1))=j by omega] at h2
  have h3:=q16 h2 (k-(j+1)) (by omega) (by omega)
  simp only[show j+1+(k-(j+1))=k by omega] at h3
  exact(qjF hs (by omega) (by omega) hk).1 h3
 | some a=>
  obtain⟨i,_,hi,h1,_⟩:=q2J h
  obtain⟨k,_,hk,h2,_⟩:=q2J h1
  obtain⟨m,_,hm,h3,_⟩:=q2J h2
  refine .inr ⟨i,i+1+k,i+1+k+1+m,by omega,by omega,by omega,?_,?_⟩
  ·unfold q8j at h3
   split at h3
   ·cases h3
   ·exact h3.symm
  ·rw[←qjF hs (by omega) (by omega) (by omega),h3];simp
theorem qz7{l:List DQ}{i j:Nat}(hi:i<l.length)(hj:j<l.length):∀d∈[ix l i,ix l j],d∈l:=fun d hd=>by
 simp only[List.mem_cons,List.not_mem_nil,or_false] at hd
 rcases hd with rfl|rfl
 ·exact q60 hi
 ·exact q60 hj
theorem qz8{l:List DQ}{i j k:Nat}(hi:i<l.length)(hj:j<l.length)(hk:k<l.length):∀d∈[ix l i,ix l j,ix l k],d∈l:=fun d hd=>by
 simp only[List.mem_cons,List.not_mem_nil,or_false] at hd
 rcases hd with rfl|rfl|rfl
 ·exact q60 hi
 ·exact q60 hj
 ·exact q60 hk
theorem qoq{l:List DQ}(hs:∀d∈l,0≤d.s):(qcH l∧q4x l=[]) ∨
  (¬qcH l∧∃i j,i<j∧j<l.length∧q4x l=two i j∧¬qcH [ix l i,ix l j]) ∨
  (¬qcH l∧(∀i j,i<j→j<l.length→qcH [ix l i,ix l j])∧∃i j k,i<j∧j<k∧k<l.length∧q4x l=qgy i j k∧¬qcH [ix l i,ix l j,ix l k]):=by
 rcases qsy hs with⟨h1,h2⟩|⟨i,j,hij,hj,h1,h2⟩
 ·rcases qse hs with⟨h3,h4⟩|⟨i,j,k,hij,hjk,hk,h3,h4⟩
  ·refine .inl ⟨qvd hs h2 h4,?_⟩
   unfold q4x;rw[h1,h3];rfl
  ·refine .inr (.inr ⟨fun h=>h4 (h.mono (qz8 (by omega) (by omega) hk)),h2,i,j,k,hij,hjk,hk,?_,h4⟩)
   unfold q4x;rw[h1,h3];rfl
 ·refine .inr (.inl ⟨fun h=>h2 (h.mono (qz7 (by omega) hj)),i,j,hij,hj,?_,h2⟩)
  unfold q4x;rw[h1];rfl
end Go.Eng

namespace Go.Eng
theorem qw6{l:List DQ}{w:Nat×Nat×Int}(h:yx l=some w):vE l.length w.1 w.2.1 w.2.2=0∧vB l w.1 w.2.1 w.2.2=true:=by
 obtain⟨h1,h2,h3,h4,_⟩:=qjk h
 have e:vE l.length w.1 w.2.1 w.2.2=0:=by
  unfold vE
  rw[if_neg (by omega),if_neg (by omega),if_neg (by omega)]
 refine⟨e,?_⟩
 unfold vB
 rw[if_pos e,Int.toNat_natCast,Int.toNat_natCast]
 exact h1
def mnS(s:R):Nat→Int
 | 0=>cI s 0 0
 | k+1=>q61 (mnS s k) (cI s ((k+1:Nat):Int) 0)
def mxS(s:R):Nat→Int
 | 0=>cI s 0 0
 | k+1=>qaM (mxS s k) (cI s ((k+1:Nat):Int) 0)
theorem qwq{s:R}:∀k:Nat,(∀j:Nat,j≤k→0≤cI s j 0)→0≤mnS s k
 | 0,h=>h 0 (Nat.le_refl _)
 | k+1,h=>by
  have:=qwq k fun j hj=>h j (by omega)
  have:=h (k+1) (Nat.le_refl _)
  unfold mnS q61;split<;>omega
theorem qwy{s:R}{n:Int}:∀k:Nat,(∀j:Nat,j≤k→cI s j 0<n)→mxS s k<n
 | 0,h=>h 0 (Nat.le_refl _)
 | k+1,h=>by
  have:=qwy k fun j hj=>h j (by omega)
  have:=h (k+1) (Nat.le_refl _)
  unfold mxS qaM;split<;>omega
theorem qz5(s:R)(h0:s.length≠0)(h:s.length≤1000000):(zY [.r s]).run=some (0,[.i (mnS s (s.length-1))]):=by
 rw[qbD]
 have L:=yM (S:=wh) (fun i=>[.r s,.i (mnS s i),.i ((i+1:Nat):Int)]) (0,[.i (mnS s (s.length-1))]) (s.length-1) (by omega) (fun i hi=>by
  rw[q3L]
  have a:((i+1:Nat):Int)<qt s:=qbm (by omega)
  simp only[STD,a,q0h,and_self,q43 (show i+1<s.length by omega) (show s.length<9223372036854775808 by omega)]
  rfl) (by
  rw[q3L]
  simp only[STD,show ¬(((s.length-1+1:Nat):Int)<qt s) by unfold qt;omega])
 have L':(qj wh [.r s,.i (cI s 0 0),.i 1]).run=some (0,[.i (mnS s (s.length-1))]):=L
 simp only[STD,L',show ¬(qt s<1) by unfold qt;omega,show (0:Int)<qt s by unfold qt;omega,show (0:Int)≤0 by omega,and_self]
theorem qyU(s:R)(h0:s.length≠0)(h:s.length≤1000000):(zX [.r s]).run=some (0,[.i (mxS s (s.length-1))]):=by
 rw[qca]
 have L:=yM (S:=wg) (fun i=>[.r s,.i (mxS s i),.i ((i+1:Nat):Int)]) (0,[.i (mxS s (s.length-1))]) (s.length-1) (by omega) (fun i hi=>by
  rw[q3C]
  have a:((i+1:Nat):Int)<qt s:=qbm (by omega)
  simp only[STD,a,q0h,and_self,q43 (show i+1<s.length by omega) (show s.length<9223372036854775808 by omega)]
  rfl) (by
  rw[q3C]
  simp only[STD,show ¬(((s.length-1+1:Nat):Int)<qt s) by unfold qt;omega])
 have L':(qj wg [.r s,.i (cI s 0 0),.i 1]).run=some (0,[.i (mxS s (s.length-1))]):=L
 simp only[STD,L',show ¬(qt s<1) by unfold qt;omega,show (0:Int)<qt s by unfold qt;omega,show (0:Int)≤0 by omega,and_self]
def qgQ(F:List Nat):R:=F.map fun i:Nat=>[U.i (i:Int)]
theorem qta{F:List Nat}{r i:Nat}(h:F[r]?=some i):cI (qgQ F) r 0=(i:Int):=by
 unfold cI ve qgQ
 rw[Int.toNat_natCast,show (F.map fun i:Nat=>[U.i (i:Int)]).getD r []=[U.i (i:Int)] from by rw[List.getD_eq_getElem?_getD,List.getElem?_map,h];rfl];rfl
theorem qvY(l:R)(h:l.length≤1000)(h0:l.length≠0):(qD [.r l]).run=some (0,[.r l]):=by
 rw[q3K]
 have a:(0:Int)<qt l:=by unfold qt;omega
 have b:qt []+qt l≤2932031007402:=by show (0:Int)+qt l≤_;unfold qt;omega
 simp only[STD,a,b]
 rfl
theorem qwI(ds:List DQ)(r:Nat):qoQ (rD ds) (r:Int) ((r+1:Nat):Int)=rD (ds.take r++ds.drop (r+1)):=by
 unfold qoQ rD
 rw[Int.toNat_natCast,Int.toNat_natCast,List.map_append,List.map_take,List.map_drop]
theorem qsM{l:List DQ}(gl:GDs l)(_:l.length≤1000){F:List Nat}(h2:2≤F.length)(h3:F.length≤3)(hi:∀i,i∈F→i<l.length)(hno:¬qcH (F.map (ix l)))(hm:∀r,r<F.length→qcH ((F.map (ix l)).take r++(F.map (ix l)).drop (r+1))) :
  (qj wT [.r (rD l),.r (qgQ F),.i (qt (qgQ F)),.i 0,.r []]).run=some (0,[.r (rD (F.map (ix l)))]) ∧
  (qV [.r (rD (F.map (ix l)))]).run=some (0,[.b false,.i 0,.i 0,.i 0,.i 0]) ∧
  (qj v8 [.i (qt (rD (F.map (ix l)))),.i 0,.r (rD (F.map (ix l)))]).run=some (0,[]):=by
 have fl:(qgQ F).length=F.length:=by unfold qgQ;rw[List.length_map]
 have gds:GDs (F.map (ix l)):=fun d hd=>by
  obtain⟨i,h,rfl⟩:=List.mem_map.1 hd
  exact gl _ (q60 (hi i h))
 have dl:(F.map (ix l)).length=F.length:=by rw[List.length_map]
 refine⟨?_,?_,?_⟩
 ·have L:=yM (S:=wT) (fun k=>[.r (rD l),.r (qgQ F),.i (qt (qgQ F)),.i (k:Int),.r (rD ((F.take k).map (ix l)))]) (0,[.r (rD (F.map (ix l)))]) F.length (by omega) (fun k hk=>by
   rw[q4f]
   have a1:(k:Int)<qt (qgQ F):=qbm (by rw[fl];exact hk)
   have e:F[k]?=some F[k]:=List.getElem?_eq_getElem hk
   have ek:=qta e
   have hik:F[k]<l.length:=hi _ (List.getElem_mem hk)
   have a2:((F[k]:Nat):Int)<qt (rD l):=qbm (by unfold rD;rw[List.length_map];exact hik)
   obtain⟨q1,q2,q3⟩:=qkC hik
   have room:∀a:List U,qt (rD ((F.take k).map (ix l)))+qt [a]≤2932031007402:=fun a=>by
    rw[qvh];unfold qt rD;rw[List.length_map,List.length_map,List.length_take];omega
   simp only[STD,a1,q0h,and_self,ek,a2,q1,q2,q3,room,q43 hk (show F.length<9223372036854775808 by omega)]
   rw[qxf]
   have:(F.take (k+1)).map (ix l)=(F.take k).map (ix l)++[ix l F[k]]:=by
    rw[List.take_succ_eq_append_getElem hk,List.map_append];rfl
   rw[this]) (by
   rw[q4f]
   have:¬((F.length:Int)<qt (qgQ F)):=by unfold qt;rw[fl];omega
   simp only[STD,this,List.take_length])
  exact L
 ·have C:=q7c gds (fun e=>by rw[e] at dl;simp at dl;omega) (by omega)
  have n:yx (F.map (ix l))=none:=by
   cases hf:yx (F.map (ix l)) with
   | none=>rfl
   | some w=>exact absurd ((q9U (fun e=>by rw[e] at dl;simp at dl;omega) (fun d hd=>(gds d hd).nn)).1 (by rw[hf];rfl)) hno
  rw[n] at C
  exact C
 ·have rl:qt (rD (F.map (ix l)))=(F.length:Int):=by unfold qt rD;rw[List.length_map,dl]
  have rn:(rD (F.map (ix l))).length=F.length:=by unfold rD;rw[List.length_map,dl]
  have L:=yM (S:=v8) (fun r=>[.i (qt (rD (F.map (ix l)))),.i (r:Int),.r (rD (F.map (ix l)))]) (0,[]) F.length (by omega) (fun r hr=>by
   rw[q4e]
   have cl:=qvY (rD (F.map (ix l))) (by rw[rn];omega) (by rw[rn];omega)
   have w:qh .i64 (r:Int) 1=((r+1:Nat):Int):=q43 hr (by omega)
   have gd2:GDs ((F.map (ix l)).take r++(F.map (ix l)).drop (r+1)):=fun d hd=>by
    rcases List.mem_append.1 hd with h|h
    ·exact gds d (List.mem_of_mem_take h)
    ·exact gds d (List.mem_of_mem_drop h)
   have l2:((F.map (ix l)).take r++(F.map (ix l)).drop (r+1)).length=F.length-1:=by
    rw[List.length_append,List.length_take,List.length_drop,dl];omega
   have ne:(F.map (ix l)).take r++(F.map (ix l)).drop (r+1)≠[]:=fun e=>by rw[e] at l2;simp at l2;omega
   have C:=q7c gd2 ne (by omega)
   have fs:(yx ((F.map (ix l)).take r++(F.map (ix l)).drop (r+1))).isSome=true:=(q9U ne (fun d hd=>(gd2 d hd).nn)).2 (hm r hr)
   obtain⟨wt,hw⟩:=Option.isSome_iff_exists.1 fs
   rw[hw] at C
   have C':(qV [.r (rD ((F.map (ix l)).take r++(F.map (ix l)).drop (r+1)))]).run=some (0,[.b true,.i (wt.1:Int),.i (wt.2.1:Int),.i wt.2.2,.i 0]):=C
   have n0:¬(qt (rD ((F.map (ix l)).take r++(F.map (ix l)).drop (r+1)))=0):=by unfold qt rD;rw[List.length_map,l2];omega
   simp only[STD,cl,w,rl,show (r:Int)<(F.length:Int) by omega,show (0:Int)<(F.length:Int) by omega,q0h,show (r:Int)≤((r+1:Nat):Int) by omega,show ((r+1:Nat):Int)≤(F.length:Int) by omega,qwI,n0,C']) (by
   rw[q4e]
   simp only[STD,rl,show ¬((F.length:Int)<(F.length:Int)) by omega])
  exact L
theorem qqY{d:DQ}(h:0≤d.s):qcH [d]:=by
 refine⟨d.x,d.y,fun e he=>?_⟩
 simp only[List.mem_cons,List.not_mem_nil,or_false] at he
 subst he
 unfold pw
 grind
theorem qkc(x0:R)(lex0:UFit (.sl [.str,.str,.str]) (.l x0))(wex0:x0.length*48≤140737488351232):(jh [.r x0]).run=some (0,[.b true]):=by
 rw[q03]
 obtain⟨b,f,fr⟩:=qtg x0
 cases b with
 | false=>simp only[STD,f,qj9]
 | true=>
  obtain⟨l,rfl,gl,l0,l5,_⟩:=fr rfl (qxw lex0)
  have nn:∀d∈l,0≤d.s:=fun d hd=>(gl d hd).nn
  have C:=q7c gl l0 (by omega)
  have K:=qeC gl l0 (by omega)
  have fm:=q9U l0 nn
  have tail:∀F:List Nat,q4x l=qgQ F→2≤F.length→F.length≤3→(∀i,i∈F→i<l.length)→¬qcH l→¬qcH (F.map (ix l))→(∀r,r<F.length→qcH ((F.map (ix l)).take r++(F.map (ix l)).drop (r+1)))→(jh [.r (rD l)]).run=some (0,[.b true]):=by
   intro F e h2 h3 hi hl hno hm
   rw[q03]
   obtain⟨t1,t2,t3⟩:=qsM gl (by omega) h2 h3 hi hno hm
   have fl:(qgQ F).length=F.length:=by unfold qgQ;rw[List.length_map]
   have n:yx l=none:=by
    cases hf:yx l with
    | none=>rfl
    | some w=>exact absurd (fm.1 (by rw[hf];rfl)) hl
   rw[n] at C
   rw[e] at K
   have C':(qV [.r (rD l)]).run=some (0,[.b false,.i 0,.i 0,.i 0,.i 0]):=C
   have mn:=qz5 (qgQ F) (by omega) (by omega)
   have mx:=qyU (qgQ F) (by omega) (by omega)
   have at_:∀j:Nat,j≤(qgQ F).length-1→∃i:Nat,cI (qgQ F) j 0=(i:Int)∧i<l.length:=fun j hj=>by
    have hj:j<F.length:=by omega
    exact⟨F[j],qta (List.getElem?_eq_getElem hj),hi _ (List.getElem_mem hj)⟩
   have b1:¬(mnS (qgQ F) ((qgQ F).length-1)<0):=by
    have:=qwq (s:=qgQ F) ((qgQ F).length-1) fun j hj=>by obtain⟨i,h,_⟩:=at_ j hj;rw[h];omega
    omega
   have b2:¬(qt (rD l)≤mxS (qgQ F) ((qgQ F).length-1)):=by
    have:=qwy (s:=qgQ F) (n:=qt (rD l)) ((qgQ F).length-1) fun j hj=>by
     obtain⟨i,h,h'⟩:=at_ j hj
     rw[h];unfold qt rD;rw[List.length_map];omega
    omega
   have st:ieq (qt (qgQ F)) 0=false:=by unfold ieq qt;rw[fl];simp;intro e;rw[e] at h2;simp at h2
   have n3:¬((3:Int)<qt (qgQ F)):=by unfold qt;omega
   simp only[STD,f,C',K,st,n3,mn,b1,mx,b2,t1,t2,t3,qM t3,qj9,eq_self]
  rw[←q03]
  rcases qoq nn with⟨h1,e⟩|⟨h1,i,j,hij,hj,e,hmm⟩|⟨h1,hp,i,j,k,hij,hjk,hk,e,hmm⟩
  ·rw[q03]
   obtain⟨w,hw⟩:=Option.isSome_iff_exists.1 (fm.2 h1)
   rw[hw] at C
   rw[e] at K
   have C':(qV [.r (rD l)]).run=some (0,[.b true,.i (w.1:Int),.i (w.2.1:Int),.i w.2.2,.i 0]):=C
   have V:=qpQ gl l0 (by omega) w.1 w.2.1 w.2.2
   obtain⟨v1,v2⟩:=qw6 hw
   rw[v1,v2] at V
   have st:ieq (qt []) 0=true:=rfl
   simp only[STD,f,C',K,st,V,qj9,eq_self]
  ·refine tail [i,j] e (Nat.le_refl _) (by show 2≤3;omega) (fun q hq=>?_) h1 hmm fun r hr=>?_
   ·simp only[List.mem_cons,List.not_mem_nil,or_false] at hq
    rcases hq with rfl|rfl<;>omega
   ·rcases (show r=0∨r=1 by simp at hr;omega) with rfl|rfl
    ·exact qqY (nn _ (q60 hj))
    ·exact qqY (nn _ (q60 (by omega)))
  ·refine tail [i,j,k] e (by show 2≤3;omega) (Nat.le_refl _) (fun q hq=>?_) h1 hmm fun r hr=>?_
   ·simp only[List.mem_cons,List.not_mem_nil,or_false] at hq
    rcases hq with rfl|rfl|rfl<;>omega
   ·rcases (show r=0∨r=1∨r=2 by simp at hr;omega) with rfl|rfl|rfl
    ·exact hp j k hjk hk
    ·exact hp i k (by omega) hk
    ·exact hp i j hij (by omega)
end Go.Eng

