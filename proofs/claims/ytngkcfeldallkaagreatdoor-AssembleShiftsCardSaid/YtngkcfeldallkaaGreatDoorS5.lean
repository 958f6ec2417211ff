/- Texts of the proof, merged: what the code computes, and plain laws. No statement stands here. -/
import Derived.Test.YtngkcfeldallkaaGreatDoorS4
namespace Go.Eng
theorem qbP(l:List Int)(j:Nat)(h:j≤l.length):mv l=mv (l.take j)+pB j*mv (l.drop j):=by
 have:=qz3 (l.take j) (l.drop j)
 rw[List.take_append_drop,List.length_take,Nat.min_eq_left h] at this
 exact this
theorem qDh{l:List Int}(h:dgs l)(j:Nat):dgs (l.take j):=fun x hx=>h x (List.mem_of_mem_take hx)
theorem qab{l:List Int}(h:dgs l)(j:Nat):0≤mv (l.take j)∧mv (l.take j)<pB j:=
 qA1 (l.take j) j (qDh h j) fun i hi=>by
  rw[List.getD_eq_getElem?_getD,List.getElem?_eq_none (by simp;omega)];rfl
theorem qnw{l:List Int}{i:Nat}(h:i<l.length):mv (l.take (i+1))=mv (l.take i)+l[i]*pB i:=by
 rw[List.take_succ_eq_append_getElem h,qz3,List.length_take,Nat.min_eq_left (by omega)]
 simp only[mv]
 grind
theorem WOK.mono{n m:Nat}{l:List Int}(h:WOK n l)(hm:n≤m)(h2:m≤232):WOK m l:=⟨h.len,h2,h.dig,fun i hi=>h.z i (by omega)⟩
theorem qm0{n:Nat}{l:List Int}(h:WOK n l)(hn:nrm n l):(n=0)=(mv l=0):=by
 apply propext
 constructor
 ·intro h0
  have:=h.bd
  rw[h0,q5C] at this;omega
 ·intro h0
  rcases Nat.eq_zero_or_pos n with h1|h1
  ·exact h1
  ·have:=h.lo hn (by omega)
   have:=qcs (n-1)
   omega
theorem qGJ{n m:Nat}{l k:List Int}(h:WOK n l)(hn:nrm n l)(h2:WOK m k)(hle:mv l≤mv k):n≤m:=by
 rcases Nat.lt_or_ge m n with h3|h3
 ·exfalso
  have h4:=h.lo hn (by omega)
  have h5:=h2.bd.2
  have h6:=qcA (show m≤n-1 by omega)
  omega
 ·exact h3
theorem qyR{nx ny:Nat}{lx ly:List Int}(hx:WOK nx lx)(hnx:nrm nx lx)(hy:WOK ny ly)(hny:nrm ny ly)(bx b2:Bool) :
  ∃r:Int,(zG [.b bx,.i (nx:Int),.r (rI lx),.b b2,.i (ny:Int),.r (rI ly)]).run=some (0,[.i r,.b bx,.i (nx:Int),.r (rI lx),.b b2,.i (ny:Int),.r (rI ly)])∧((0≤r)=(mv ly≤mv lx)):=by
 rw[qim]
 have h1:=hx.le
 have h2:=hy.le
 by_cases hne:nx=ny
 ·subst hne
  have hs:qv .i64 (nx:Int) 1=(nx:Int)-1:=zT (by omega)
  obtain⟨j,qs,g1,g2⟩:=yl (S:=jN) (fun k ps=>ps=[.i ((k:Int)-1),.b bx,.i (nx:Int),.r (rI lx),.b b2,.i (nx:Int),.r (rI ly)]∧k≤nx∧mv (lx.drop k)=mv (ly.drop k))
   (fun j qs=>(j=0∧qs=[.b bx,.i (nx:Int),.r (rI lx),.b b2,.i (nx:Int),.r (rI ly)]∧mv lx=mv ly)∨(j=1∧∃r:Int,qs=[.i r,.b bx,.i (nx:Int),.r (rI lx),.b b2,.i (nx:Int),.r (rI ly)]∧((0≤r)=(mv ly≤mv lx)))) (n:=nx) (by omega) (fun k ps hk ⟨hps,hkn,hd⟩=>by
   subst hps
   rw[qgd]
   by_cases h0:k=0
   ·right
    refine⟨0,_,?_,.inl ⟨rfl,rfl,?_⟩⟩
    ·have a:¬(0:Int)≤(k:Int)-1:=by omega
     simp only[STD,a]
    ·rw[h0] at hd;simpa using hd
   ·obtain⟨i,rfl⟩:∃i,k=i+1:=⟨k-1,by omega⟩
    have e:(((i+1:Nat):Int)-1)=(i:Int):=by omega
    rw[e]
    have a1:(0:Int)≤(i:Int):=by omega
    have a2:(i:Int)<232:=by omega
    have gx:=hx.get i
    have gy:=hy.get i
    have hxl:i<lx.length:=by rw[hx.len];omega
    have hyl:i<ly.length:=by rw[hy.len];omega
    by_cases hc:lx.getD i 0=ly.getD i 0
    ·left
     refine⟨i,[.i ((i:Int)-1),.b bx,.i (nx:Int),.r (rI lx),.b b2,.i (nx:Int),.r (rI ly)],by omega,?_,rfl,by omega,?_⟩
     ·have w:qv .i64 (i:Int) 1=(i:Int)-1:=zT (by omega)
      simp only[STD,a1,a2,and_self,q5g,hc,w]
     ·rw[qcX hxl,qcX hyl,hd]
      rw[jx hxl,jx hyl] at hc
      rw[hc]
    ·right
     have w:qv .i64 (lx.getD i 0) (ly.getD i 0)=lx.getD i 0-ly.getD i 0:=zT (by omega)
     refine⟨1,[.i (lx.getD i 0-ly.getD i 0),.b bx,.i (nx:Int),.r (rI lx),.b b2,.i (nx:Int),.r (rI ly)],?_,.inr ⟨rfl,_,rfl,?_⟩⟩
     ·simp only[STD,a1,a2,and_self,q5g,hc,w]
     ·have sx:=qbP lx i (by omega)
      have sy:=qbP ly i (by omega)
      rw[qcX hxl] at sx
      rw[qcX hyl] at sy
      have tx:=qab hx.dig i
      have ty:=qab hy.dig i
      rw[jx hxl,jx hyl] at hc ⊢
      rw[hd] at sx
      have hp:=qcs i
      generalize pB i=P at *
      generalize lx[i]=u at *
      generalize ly[i]=v at *
      generalize mv (ly.drop (i+1))=w at *
      have e1:P*(u+1000000000*w)=P*u+P*(1000000000*w):=Int.mul_add _ _ _
      have e2:P*(v+1000000000*w)=P*v+P*(1000000000*w):=Int.mul_add _ _ _
      have e3:P*(u-v)=P*u-P*v:=Int.mul_sub _ _ _
      apply propext
      rcases Int.lt_or_lt_of_ne (show u-v≠0 by omega) with h|h
      ·have:P*(u-v)≤P*(-1):=Int.mul_le_mul_of_nonneg_left (by omega) (by omega)
       constructor
       ·intro;omega
       ·intro;omega
      ·have:P*1≤P*(u-v):=Int.mul_le_mul_of_nonneg_left (by omega) (by omega)
       constructor
       ·intro;omega
       ·intro;omega) (ps:=[.i ((nx:Int)-1),.b bx,.i (nx:Int),.r (rI lx),.b b2,.i (nx:Int),.r (rI ly)])
   ⟨rfl,Nat.le_refl _,by rw[ve hx.dig hx.z (Nat.le_refl _),ve hy.dig hy.z (Nat.le_refl _)]⟩
  rcases g2 with⟨rfl,rfl,g2⟩|⟨rfl,r,rfl,g2⟩
  ·refine⟨0,?_,?_⟩
   ·simp only[STD,hs,g1,qD g1]
   ·apply propext;simp;omega
  ·refine⟨r,?_,g2⟩
   simp only[STD,hs,g1,qD g1,show ¬(1=0) by omega]
 ·have hs:qv .i64 (nx:Int) (ny:Int)=(nx:Int)-(ny:Int):=zT (by omega)
  refine⟨(nx:Int)-(ny:Int),?_,?_⟩
  ·have a:¬(nx:Int)=(ny:Int):=by omega
   simp only[STD,a,hs]
  ·apply propext
   have b1:=hx.bd
   have b2:=hy.bd
   rcases Nat.lt_or_gt_of_ne hne with h|h
   ·have:=hy.lo hny (by omega)
    have:=qcA (show nx≤ny-1 by omega)
    constructor
    ·intro;omega
    ·intro;omega
   ·have:=hx.lo hnx (by omega)
    have:=qcA (show ny≤nx-1 by omega)
    constructor
    ·intro;omega
    ·intro;omega
def sv(b:Bool)(l:List Int):Int:=if b then -mv l else mv l
theorem qE0{nx ny:Nat}{lx ly:List Int}(hx:WOK nx lx)(hnx:nrm nx lx)(hy:WOK ny ly)(hny:nrm ny ly)(hb:mv lx+mv ly<pB 232)(bx b2:Bool) :
  ∃(b:Bool) (n:Nat) (l:List Int),(wo [.b bx,.i (nx:Int),.r (rI lx),.b b2,.i (ny:Int),.r (rI ly)]).run=some (0,[.b b,.i (n:Int),.r (rI l),.b b2,.i (ny:Int),.r (rI ly)])∧WOK n l∧nrm n l∧sv b l=sv bx lx+sv b2 ly:=by
 rw[ql5]
 have h1:=hx.bd
 have h2:=hy.bd
 have l1:=hx.le
 have l2:=hy.le
 by_cases hs:bx=b2
 ·subst hs
  obtain⟨n,l,g1,g2,g3,g4⟩:=qpv (f:=1) (up:=0) hx hy (by omega) (by omega) (T:=mv lx+mv ly) (by rw[q5C];omega) (by omega) hb bx bx
  refine⟨bx,n,l,?_,g2,g3,?_⟩
  ·simp only[STD,show ((0:Nat):Int)=0 from rfl] at g1 ⊢
   simp only[STD,g1]
  ·unfold sv;rw[g4];cases bx<;>simp<;>omega
 ·obtain⟨r,r1,r2⟩:=qyR hx hnx hy hny bx b2
  by_cases hr:mv ly≤mv lx
  ·have hr':0≤r:=by rw[r2];exact hr
   obtain⟨n,l,g1,g2,g3,g4⟩:=qpv (f:=-1) (up:=0) hx hy (by omega) (by omega) (T:=mv lx-mv ly) (by rw[q5C];omega) (by omega) (by omega) bx b2
   refine⟨bx,n,l,?_,g2,g3,?_⟩
   ·simp only[show ((0:Nat):Int)=0 from rfl] at g1
    simp only[STD,hs,r1,hr',g1]
   ·unfold sv;rw[g4];cases bx<;>cases b2<;>simp_all<;>omega
  ·have hr':¬0≤r:=by rw[r2];exact hr
   obtain⟨n,l,g1,g2,g3,g4⟩:=qpv (f:=-1) (up:=0) hy hx (by omega) (by omega) (T:=mv ly-mv lx) (by rw[q5C];omega) (by omega) (by omega) b2 bx
   refine⟨b2,n,l,?_,g2,g3,?_⟩
   ·simp only[show ((0:Nat):Int)=0 from rfl] at g1
    simp only[STD,hs,r1,hr',g1]
   ·unfold sv;rw[g4];cases bx<;>cases b2<;>simp_all<;>omega
theorem qCA{x y:Int}{m n:Nat}(h0:0≤x)(h1:x<pB m)(h2:0≤y)(h3:y≤pB n):x*y<pB (m+n)∨y=0:=by
 rcases Int.lt_or_eq_of_le h2 with h|h
 ·left
  rw[qFO]
  have e1:x*y<pB m*y:=Int.mul_lt_mul_of_pos_right h1 h
  have e2:pB m*y≤pB m*pB n:=Int.mul_le_mul_of_nonneg_left h3 (by omega)
  omega
 ·exact .inr h.symm
theorem qED{nx ny:Nat}{lx ly:List Int}(hx:WOK nx lx)(hy:WOK ny ly)(hb:nx+ny≤232)(bx b2:Bool) :
  ∃(n:Nat) (l:List Int),(km [.b bx,.i (nx:Int),.r (rI lx),.b b2,.i (ny:Int),.r (rI ly)]).run=some (0,[.b bx,.i (nx:Int),.r (rI lx),.b b2,.i (ny:Int),.r (rI ly),.b (!(Go.Eng.beq bx b2)),.i (n:Int),.r (rI l)])∧WOK n l∧nrm n l∧mv l=mv lx*mv ly:=by
 rw[qkb]
 have hbx:=hx.bd
 have e0:q3R 232 [.i 0]=rI (List.replicate 232 0):=qjD 232 0
 obtain⟨j,qs,g1,rfl,n,l,rfl,g2,g3,g4⟩:=yl (S:=yL) (fun k ps=>∃(i n:Nat) (l:List Int),ps=[.i (ny:Int),.i (i:Int),.b bx,.i (nx:Int),.r (rI lx),.b b2,.i (ny:Int),.r (rI ly),.b (!(Go.Eng.beq bx b2)),.i (n:Int),.r (rI l)] ∧
   i+k=ny∧WOK n l∧nrm n l∧mv l=mv lx*mv (ly.take i))
  (fun j qs=>j=0∧∃(n:Nat) (l:List Int),qs=[.b bx,.i (nx:Int),.r (rI lx),.b b2,.i (ny:Int),.r (rI ly),.b (!(Go.Eng.beq bx b2)),.i (n:Int),.r (rI l)]∧WOK n l∧nrm n l∧mv l=mv lx*mv ly) (n:=ny) (by omega) (fun k ps hk ⟨i,n,l,hps,hik,hw,hn,hv⟩=>by
  subst hps
  rw[qhp]
  by_cases hi:i<ny
  ·left
   have hil:i<ly.length:=by rw[hy.len];omega
   have gy:=hy.get i
   have tb:=qab hy.dig i
   have tb2:=qab hy.dig (i+1)
   have hT:mv lx*mv (ly.take (i+1))=mv l+ly.getD i 0*mv lx*pB i:=by
    rw[qnw hil,hv,jx hil];grind
   have hlt:mv lx*mv (ly.take (i+1))<pB 232:=by
    rcases qCA (n:=i+1) hbx.1 hbx.2 tb2.1 (by omega) with h|h
    ·exact Int.lt_of_lt_of_le h (qcA (by omega))
    ·rw[h,Int.mul_zero];exact qcs _
   obtain⟨n',l',c1,c2,c3,c4⟩:=qpv (f:=ly.getD i 0) (up:=i) hw hx (by omega) (by omega) hT (Int.mul_nonneg hbx.1 tb2.1) hlt (!(Go.Eng.beq bx b2)) bx
   have w:ql .i64 (i:Int) 1=((i+1:Nat):Int):=by rw[z7 (by omega)];omega
   refine⟨k-1,_,by omega,?_,i+1,n',l',rfl,by omega,c2,c3,c4⟩
   have a1:(i:Int)<(ny:Int):=by omega
   have a2:(0:Int)≤(i:Int)∧(i:Int)<232:=by omega
   simp only[STD,a1,a2,and_self,q5g,c1,w]
  ·right
   have hi2:i=ny:=by omega
   have a1:¬(i:Int)<(ny:Int):=by omega
   refine⟨0,[.b bx,.i (nx:Int),.r (rI lx),.b b2,.i (ny:Int),.r (rI ly),.b (!(Go.Eng.beq bx b2)),.i (n:Int),.r (rI l)],?_,rfl,n,l,rfl,hw,hn,?_⟩
   ·simp only[STD,a1]
   ·have:=qbP ly ny (by rw[hy.len];exact hy.le)
    rw[ve hy.dig hy.z (Nat.le_refl _),Int.mul_zero,Int.add_zero] at this
    rw[hv,hi2,←this])
  (ps:=[.i (ny:Int),.i 0,.b bx,.i (nx:Int),.r (rI lx),.b b2,.i (ny:Int),.r (rI ly),.b (!(Go.Eng.beq bx b2)),.i 0,.r (rI (List.replicate 232 0))])
  ⟨0,0,_,rfl,by omega,WOK.zero,.inl rfl,by rw[qf8];simp[mv]⟩
 refine⟨n,l,?_,g2,g3,g4⟩
 simp only[e0]
 simp only[STD,g1]
theorem qzv{nx ny:Nat}{lx ly:List Int}(hx:WOK nx lx)(hnx:nrm nx lx)(hy:WOK ny ly)(hny:nrm ny ly)(h0:ny≠0)(hle:mv ly≤mv lx)(hlt:mv lx<pB (ny+1))(hn231:ny≤231)(bx b2:Bool) :
  ∃k:Int,(yw [.b bx,.i (nx:Int),.r (rI lx),.b b2,.i (ny:Int),.r (rI ly)]).run=some (0,[.i k,.b bx,.i (nx:Int),.r (rI lx),.b b2,.i (ny:Int),.r (rI ly)])∧1≤k∧k≤999999999∧k*mv ly≤mv lx:=by
 rw[qmT]
 obtain⟨m,rfl⟩:∃m,ny=m+1:=⟨ny-1,by omega⟩
 have hxl:=hx.len
 have hyl:=hy.len
 have hnx1:m+1≤nx:=qGJ hy hny hx hle
 have hnx2:nx≤m+2:=by
  rcases Nat.lt_or_ge (m+2) nx with h|h
  ·exfalso
   have h1:=hx.lo hnx (by omega)
   have h2:=qcA (show m+1+1≤nx-1 by omega)
   omega
  ·exact h
 have gx1:=hx.get m
 have gx2:=hx.get (m+1)
 have gy:=hy.get m
 have sx:=qbP lx m (by omega)
 have sy:=qbP ly m (by omega)
 rw[qcX (show m<lx.length by omega),qcX (show m+1<lx.length by omega),ve hx.dig hx.z (show nx≤m+1+1 by omega)] at sx
 rw[qcX (show m<ly.length by omega),ve hy.dig hy.z (Nat.le_refl _)] at sy
 have tx:=qab hx.dig m
 have ty:=qab hy.dig m
 have hyn:ly.getD m 0≠0:=by
  rcases hny with h|h
  ·omega
  ·simpa using h
 have w1:qv .i64 ((m+1:Nat):Int) 1=(m:Int):=by rw[zT (by omega)];omega
 have c1:¬((m+1:Nat):Int)<0:=by omega
 have c2:¬(nx:Int)≤(m:Int):=by omega
 have c3:¬(m:Int)<0:=by omega
 have c4:¬((m+1:Nat):Int)≤(m:Int):=by omega
 have c5:(0:Int)≤(m:Int)∧(m:Int)<232:=by omega
 have c6:(0:Int)≤((m+1:Nat):Int)∧((m+1:Nat):Int)<232:=by omega
 have gex:lx[m]'(by omega)=lx.getD m 0:=(jx (by omega)).symm
 have gex1:lx[m+1]'(by omega)=lx.getD (m+1) 0:=(jx (by omega)).symm
 have gey:ly[m]'(by omega)=ly.getD m 0:=(jx (by omega)).symm
 rw[gex,gex1] at sx
 rw[gey] at sy
 have hp:=qcs m
 have key:∀a b:Int,a=lx.getD m 0+1000000000*lx.getD (m+1) 0→0<b→mv ly≤b*pB m→∀k,k=a/b→k*mv ly≤mv lx∧qbf k 999999999*mv ly≤mv lx:=by
  intro a b ha hb hbY k hk
  have hk0:0≤k:=by rw[hk];exact Int.ediv_nonneg (by omega) (by omega)
  have hkb:k*b≤a:=by rw[hk];exact Int.ediv_mul_le a (by omega)
  have hY:=(hy.bd).1
  have f1:k*mv ly≤k*(b*pB m):=Int.mul_le_mul_of_nonneg_left hbY hk0
  have f2:k*b*pB m≤a*pB m:=Int.mul_le_mul_of_nonneg_right hkb (by omega)
  have f3:k*(b*pB m)=k*b*pB m:=(Int.mul_assoc _ _ _).symm
  have f4:a*pB m=pB m*(lx.getD m 0+1000000000*(lx.getD (m+1) 0+1000000000*0)):=by rw[ha];grind
  have f5:k*mv ly≤mv lx:=by omega
  refine⟨f5,?_⟩
  have:qbf k 999999999≤k:=by unfold qbf;split<;>omega
  have:=Int.mul_le_mul_of_nonneg_right this hY
  omega
 have wq:∀a b:Int,0≤a→a<1000000000000000000→0<b→yY .i64 a b=a/b:=by
  intro a b h1 h2 h3
  unfold yY
  rw[Int.tdiv_eq_ediv_of_nonneg h1]
  have q1:0≤a/b:=Int.ediv_nonneg h1 (by omega)
  have q2:a/b≤a:=Int.ediv_le_self _ h1
  generalize a/b=q at *
  unfold IntKind.wrap
  simp[IntKind.signed,IntKind.bits];omega
 have fin:∀k:Int,(0<k→k*mv ly≤mv lx∧qbf k 999999999*mv ly≤mv lx)→∃k':Int,(if 0<k then qbf k 999999999 else 1)=k'∧1≤k'∧k'≤999999999∧k'*mv ly≤mv lx:=by
  intro k hk
  by_cases h:0<k
  ·rw[if_pos h]
   refine⟨_,rfl,?_,?_,(hk h).2⟩
   ·unfold qbf;split<;>omega
   ·unfold qbf;split<;>omega
  ·rw[if_neg h];exact⟨1,rfl,by omega,by omega,by omega⟩
 by_cases hcase:nx≤m+1
 ·have c7:(nx:Int)≤((m+1:Nat):Int):=by omega
  have z1:lx.getD (m+1) 0=0:=hx.z _ (by omega)
  have wa:ql .i64 0 (lx.getD m 0)=lx.getD m 0:=by rw[z7 (by omega)];omega
  by_cases hm:m=0
  ·subst hm
   have c8:¬(1:Int)<((0+1:Nat):Int):=by omega
   have hq:=wq (lx.getD 0 0) (ly.getD 0 0) (by omega) (by omega) (by omega)
   have hbY:mv ly≤ly.getD 0 0*pB 0:=by rw[q5C] at sy ty ⊢;omega
   obtain⟨k',f1,f2,f3,f4⟩:=fin (lx.getD 0 0/ly.getD 0 0) (fun _=>key _ _ (by rw[z1];omega) (by omega) hbY _ rfl)
   refine⟨k',?_,f2,f3,f4⟩
   rw[←f1]
   simp only[STD,c1,w1,c2,c3,c4,c5,c6,c7,c8,and_self,q5g,wa,hyn,hq]
   split<;>rfl
  ·have c8:(1:Int)<((m+1:Nat):Int):=by omega
   have wb:ql .i64 (ly.getD m 0) 1=ly.getD m 0+1:=z7 (by omega)
   have hq:=wq (lx.getD m 0) (ly.getD m 0+1) (by omega) (by omega) (by omega)
   have hbY:mv ly≤(ly.getD m 0+1)*pB m:=by
    have:(ly.getD m 0+1)*pB m=pB m*(ly.getD m 0+1000000000*0)+pB m:=by grind
    omega
   obtain⟨k',f1,f2,f3,f4⟩:=fin (lx.getD m 0/(ly.getD m 0+1)) (fun _=>key _ _ (by rw[z1];omega) (by omega) hbY _ rfl)
   refine⟨k',?_,f2,f3,f4⟩
   rw[←f1]
   have hne:¬ly.getD m 0+1=0:=by omega
   simp only[STD,c1,w1,c2,c3,c4,c5,c6,c7,c8,and_self,q5g,wa,wb,hne,hq]
   split<;>rfl
 ·have c7:¬(nx:Int)≤((m+1:Nat):Int):=by omega
  have wm:yM .i64 (lx.getD (m+1) 0) 1000000000=lx.getD (m+1) 0*1000000000:=q17 (by omega)
  have wa:ql .i64 (lx.getD (m+1) 0*1000000000) (lx.getD m 0)=lx.getD (m+1) 0*1000000000+lx.getD m 0:=z7 (by omega)
  by_cases hm:m=0
  ·subst hm
   have c8:¬(1:Int)<((0+1:Nat):Int):=by omega
   have hq:=wq (lx.getD (0+1) 0*1000000000+lx.getD 0 0) (ly.getD 0 0) (by omega) (by omega) (by omega)
   have hbY:mv ly≤ly.getD 0 0*pB 0:=by rw[q5C] at sy ty ⊢;omega
   obtain⟨k',f1,f2,f3,f4⟩:=fin ((lx.getD (0+1) 0*1000000000+lx.getD 0 0)/ly.getD 0 0) (fun _=>key _ _ (by omega) (by omega) hbY _ rfl)
   refine⟨k',?_,f2,f3,f4⟩
   rw[←f1]
   simp only[STD,c1,w1,c2,c3,c4,c5,c6,c7,c8,and_self,q5g,wm,wa,hyn,hq]
   split<;>rfl
  ·have c8:(1:Int)<((m+1:Nat):Int):=by omega
   have wb:ql .i64 (ly.getD m 0) 1=ly.getD m 0+1:=z7 (by omega)
   have hq:=wq (lx.getD (m+1) 0*1000000000+lx.getD m 0) (ly.getD m 0+1) (by omega) (by omega) (by omega)
   have hbY:mv ly≤(ly.getD m 0+1)*pB m:=by
    have:(ly.getD m 0+1)*pB m=pB m*(ly.getD m 0+1000000000*0)+pB m:=by grind
    omega
   obtain⟨k',f1,f2,f3,f4⟩:=fin ((lx.getD (m+1) 0*1000000000+lx.getD m 0)/(ly.getD m 0+1)) (fun _=>key _ _ (by omega) (by omega) hbY _ rfl)
   refine⟨k',?_,f2,f3,f4⟩
   rw[←f1]
   have hne:¬ly.getD m 0+1=0:=by omega
   simp only[STD,c1,w1,c2,c3,c4,c5,c6,c7,c8,and_self,q5g,wm,wa,wb,hne,hq]
   split<;>rfl
end Go.Eng

namespace Go.Eng
theorem qEa(u:Nat):Lib.decDigits u=tN u:=by
 induction u using Nat.strongRecOn with
 | _ u ih=>
  rw[Lib.decDigits]
  split
  ·rename_i h
   rw[qvb h];rfl
  ·rename_i h
   rw[ih (u/10) (by omega)]
   exact(qwC (n:=u) (by omega)).symm
theorem qxk(n:Int):Lib.itoa n=tI n:=by
 unfold Lib.itoa
 by_cases h:n<0
 ·rw[if_pos h,qEa,qc1 h]
 ·rw[if_neg h,qEa,qjN h];congr 1;omega
theorem qFD(n:Int)(h:-9223372036854775808≤n∧n≤9223372036854775807):(q4c [.i n]).run=some (0,[.s (tI n)]):=by
 show (qCy [.i n]).run=_
 unfold qCy
 simp only
 rw[if_pos h,qxk];rfl
theorem qv4{c:UInt8}(h:48≤c.toNat∧c.toNat≤57):Lib.digitVal c=some (dv c):=by
 unfold Lib.digitVal dv
 simp_all
theorem qqh:∀{s:List UInt8} (a:Nat),q6z s→Lib.decFrom a s=some (a*10^s.length+val s)
 | [],a,_=>by simp[Lib.decFrom,val]
 | c::s,a,h=>by
  obtain⟨h1,h2⟩:=q0t.1 h
  rw[Lib.decFrom,qv4 h1]
  simp only
  rw[qqh _ h2,q6j,List.length_cons,Nat.pow_succ]
  congr 1
  grind
theorem qsl{s:List UInt8}(h:q6z s)(hn:s≠[]):Lib.decNat s=some (val s):=by
 unfold Lib.decNat
 rw[if_neg (by simpa using hn),qqh 0 h];simp
theorem qwo{s:List UInt8}(h:q6z s)(hn:s≠[]):Lib.atoi s=some (val s:Int):=by
 obtain⟨c,t,e,h1,h2⟩:=qhZ h hn
 rw[e] at h ⊢
 have n1:(c==45)=false:=by
  rw[beq_eq_false_iff_ne];intro hc;subst hc;revert h1;decide
 have n2:(c==43)=false:=by
  rw[beq_eq_false_iff_ne];intro hc;subst hc;revert h1;decide
 unfold Lib.atoi
 simp only[n1,n2,Bool.false_eq_true,if_false]
 rw[qsl h (by simp)];rfl
theorem qCq(m:Int):Lib.atoi (tI m)=some m:=by
 by_cases h:m<0
 ·rw[qc1 h]
  unfold Lib.atoi
  simp only[beq_self_eq_true,if_true]
  rw[qsl (w9 _) (qp0 _),q0H]
  simp;omega
 ·rw[qjN h,qwo (w9 _) (qp0 _),q0H]
  congr 1;omega
theorem qBz{s:List UInt8}{n:Int}(hl:s.length≤18)(h:Lib.atoi s=some n):(vD [.s s]).run=some (0,[.i n]):=by
 show (qBj [.s s]).run=_
 unfold qBj
 simp only
 rw[if_pos hl,h];rfl
theorem qyr:∀s:List UInt8,Lib.indexByte s 47=if sP s<s.length then (sP s:Int) else -1
 | []=>by simp[Lib.indexByte,sP]
 | c::s=>by
  have ih:=qyr s
  have hle:=qD8 s
  unfold Lib.indexByte
  by_cases h:c=47
  ·subst h
   have:sP (47::s)=0:=qEL (by simp) (by simp) (fun j hj=>by omega)
   rw[this];simp
  ·have hc:(c==47)=false:=by simpa using h
   have e:sP (c::s)=sP s+1:=by
    unfold sP
    rw[List.findIdx_cons,hc];rfl
   rw[e]
   generalize sP s=k at *
   have el:(c::s).length=s.length+1:=rfl
   simp only[hc,el,ih,Bool.false_eq_true,if_false]
   grind
theorem qF1(s:List UInt8):(vB [.s s,.s [47]]).run=some (0,[.i (if sP s<s.length then (sP s:Int) else -1)]):=by
 show (quK [.s s,.s [47]]).run=_
 unfold quK
 simp only
 rw[←qyr];rfl
theorem qyD:∀{s t:List UInt8},q6z s→q6z t→s.length=t.length→Lib.compareBytes s t=sgn ((val s:Int)-(val t:Int))
 | [],[],_,_,_=>by simp[Lib.compareBytes,val,sgn]
 | [],_::_,_,_,h=>by simp at h
 | _::_,[],_,_,h=>by simp at h
 | a::s,b::t,hs,ht,h=>by
  obtain⟨h1,h2⟩:=q0t.1 hs
  obtain⟨h3,h4⟩:=q0t.1 ht
  have hl:s.length=t.length:=by simpa using h
  have ih:=qyD h2 h4 hl
  have v1:=q6F h2
  have v2:=q6F h4
  unfold Lib.compareBytes
  rw[q6j,q6j,hl]
  rw[hl] at v1
  have hp:0<10^t.length:=Nat.pow_pos (by omega)
  generalize 10^t.length=P at *
  unfold dv
  by_cases c1:a.toNat<b.toNat
  ·rw[if_pos (show a<b from c1)]
   have:(a.toNat-48+1)*P≤(b.toNat-48)*P:=Nat.mul_le_mul_right _ (by omega)
   rw[Nat.add_mul,Nat.one_mul] at this
   unfold sgn
   rw[if_pos (by omega)]
  ·rw[if_neg (show ¬a<b from c1)]
   by_cases c2:b.toNat<a.toNat
   ·rw[if_pos (show b<a from c2)]
    have:(b.toNat-48+1)*P≤(a.toNat-48)*P:=Nat.mul_le_mul_right _ (by omega)
    rw[Nat.add_mul,Nat.one_mul] at this
    unfold sgn
    rw[if_neg (by omega),if_neg (by omega)]
   ·rw[if_neg (show ¬b<a from c2),ih]
    have:a.toNat=b.toNat:=by omega
    rw[this]
    congr 1;omega
theorem qAv{s t:List UInt8}(hs:q6z s)(ht:q6z t)(h:s.length=t.length):(q39 [.s s,.s t]).run=some (0,[.i (sgn ((val s:Int)-(val t:Int)))]):=by
 show (qoI [.s s,.s t]).run=_
 unfold qoI
 simp only
 rw[qyD hs ht h];rfl
def qAX:List UInt8:=[48,49,50,51,52,53,54,55,56,57]
theorem qys(c:UInt8):(qAX.contains c=true)↔(48≤c.toNat∧c.toNat≤57):=by
 constructor
 ·intro h
  simp only[qAX,List.contains_eq_mem,List.mem_cons,List.not_mem_nil,or_false,decide_eq_true_eq] at h
  rcases h with rfl|rfl|rfl|rfl|rfl|rfl|rfl|rfl|rfl|rfl<;>decide
 ·rintro ⟨h1,h2⟩
  have hk:∃k,c=UInt8.ofNat k∧48≤k∧k≤57:=⟨c.toNat,by simp,h1,h2⟩
  obtain⟨k,rfl,k1,k2⟩:=hk
  have:k=48∨k=49∨k=50∨k=51∨k=52∨k=53∨k=54∨k=55∨k=56∨k=57:=by omega
  rcases this with rfl|rfl|rfl|rfl|rfl|rfl|rfl|rfl|rfl|rfl<;>decide
theorem q9s{p:UInt8→Bool}:∀{l:List UInt8},l.dropWhile p=[]↔∀x,x∈l→p x=true
 | []=>by simp
 | a::l=>by
  rw[List.dropWhile_cons]
  by_cases h:p a=true
  ·rw[if_pos h,q9s];simp[h]
  ·rw[if_neg h];simp[h]
theorem qhO(s:List UInt8):(Lib.trimS s qAX=[])=q6z s:=by
 apply propext
 unfold Lib.trimS Lib.trimLeftS Lib.trimRightS
 constructor
 ·intro h
  have h1:∀c,c∈(s.reverse.dropWhile (qAX.contains ·)).reverse→qAX.contains c=true:=by
   intro c hc
   have:=q9s.1 h c hc
   simpa using this
  have h2:s.reverse.dropWhile (qAX.contains ·)=[]:=by
   cases hd:s.reverse.dropWhile (qAX.contains ·) with
   | nil=>rfl
   | cons c t=>
    exfalso
    have h3:=List.head_dropWhile_not (p:=(qAX.contains ·)) (l:=s.reverse) (by rw[hd];simp)
    simp only[hd,List.head_cons] at h3
    have:=h1 c (by rw[hd];simp)
    rw[this] at h3;cases h3
  intro c hc
  have:=q9s.1 h2 c (by simpa using hc)
  exact(qys c).1 (by simpa using this)
 ·intro h
  have h2:s.reverse.dropWhile (qAX.contains ·)=[]:=by
   rw[q9s]
   intro c hc
   exact(qys c).2 (h c (by simpa using hc))
  rw[h2];rfl
theorem qGk(s:List UInt8)(hl:s.length≤9223372036854775807):(q7x [.s s,.s [48,49,50,51,52,53,54,55,56,57]]).run=some (0,[.s (Lib.trimS s qAX)]):=by
 show (qCn [.s s,.s qAX]).run=_
 unfold qCn
 simp only
 rw[if_pos ⟨hl,by decide,by decide⟩];rfl
end Go.Eng

namespace Go.Eng
theorem qAH(n:Nat):pB n=((10^(9*n):Nat):Int):=by
 unfold pB
 rw[Nat.pow_mul]
 simp
theorem qAw:∀k:Nat,k≤9→qcK [48,48,48,48,48,48,48,48,48] (k:Int) 9=List.replicate (9-k) 48
 | 0,_=>rfl
 | 1,_=>rfl
 | 2,_=>rfl
 | 3,_=>rfl
 | 4,_=>rfl
 | 5,_=>rfl
 | 6,_=>rfl
 | 7,_=>rfl
 | 8,_=>rfl
 | 9,_=>rfl
 | n+10,h=>by omega
theorem qF3{v:Nat}(h:v<1000000000):q6z (qBV (tN v))∧(qBV (tN v)).length=9∧val (qBV (tN v))=v:=by
 have hl:(tN v).length≤9:=q5y 8 v (by omega)
 have e:qBV (tN v)=List.replicate (9-(tN v).length) 48++tN v:=by
  unfold qBV qdh
  rw[show qu (tN v)=((tN v).length:Int) from rfl,qAw _ hl]
 rw[e]
 refine⟨q9w.2 ⟨qn1 _,w9 v⟩,by simp;omega,by rw[qqc,q0H]⟩
theorem qsx{l:List Int}(hl:l.length=232)(hd:dgs l):∀i:Nat,i≤232→q6z (ql4 (rI l) i)∧(ql4 (rI l) i).length=9*i∧((val (ql4 (rI l) i):Nat):Int)=mv (l.take i)
 | 0,_=>⟨qoB,rfl,by simp[ql4,qei,mv]⟩
 | i+1,h=>by
  obtain⟨h1,h2,h3⟩:=qsx hl hd i (by omega)
  have hil:i<l.length:=by omega
  have hg:=hd _ (List.getElem_mem hil)
  have e:cI (rI l) (i:Int) 0=l[i]:=by rw[q5g,jx hil]
  have e2:Lib.itoa l[i]=tN l[i].toNat:=by rw[qxk,qjN (by omega)];congr 1;omega
  obtain⟨p1,p2,p3⟩:=qF3 (v:=l[i].toNat) (by omega)
  unfold ql4
  rw[e,e2]
  refine⟨q9w.2 ⟨p1,h1⟩,by rw[List.length_append,p2,h2];omega,?_⟩
  rw[qtX,p3,h2,qnw hil,qAH]
  simp only[Int.natCast_add,Int.natCast_mul,h3]
  rw[Int.toNat_of_nonneg hg.1];omega
theorem qDE{n:Nat}{l:List Int}(h:WOK n l)(hn:nrm n l)(b:Bool):qCP b (n:Int) (rI l)=tI (sv b l):=by
 unfold qCP
 by_cases h0:n=0
 ·have h1:mv l=0:=by rw[←qm0 h hn];exact h0
  rw[if_pos (by omega)]
  unfold sv;rw[h1];cases b<;>rfl
 ·rw[if_neg (by omega)]
  obtain⟨m,rfl⟩:∃m,n=m+1:=⟨n-1,by omega⟩
  have hle:=h.le
  have hml:m<l.length:=by rw[h.len];omega
  have e1:(((m+1:Nat):Int)-1)=(m:Int):=by omega
  rw[e1,Int.toNat_natCast,q5g,jx hml]
  have hg:=h.dig _ (List.getElem_mem hml)
  have e2:Lib.itoa l[m]=tN l[m].toNat:=by rw[qxk,qjN (by omega)];congr 1;omega
  obtain⟨t1,t2,t3⟩:=qsx h.len h.dig m (by omega)
  have hnz:l[m]≠0:=by
   rcases hn with hn|hn
   ·omega
   ·rw[Nat.add_sub_cancel,jx hml] at hn;exact hn
  have hlo:=h.lo hn h0
  have hp:=qcs m
  simp only[Nat.add_sub_cancel] at hlo
  have hv:((val (tN l[m].toNat++ql4 (rI l) m):Nat):Int)=mv l:=by
   rw[qtX,q0H,t2,qbP l m (by omega),qcX hml,ve h.dig h.z (Nat.le_refl _),qAH]
   simp only[Int.natCast_add,Int.natCast_mul,t3]
   rw[Int.toNat_of_nonneg hg.1]
   grind
  have hT:tN l[m].toNat++ql4 (rI l) m=tN (mv l).toNat:=by
   have hd:q6z (tN l[m].toNat++ql4 (rI l) m):=q9w.2 ⟨w9 _,t1⟩
   have hne:tN l[m].toNat++ql4 (rI l) m≠[]:=by simp[qp0]
   have hz:(tN l[m].toNat++ql4 (rI l) m).getD 0 0≠48:=by
    have hv0:=q0H l[m].toNat
    have hd0:=w9 l[m].toNat
    rcases qB5 l[m].toNat with h1|h1
    ·obtain⟨c,e⟩:=List.length_eq_one_iff.1 h1
     rw[e] at hv0 ⊢
     simp only[List.cons_append,List.getD_cons_zero]
     intro hc;subst hc
     rw[qwA] at hv0
     simp[dv] at hv0;omega
    ·obtain⟨c,t,e,_⟩:=qhZ hd0 (qp0 _)
     rw[e] at h1 ⊢
     simpa using h1
   have:=qoS hd hne (.inr hz)
   rw[this];congr 1;omega
  rw[e2,List.append_assoc,hT]
  unfold sv
  cases b
  ·rw[if_neg (by simp),if_neg (by simp),qjN (by omega)];simp;congr 1;omega
  ·rw[if_pos rfl,if_pos rfl,qc1 (by omega)];simp;congr 1;omega
theorem qzl{n:Nat}{l:List Int}(h:WOK n l):qta (n:Int) (rI l)=true:=by
 unfold qta
 have:=h.le
 simp only[Bool.and_eq_true,decide_eq_true_eq,List.all_eq_true,List.mem_range]
 refine⟨⟨by omega,by omega⟩,fun i _=>?_⟩
 have:=h.get i
 rw[q5g];exact this
theorem qyn{n:Nat}{l:List Int}(h:WOK n l)(hn:nrm n l)(b:Bool):(qM [.b b,.i (n:Int),.r (rI l)]).run=some (0,[.s (tI (sv b l)),.b b,.i (n:Int),.r (rI l)]):=by
 show (qCv [.b b,.i (n:Int),.r (rI l)]).run=_
 unfold qCv
 simp only
 rw[if_pos (qzl h),qDE h hn];rfl
end Go.Eng

namespace Go.Eng
theorem qDq{nr ny:Nat}{lr ly:List Int}(hr:WOK nr lr)(hnr:nrm nr lr)(hy:WOK ny ly)(hny:nrm ny ly)(h0:ny≠0)(hy231:ny≤231)(hlt:mv lr<mv ly*1000000000)(y0:Int)(xb:Bool)(xi:Int)(xr:R)(b2:Bool)(qb:Bool)(qi:Int)(qr:R)(br:Bool) :
  ∃(d:Int) (n:Nat) (l:List Int),(qg yf [.i y0,.i 0,.b xb,.i xi,.r xr,.b b2,.i (ny:Int),.r (rI ly),.b qb,.i qi,.r qr,.b br,.i (nr:Int),.r (rI lr)]).run =
   some (0,[.i y0,.i d,.b xb,.i xi,.r xr,.b b2,.i (ny:Int),.r (rI ly),.b qb,.i qi,.r qr,.b br,.i (n:Int),.r (rI l)])∧WOK n l∧nrm n l∧0≤d∧d<1000000000∧mv lr=d*mv ly+mv l∧mv l<mv ly:=by
 have hyp:0<mv ly:=by
  have:=hy.lo hny h0
  have:=qcs (ny-1)
  omega
 have hyb:=hy.bd
 obtain⟨j,qs,g1,rfl,d,n,l,rfl,g2⟩:=yl (S:=yf) (fun k ps=>∃(d:Int) (n:Nat) (l:List Int),ps=[.i y0,.i d,.b xb,.i xi,.r xr,.b b2,.i (ny:Int),.r (rI ly),.b qb,.i qi,.r qr,.b br,.i (n:Int),.r (rI l)] ∧
   WOK n l∧nrm n l∧0≤d∧d+k=1000000000∧mv lr=d*mv ly+mv l)
  (fun j qs=>j=0∧∃(d:Int) (n:Nat) (l:List Int),qs=[.i y0,.i d,.b xb,.i xi,.r xr,.b b2,.i (ny:Int),.r (rI ly),.b qb,.i qi,.r qr,.b br,.i (n:Int),.r (rI l)]∧WOK n l∧nrm n l∧0≤d∧d<1000000000∧mv lr=d*mv ly+mv l∧mv l<mv ly) (n:=1000000000) (by omega)
  (fun k ps hk ⟨d,n,l,hps,hw,hn,hd0,hdk,hv⟩=>by
   subst hps
   have hlb:=hw.bd
   have hdlt:d<1000000000:=by
    rcases Int.lt_or_le d 1000000000 with h|h
    ·exact h
    ·have:=Int.mul_le_mul_of_nonneg_right h (show 0≤mv ly by omega)
     rw[Int.mul_comm (mv ly)] at hlt
     omega
   rw[qjP]
   obtain⟨r,r1,r2⟩:=qyR hw hn hy hny br b2
   by_cases hle:mv ly≤mv l
   ·left
    have hr0:0≤r:=by rw[r2];exact hle
    have hdm:=Int.mul_nonneg hd0 (show 0≤mv ly by omega)
    have hl9:mv l<pB (ny+1):=by rw[qaw];omega
    obtain⟨q,e1,e2,e3,e4⟩:=qzv hw hn hy hny h0 hle hl9 hy231 br b2
    obtain⟨n',l',c1,c2,c3,c4⟩:=qpv (f:=-q) (up:=0) hw hy (by omega) (by omega) (T:=mv l-q*mv ly) (by rw[q5C,Int.mul_one,Int.neg_mul];omega) (by omega)
     (by have:=hlb.2;have:=qcA hw.le;have:=Int.mul_nonneg (show 0≤q by omega) (show 0≤mv ly by omega);omega) br b2
    have hq2:(d+q)*mv ly+(mv l-q*mv ly)=d*mv ly+mv l:=by rw[Int.add_mul];omega
    have hdq:d+q<1000000000:=by
     rcases Int.lt_or_le (d+q) 1000000000 with h|h
     ·exact h
     ·have:=Int.mul_le_mul_of_nonneg_right h (show 0≤mv ly by omega)
      rw[Int.mul_comm (mv ly)] at hlt
      omega
    have w1:qv .i64 0 q=-q:=qul (by omega)
    have w2:ql .i64 d q=d+q:=z7 (by omega)
    simp only[show ((0:Nat):Int)=0 from rfl] at c1
    refine⟨(1000000000-(d+q)).toNat,[.i y0,.i (d+q),.b xb,.i xi,.r xr,.b b2,.i (ny:Int),.r (rI ly),.b qb,.i qi,.r qr,.b br,.i (n':Int),.r (rI l')],by omega,?_,d+q,n',l',rfl,c2,c3,by omega,by omega,by rw[c4];omega⟩
    simp only[STD,r1,hr0,e1,w1,w2,c1]
   ·right
    have hr0:¬0≤r:=by rw[r2];exact hle
    refine⟨0,_,?_,rfl,d,n,l,rfl,hw,hn,hd0,hdlt,hv,by omega⟩
    simp only[STD,r1,hr0]) (ps:=[.i y0,.i 0,.b xb,.i xi,.r xr,.b b2,.i (ny:Int),.r (rI ly),.b qb,.i qi,.r qr,.b br,.i (nr:Int),.r (rI lr)]) ⟨0,nr,lr,rfl,hr,hnr,by omega,by omega,by omega⟩
 exact⟨d,n,l,g1,g2⟩
theorem qCV{n:Nat}{l:List Int}{d:Int}(h:WOK n l)(hn:n≤231)(hd:0≤d∧d<1000000000) :
  qec (qkK (rI l) 1 (rI l) 0 (qbf (qxc (n:Int) 0) (qxc 232 1))) 0 0 [.i d]=rI (d::(l.take n++l.drop (1+n)))∧WOK (n+1) (d::(l.take n++l.drop (1+n)))∧mv (d::(l.take n++l.drop (1+n)))=d+1000000000*mv l:=by
 have hlen:=h.len
 have e1:qbf (qxc (n:Int) 0) (qxc 232 1)=(n:Int):=by unfold qbf qxc;split<;>omega
 obtain⟨x,t,rfl⟩:∃x t,l=x::t:=by
  cases l with
  | nil=>simp at hlen
  | cons x t=>exact⟨x,t,rfl⟩
 refine⟨?_,⟨by simp;simp at hlen;omega,by omega,?_,?_⟩,?_⟩
 ·rw[e1]
  unfold qkK
  have:(rI (x::t)).take (1:Int).toNat++((rI (x::t)).drop (0:Int).toNat).take (n:Int).toNat++(rI (x::t)).drop ((1:Int).toNat+(n:Int).toNat)=rI (x::((x::t).take n++(x::t).drop (1+n))):=by
   rw[Int.toNat_natCast]
   simp[rI,List.map_take,List.map_drop]
  rw[this,show (0:Int)=((0:Nat):Int) from rfl,qjg]
  rfl
 ·intro y hy
  rcases List.mem_cons.1 hy with rfl|hy
  ·exact hd
  ·rcases List.mem_append.1 hy with hy|hy
   ·exact h.dig _ (List.mem_of_mem_take hy)
   ·exact h.dig _ (List.mem_of_mem_drop hy)
 ·intro i hi
  obtain⟨j,rfl⟩:∃j,i=j+1:=⟨i-1,by omega⟩
  have hz:=h.z (j+1) (by omega)
  rw[List.getD_eq_getElem?_getD] at hz ⊢
  rw[List.getElem?_cons_succ,List.getElem?_append_right (by simp;omega)]
  rw[List.getElem?_drop,List.length_take,Nat.min_eq_left (by omega)]
  rw[show 1+n+(j-n)=j+1 by omega]
  exact hz
 ·show d+1000000000*mv _=_
  rw[qz3,List.length_take,Nat.min_eq_left (by omega),ve h.dig h.z (show n≤1+n by omega)]
  have:=qbP (x::t) n (by omega)
  rw[ve h.dig h.z (Nat.le_refl n)] at this
  omega
theorem qhf{nx ny:Nat}{lx ly:List Int}(hx:WOK nx lx)(hy:WOK ny ly)(hny:nrm ny ly)(h0:ny≠0)(hy231:ny≤231)(bx b2:Bool) :
  ∃(nq:Nat) (lq:List Int) (nr:Nat) (lr:List Int),(wO [.b bx,.i (nx:Int),.r (rI lx),.b b2,.i (ny:Int),.r (rI ly)]).run =
   some (0,[.b bx,.i (nx:Int),.r (rI lx),.b b2,.i (ny:Int),.r (rI ly),.b false,.i (nq:Int),.r (rI lq),.b false,.i (nr:Int),.r (rI lr)])∧WOK nq lq∧nrm nq lq∧WOK nr lr∧nrm nr lr∧mv lx=mv lq*mv ly+mv lr∧mv lr<mv ly:=by
 rw[qob]
 have hyp:0<mv ly:=by
  have:=hy.lo hny h0
  have:=qcs (ny-1)
  omega
 have hx232:=hx.le
 have e0:q3R 232 [.i 0]=rI (List.replicate 232 0):=qjD 232 0
 have hxl:=hx.len
 obtain⟨j,qs,g1,rfl,nq,lq,nr,lr,rfl,g2,g3,g4,g5,g6⟩:=yl (S:=q0N) (fun k ps=>∃(Q:Int) (nq:Nat) (lq:List Int) (nr:Nat) (lr:List Int),
   ps=[.i ((k:Int)-1),.b bx,.i (nx:Int),.r (rI lx),.b b2,.i (ny:Int),.r (rI ly),.b false,.i (nq:Int),.r (rI lq),.b false,.i (nr:Int),.r (rI lr)]∧k≤nx∧WOK nq lq∧WOK nr lr∧nrm nr lr∧mv (lx.drop k)=Q*mv ly+mv lr∧mv lr<mv ly∧mv lq=pB k*Q∧∀i,i<k→lq.getD i 0=0)
  (fun j qs=>j=0∧∃(nq:Nat) (lq:List Int) (nr:Nat) (lr:List Int),qs=[.b bx,.i (nx:Int),.r (rI lx),.b b2,.i (ny:Int),.r (rI ly),.b false,.i (nq:Int),.r (rI lq),.b false,.i (nr:Int),.r (rI lr)]∧WOK nq lq∧WOK nr lr∧nrm nr lr∧mv lx=mv lq*mv ly+mv lr∧mv lr<mv ly) (n:=nx) (by omega)
  (fun k ps hk ⟨Q,nq,lq,nr,lr,hps,hkn,hwq,hwr,hnr,hv,hlt,hq,hz⟩=>by
   subst hps
   rw[qm5]
   rcases Nat.eq_zero_or_pos k with rfl|hk0
   ·right
    have a1:¬(0:Int)≤((0:Nat):Int)-1:=by omega
    refine⟨0,[.b bx,.i (nx:Int),.r (rI lx),.b b2,.i (ny:Int),.r (rI ly),.b false,.i (nq:Int),.r (rI lq),.b false,.i (nr:Int),.r (rI lr)],?_,rfl,nq,lq,nr,lr,rfl,hwq,hwr,hnr,?_,hlt⟩
    ·simp only[STD,a1]
    ·rw[hq,q5C,Int.one_mul,←hv,List.drop_zero]
   ·left
    obtain⟨i,rfl⟩:∃i,k=i+1:=⟨k-1,by omega⟩
    have e:(((i+1:Nat):Int)-1)=(i:Int):=by omega
    rw[e]
    have hnr231:nr≤231:=Nat.le_trans (qGJ hwr hnr hy (by omega)) hy231
    have hil:i<lx.length:=by omega
    have gx:=hx.get i
    obtain⟨s1,s2,s3⟩:=qCV hwr hnr231 (d:=lx.getD i 0) gx
    obtain⟨m,t1,t2,t3⟩:=qlD s2 false
    have hX:mv (lx.drop i)=lx.getD i 0+1000000000*(Q*mv ly+mv lr):=by rw[qcX hil,←hv,jx hil]
    have hlt2:mv (lx.getD i 0::(lr.take nr++lr.drop (1+nr)))<mv ly*1000000000:=by rw[s3];omega
    obtain⟨d,n',l',d1,d2,d3,d4,d5,d6,d7⟩:=qDq t2 t3 hy hny h0 hy231 hlt2 (i:Int) bx (nx:Int) (rI lx) b2 false (nq:Int) (rI lq) false
    rw[s3] at d6
    have a1:(0:Int)≤(i:Int):=by omega
    have a2:(i:Int)<232:=by omega
    have a3:(0:Int)≤232∧(232:Int)≤232:=by omega
    have a4:(0:Int)≤1∧(1:Int)≤232:=by omega
    have a5:(0:Int)≤(nr:Int)∧(nr:Int)≤232:=by omega
    have a6:(0:Int)≤0∧(0:Int)≤(nr:Int):=by omega
    have w1:ql .i64 (nr:Int) 1=((nr+1:Nat):Int):=by rw[z7 (by omega)];omega
    have w2:ql .i64 (i:Int) 1=((i+1:Nat):Int):=by rw[z7 (by omega)];omega
    have w3:qv .i64 (i:Int) 1=(i:Int)-1:=zT (by omega)
    have w4:qgb (nq:Int) ((i+1:Nat):Int)=((max nq (i+1):Nat):Int):=qtc _ _
    have hiq:i<lq.length:=by rw[hwq.len];omega
    have hzi:lq[i]=0:=by rw[←jx hiq];exact hz i (by omega)
    refine⟨i,[.i ((i:Int)-1),.b bx,.i (nx:Int),.r (rI lx),.b b2,.i (ny:Int),.r (rI ly),.b false,.i ((max nq (i+1):Nat):Int),.r (rI (lq.set i d)),.b false,.i (n':Int),.r (rI l')],by omega,?_,Q*1000000000+d,_,_,_,_,rfl,by omega,hwq.setW (by omega) ⟨d4,d5⟩,d2,d3,?_,d7,?_,?_⟩
    ·simp only[q5g,s1,w1]
     simp only[STD,a1,a2,a3,a4,a5,a6,and_self,t1,d1,w2,w3,w4,qjg]
    ·rw[hX,Int.add_mul,Int.mul_add]
     have:Q*1000000000*mv ly=1000000000*(Q*mv ly):=by grind
     omega
    ·rw[qyy lq i hiq,hzi,hq,qaw];grind
    ·intro a ha
     rw[List.getD_eq_getElem?_getD,List.getElem?_set_ne (by omega),←List.getD_eq_getElem?_getD]
     exact hz a (by omega))
  (ps:=[.i ((nx:Int)-1),.b bx,.i (nx:Int),.r (rI lx),.b b2,.i (ny:Int),.r (rI ly),.b false,.i 0,.r (rI (List.replicate 232 0)),.b false,.i 0,.r (rI (List.replicate 232 0))])
  ⟨0,0,_,0,_,rfl,Nat.le_refl _,WOK.zero,WOK.zero,.inl rfl,by rw[ve hx.dig hx.z (Nat.le_refl _),qf8];omega,by rw[qf8];exact hyp,by rw[qf8,Int.mul_zero],fun i _=>qw3 232 i⟩
 obtain⟨m,t1,t2,t3⟩:=qlD g2 false
 refine⟨m,lq,nr,lr,?_,t2,t3,g3,g4,g5,g6⟩
 have hs:qv .i64 (nx:Int) 1=(nx:Int)-1:=zT (by omega)
 simp only[e0,hs]
 simp only[STD,g1,t1]
end Go.Eng

namespace Go.Eng
theorem qFQ{c:UInt8}{t:List UInt8}:qcK (c::t) 0 1=[c]:=by simp[qcK]
theorem qAY(s:List UInt8):(qI [.s s,.s [45]]).run=some (0,[.b (decide (s.getD 0 0=45))]):=by
 rw[q60]
 have h1:qu [45]=1:=rfl
 cases s with
 | nil=>
  have a:¬(1:Int)≤qu []:=by decide
  simp only[STD,h1,a];rfl
 | cons c t=>
  have a:(1:Int)≤qu (c::t):=by unfold qu;simp only[List.length_cons];omega
  simp only[STD,h1,a,show (0:Int)≤1 by omega,show (0:Int)≤0 by omega,and_self,qFQ]
  have e:seq [c] [45]=decide ((c::t).getD 0 0=45):=by rw[Bool.eq_iff_iff,zW];simp
  rw[e]
theorem qtU(s:List UInt8):(qR [.s s,.s [45]]).run=some (0,[.s (mag s)]):=by
 rw[qhC]
 have h:(zi [.s s,.s [45]]).run=some (0,[.s (mag s)]):=by
  rw[q5p]
  have h1:qu [45]=1:=rfl
  unfold mag
  by_cases h:s.getD 0 0=45
  ·rw[if_pos h]
   have a:(1:Int)≤qu s:=by
    cases s with
    | nil=>simp at h
    | cons c t=>unfold qu;simp only[List.length_cons];omega
   have e:qcK s 1 (qu s)=s.drop 1:=by unfold qcK qu;simp
   simp only[STD,qAY,h,h1,a,and_self,Int.le_refl,show (0:Int)≤qu s by omega,show (0:Int)≤1 by omega,e]
  ·rw[if_neg h]
   simp only[STD,qAY,h]
 simp only[STD,h]
theorem qeY(s:List UInt8)(hl:s.length≤1000000000):(qO [.s s]).run=some (0,[.i (qyI s)]):=by
 rw[qrk]
 have hT:=qtU s
 have hml:(mag s).length≤s.length:=by unfold mag;split<;>simp
 have hR:=qGk (mag s) (by omega)
 have hcan:=qBQ s
 unfold qyI
 have hl3:(1024<qu (mag s))=¬((mag s).length≤1024):=by unfold qu;simp only[eq_iff_iff];omega
 by_cases hne:mag s=[]
 ·rw[if_neg (fun h=>(hcan.1 h).1 hne)]
  simp only[STD,hT,zW,hne]
 ·have hp:0<(mag s).length:=List.length_pos_iff.2 hne
  have a1:(0:Int)<qu (mag s):=by unfold qu;omega
  have hs:sat (mag s) 0=((mag s)[0].toNat:Int):=qq3 (i:=0) hp
  have h48:((mag s)[0].toNat:Int)=48↔(mag s).getD 0 0=48:=by
   have:(mag s).getD 0 0=(mag s)[0]:=by simp[List.getD_eq_getElem?_getD,hp]
   rw[this]
   exact⟨fun h=>UInt8.toNat_inj.1 (by show (mag s)[0].toNat=48;omega),fun h=>by rw[h];rfl⟩
  by_cases hd:q6z (mag s)
  ·have hs1:((mag s).getD 0 0=48→s.length=1)↔(((mag s)[0].toNat:Int)=48→s=[48]):=by
    rw[h48]
    constructor
    ·intro h h2
     obtain⟨c,e⟩:=List.length_eq_one_iff.1 (h h2)
     subst e
     by_cases hc:c=45
     ·subst hc;exact absurd rfl hne
     ·have:mag [c]=[c]:=by unfold mag;rw[if_neg (by simpa using hc)]
      rw[this] at h2
      simp at h2
      rw[h2]
    ·intro h h2
     rw[h h2];rfl
   by_cases hz:((mag s)[0].toNat:Int)=48
   ·by_cases h0:s=[48]
    ·rw[if_pos (hcan.2 ⟨hne,hd,hs1.2 fun _=>h0⟩)]
     by_cases hL:(mag s).length≤1024
     ·simp only[STD,hT,hR,zW,hne,qhO,hd,a1,hs,hz,hl3,hL,Int.le_refl,and_self]
      simp only[STD,h0]
     ·simp only[STD,hT,hR,zW,hne,qhO,hd,a1,hs,hz,hl3,hL,Int.le_refl,and_self]
      simp only[STD,h0]
    ·rw[if_neg (fun h=>h0 (hs1.1 (hcan.1 h).2.2 hz))]
     simp only[STD,hT,hR,zW,hne,qhO,hd,a1,hs,hz,h0,Int.le_refl,and_self]
   ·rw[if_pos (hcan.2 ⟨hne,hd,fun h=>absurd (h48.2 h) hz⟩)]
    by_cases hL:(mag s).length≤1024
    ·simp only[STD,hT,hR,zW,hne,qhO,hd,a1,hs,hz,hl3,hL,Int.le_refl,and_self]
    ·simp only[STD,hT,hR,zW,hne,qhO,hd,a1,hs,hz,hl3,hL,Int.le_refl,and_self]
  ·rw[if_neg (fun h=>hd (hcan.1 h).2.1)]
   simp only[STD,hT,hR,zW,hne,qhO,hd]
def okL(m:Int):Prop:=nl m≤1024
theorem qx8{m:Int}(h:okL m):qyI (tI m)=0:=by
 unfold qyI
 rw[if_pos ⟨m,rfl⟩,qv8,if_pos (show (tN m.natAbs).length≤1024 from h)]
theorem qxX{m:Int}(h:okL m):(tI m).length≤1025:=by
 have:=qw8 m
 unfold okL nl at h
 omega
theorem qee{m:Int}(h:okL m):(qO [.s (tI m)]).run=some (0,[.i 0]):=by
 have:=qxX h
 rw[qeY _ (by omega),qx8 h]
def rS(l:List (List UInt8)):R:=l.map fun s=>[.s s]
theorem qsu(l:List (List UInt8)):qh (rS l)=l.length:=by simp[rS,qh]
theorem qCo{l:List (List UInt8)}{i:Nat}(h:i<l.length):cS (rS l) (i:Int) 0=l[i]:=by simp[cS,vu,rS,List.getD_eq_getElem?_getD,h,U.toS]
theorem qFw{l:List (List UInt8)}(hn:l.length<1000000)(h:∀s,s∈l→(qO [.s s]).run=some (0,[.i 0])):(zS [.r (rS l)]).run=some (0,[.i 0]):=by
 rw[qvt,qsu]
 have key:=v8 (S:=q6v) (fun i=>[.r (rS l),.i (l.length:Int),.i (i:Int)]) (0,[]) l.length (by omega) (fun i hi=>by
  rw[qiE,qCo hi]
  have a1:(i:Int)<(l.length:Int):=by omega
  have a2:(i:Int)<qh (rS l):=by rw[qsu];exact a1
  simp only[STD,a1,a2,jS,and_self,h _ (List.getElem_mem hi),kI hi (show l.length<9223372036854775808 by omega)]) (by
  rw[qiE]
  have a1:¬(l.length:Int)<(l.length:Int):=by omega
  simp only[STD,a1])
 simp only[show (((0:Nat)):Int)=0 from rfl] at key
 simp only[STD,key,qD key]
theorem qfp{m n:Int}(hm:okL m)(hn:okL n):(zS [.r [[.s (tI m)],[.s (tI n)]]]).run=some (0,[.i 0]):=by
 have:=qFw (l:=[tI m,tI n]) (by simp) (fun s hs=>by
  simp only[List.mem_cons,List.not_mem_nil,or_false] at hs
  rcases hs with rfl|rfl
  ·exact qee hm
  ·exact qee hn)
 exact this
theorem q70(n:Int)(h:-9223372036854775808≤n∧n≤9223372036854775807):(zt [.i n]).run=some (0,[.s (tI n)]):=by
 rw[qy5]
 simp only[STD,qFD n h]
theorem q6R(m:Int):(tI m=[48])=(m=0):=propext ⟨fun h=>qvX (n:=0) h,fun h=>by rw[h];rfl⟩
theorem q2M(m:Int):(ub [.s (tI m)]).run=some (0,[.i (sgn m)]):=by
 rw[qtJ]
 have a1:(0:Int)<qu (tI m):=by have:=qp6 m;unfold qu;omega
 have hs:(sat (tI m) 0=45)=(m<0):=qyB m
 unfold sgn
 by_cases h0:m=0
 ·simp only[STD,zW,q6R,h0];rfl
 ·by_cases h1:m<0
  ·simp only[STD,zW,q6R,h0,a1,hs,h1,Int.le_refl,and_self]
  ·simp only[STD,zW,q6R,h0,a1,hs,h1,Int.le_refl,and_self]
theorem qvT{m:Int}(h:okL m):(q7S [.s (tI m)]).run=some (0,[.i (sgn m),.i 0]):=by
 rw[qu4]
 simp only[STD,qee h,q2M]
theorem qEJ(m n:Nat):(q5v [.s (tN m),.s (tN n)]).run=some (0,[.i (sgn ((m:Int)-(n:Int)))]):=by
 rw[qr6]
 have hl:(qu (tN m)=qu (tN n))=((tN m).length=(tN n).length):=by unfold qu;simp only[eq_iff_iff];omega
 have hl2:(qu (tN m)<qu (tN n))=((tN m).length<(tN n).length):=by unfold qu;simp only[eq_iff_iff];omega
 by_cases he:(tN m).length=(tN n).length
 ·have h:=qAv (w9 m) (w9 n) he
  rw[q0H,q0H] at h
  simp only[STD,hl,he,h]
 ·by_cases hlt:(tN m).length<(tN n).length
  ·have h:=(qx3 m n).1 (.inl hlt)
   simp only[STD,hl,hl2,he,hlt]
   unfold sgn
   rw[if_pos (by omega)]
  ·have h:=(qx3 n m).1 (.inl (by omega))
   simp only[STD,hl,hl2,he,hlt]
   unfold sgn
   rw[if_neg (by omega),if_neg (by omega)]
theorem qdt(m:Int):(m<0∧sgn m=-1)∨(m=0∧sgn m=0)∨(0<m∧sgn m=1):=by
 unfold sgn
 rcases Int.lt_trichotomy m 0 with h|h|h
 ·rw[if_pos h];omega
 ·subst h;simp
 ·rw[if_neg (by omega),if_neg (by omega)];omega
theorem qp9(m:Int):-1≤sgn m∧sgn m≤1:=by rcases qdt m with⟨_,e⟩|⟨_,e⟩|⟨_,e⟩<;>omega
theorem qF8(m n:Int):(if sgn m<sgn n then -1 else if sgn n<sgn m then 1 else sgn m*sgn ((m.natAbs:Int)-(n.natAbs:Int)))=sgn (m-n):=by
 rcases qdt m with⟨a,ea⟩|⟨a,ea⟩|⟨a,ea⟩<;>rcases qdt n with⟨b,eb⟩|⟨b,eb⟩|⟨b,eb⟩<;>rw[ea,eb]<;>simp only[Int.reduceLT,Int.reduceNeg,if_true,if_false] <;>
  rcases qdt (m-n) with⟨c,ec⟩|⟨c,ec⟩|⟨c,ec⟩<;>rcases qdt ((m.natAbs:Int)-(n.natAbs:Int)) with⟨d,ed⟩|⟨d,ed⟩|⟨d,ed⟩<;>omega
theorem qpM{m n:Int}(hm:okL m)(hn:okL n):(q2H [.s (tI m),.s (tI n)]).run=some (0,[.i (sgn (m-n)),.i 0]):=by
 rw[qom]
 have h1:=qtU (tI m)
 have h2:=qtU (tI n)
 rw[qv8] at h1 h2
 have h3:=qEJ m.natAbs n.natAbs
 have hw:∀a b:Int,-1≤a∧a≤1→-1≤b∧b≤1→yM .i64 a b=a*b:=fun a b ha hb=>q17 (by have:=qCT (A:=1) (B:=1) ha.1 ha.2 hb.1 hb.2;omega)
 have ba:=qp9 m
 have bb:=qp9 n
 have bc:=qp9 ((m.natAbs:Int)-(n.natAbs:Int))
 have e:=qF8 m n
 by_cases c1:sgn m<sgn n
 ·rw[if_pos c1] at e
  simp only[STD,qfp hm hn,q2M,h1,h2,h3,c1,←e]
 ·rw[if_neg c1] at e
  by_cases c2:sgn n<sgn m
  ·rw[if_pos c2] at e
   simp only[STD,qfp hm hn,q2M,h1,h2,h3,c1,c2,←e]
  ·rw[if_neg c2] at e
   simp only[STD,qfp hm hn,q2M,h1,h2,h3,c1,c2,hw _ _ ba bc,←e]
theorem qnB(m:Int)(hm:nl m≤2000):∃(n:Nat) (l:List Int),(zz [.s (tI m)]).run=some (0,[.b (decide (m<0)),.i (n:Int),.r (rI l)])∧WOK n l∧nrm n l∧mv l=m.natAbs∧9*n≤nl m+8:=by
 rw[quk]
 have h1:=qtU (tI m)
 rw[qv8] at h1
 have a1:(0:Int)<qu (tI m):=by have:=qp6 m;unfold qu;omega
 have hb:ieq (sat (tI m) 0) 45=decide (m<0):=by
  rw[Bool.eq_iff_iff,qpV,qyB];simp
 have e0:q3R 232 [.i 0]=rI (List.replicate 232 0):=qjD 232 0
 have hL:(tN m.natAbs).length≤2000:=hm
 obtain⟨j,qs,g1,rfl,n,l,rfl,g2,g3,g4⟩:=yl (S:=q4l) (fun k ps=>∃(n:Nat) (l:List Int),ps=[.s ((tN m.natAbs).take k),.b (decide (m<0)),.i (n:Int),.r (rI l)]∧k≤(tN m.natAbs).length∧WOK n l ∧
   (k=0∧9*n≤(tN m.natAbs).length+8∨k+9*n=(tN m.natAbs).length)∧((val (tN m.natAbs):Nat):Int)=((val ((tN m.natAbs).take k):Nat):Int)*pB n+mv l)
  (fun j qs=>j=0∧∃(n:Nat) (l:List Int),qs=[.b (decide (m<0)),.i (n:Int),.r (rI l)]∧WOK n l∧mv l=m.natAbs∧9*n≤(tN m.natAbs).length+8) (n:=(tN m.natAbs).length) (by omega)
  (fun k ps hk ⟨n,l,hps,hkl,hw,hkn,hv⟩=>by
   subst hps
   rw[qq6]
   have hlk:qu ((tN m.natAbs).take k)=(k:Int):=by unfold qu;rw[List.length_take,Nat.min_eq_left hkl]
   rcases Nat.eq_zero_or_pos k with rfl|hk0
   ·right
    refine⟨0,[.b (decide (m<0)),.i (n:Int),.r (rI l)],?_,rfl,n,l,rfl,hw,?_,by omega⟩
    ·have a:¬(0:Int)<qu ((tN m.natAbs).take 0):=by rw[hlk];omega
     simp only[STD,a]
    ·rw[q0H,List.take_zero,qei] at hv
     simp at hv;omega
   ·left
    have hn231:n≤231:=by omega
    obtain⟨q,hq,hq9⟩:∃q:Nat,qgb 0 (qv .i64 (k:Int) 9)=(q:Int)∧q=k-9:=by
     refine⟨k-9,?_,rfl⟩
     rw[zT (by omega)];unfold qgb;split<;>omega
    have hqk:q≤k:=by omega
    have hsub:qcK ((tN m.natAbs).take k) (q:Int) (k:Int)=((tN m.natAbs).take k).drop q:=by unfold qcK;simp[List.take_take]
    have hsub2:qcK ((tN m.natAbs).take k) 0 (q:Int)=(tN m.natAbs).take q:=by unfold qcK;simp[List.take_take,Nat.min_eq_left hqk]
    have hdg:q6z (((tN m.natAbs).take k).drop q):=qCO (quS (w9 _) k) q
    have hdl:(((tN m.natAbs).take k).drop q).length=k-q:=by rw[List.length_drop,List.length_take,Nat.min_eq_left hkl]
    have hdn:((tN m.natAbs).take k).drop q≠[]:=by intro h;rw[h] at hdl;simp at hdl;omega
    have hA:=qBz (s:=((tN m.natAbs).take k).drop q) (by omega) (qwo hdg hdn)
    have hvl:=q6F hdg
    rw[hdl] at hvl
    have hv9:val (((tN m.natAbs).take k).drop q)<1000000000:=Nat.lt_of_lt_of_le hvl (by
     have:(10:Nat)^(k-q)≤10^9:=Nat.pow_le_pow_right (by omega) (by omega)
     simpa using this)
    have b1:(0:Int)<(k:Int):=by omega
    have b2:(0:Int)≤(q:Int)∧(q:Int)≤(k:Int):=by omega
    have b3:(0:Int)≤(k:Int)∧(k:Int)≤(k:Int):=by omega
    have b4:(0:Int)≤(n:Int)∧(n:Int)<232:=by omega
    have b5:(0:Int)≤0∧(0:Int)≤(q:Int):=by omega
    have w1:ql .i64 (n:Int) 1=((n+1:Nat):Int):=by rw[z7 (by omega)];omega
    have hnl:n<l.length:=by rw[hw.len];omega
    have hz:l[n]=0:=by rw[←jx hnl];exact hw.z n (Nat.le_refl _)
    have hW:=hw.setW (j:=n) (y:=((val (((tN m.natAbs).take k).drop q):Nat):Int)) (by omega) (by omega)
    rw[Nat.max_eq_right (by omega)] at hW
    refine⟨q,[.s ((tN m.natAbs).take q),.b (decide (m<0)),.i ((n+1:Nat):Int),.r (rI (l.set n ((val (((tN m.natAbs).take k).drop q):Nat):Int)))],by omega,?_,n+1,_,rfl,by omega,hW,by omega,?_⟩
    ·simp only[STD,hlk,b1,hq,b2,b3,b4,b5,and_self,hsub,hsub2,hA,w1,qjg]
    ·rw[qyy l n hnl,hz,hv]
     have hsp:val ((tN m.natAbs).take k)=val ((tN m.natAbs).take q)*10^(k-q)+val (((tN m.natAbs).take k).drop q):=by
      have h1:(tN m.natAbs).take k=((tN m.natAbs).take k).take q++((tN m.natAbs).take k).drop q:=(List.take_append_drop q _).symm
      have h2:((tN m.natAbs).take k).take q=(tN m.natAbs).take q:=by rw[List.take_take,Nat.min_eq_left hqk]
      rw[h2] at h1
      generalize ((tN m.natAbs).take k).drop q=D at *
      rw[h1,qtX,hdl]
     rw[hsp,qaw]
     rcases Nat.lt_or_ge k 9 with h9|h9
     ·have:q=0:=by omega
      subst this
      rw[List.take_zero,qei]
      simp;omega
     ·have:k-q=9:=by omega
      rw[this]
      simp only[Int.natCast_add,Int.natCast_mul]
      have e9:(((10:Nat)^9:Nat):Int)=1000000000:=by simp
      rw[e9]
      grind) (ps:=[.s ((tN m.natAbs).take (tN m.natAbs).length),.b (decide (m<0)),.i 0,.r (rI (List.replicate 232 0))])
  ⟨0,_,rfl,Nat.le_refl _,WOK.zero,.inr (by omega),by rw[q5C,List.take_length,qf8];simp⟩
 rw[List.take_length] at g1
 obtain⟨n2,t1,t2,t3⟩:=qlD g2 (decide (m<0))
 refine⟨n2,l,?_,t2,t3,g3,?_⟩
 ·simp only[STD,e0,hb,h1,a1,Int.le_refl,and_self,g1,t1]
 ·have:=qGJ t2 t3 g2 (Int.le_refl _)
  unfold nl;omega
end Go.Eng

namespace Go.Eng
theorem qEM{m:Int}{k n:Nat}(h:nl m≤k)(hk:k≤9*n):(m.natAbs:Int)<pB n:=by
 rw[qAH]
 have h1:=qGl h
 have h2:(10:Nat)^k≤10^(9*n):=Nat.pow_le_pow_right (by omega) hk
 omega
theorem qsI{m:Int}(h:okL m):(m.natAbs:Int)<pB 114:=qEM (k:=1024) h (by omega)
theorem qtI{m:Int}(h:okL m):okL (-m):=by unfold okL;rw[qp3];exact h
theorem qCj{n:Nat}:pB n+pB n≤pB (n+1):=by rw[qaw];have:=qcs n;omega
theorem qGb{b:Bool}{l:List Int}(h:0≤mv l):((sv b l).natAbs:Int)=mv l:=by unfold sv;cases b<;>simp<;>omega
theorem qv7{n:Nat}{l:List Int}(h:WOK n l)(hn:nrm n l)(b:Bool)(hk:okL (sv b l)):(zP [.b b,.i (n:Int),.r (rI l)]).run=some (0,[.s (tI (sv b l)),.i 0,.b b,.i (n:Int),.r (rI l)]):=by
 rw[qh0]
 simp only[STD,qyn h hn,qee hk]
theorem qxH(m n:Int):(yW [.s (tI m),.s (tI n)]).run=some (0,if (tI m).length≤9∧(tI n).length≤9 then [.i m,.i n,.b true] else [.i 0,.i 0,.b false]):=by
 rw[qrh]
 have h1:(9<qu (tI m))=¬(tI m).length≤9:=by unfold qu;simp only[eq_iff_iff];omega
 have h2:(9<qu (tI n))=¬(tI n).length≤9:=by unfold qu;simp only[eq_iff_iff];omega
 by_cases a:(tI m).length≤9
 ·by_cases b:(tI n).length≤9
  ·simp only[STD,h1,h2,a,b,and_self,qBz (s:=tI m) (by omega) (qCq m),qBz (s:=tI n) (by omega) (qCq n)]
  ·simp only[STD,h1,h2,a,b,and_false]
 ·simp only[STD,h1,a,false_and]
theorem qhV{m:Int}(h:(tI m).length≤9):m.natAbs<1000000000:=by
 have:(tN m.natAbs).length≤9:=by
  unfold tI at h
  split at h
  ·simp at h;omega
  ·exact h
 exact Nat.lt_of_lt_of_le (q5G this) (by simp)
theorem qyl(n:Int)(h:-9223372036854775808≤n∧n≤9223372036854775807):(kN [.i n]).run=some (0,[.s (tI n),.i 0]):=by
 rw[qoO]
 simp only[STD,q70 n h]
theorem qC3{m:Int}{l:List Int}(h:mv l=m.natAbs):sv (decide (m<0)) l=m:=by
 unfold sv
 by_cases hm:m<0
 ·rw[decide_eq_true hm,if_pos rfl];omega
 ·rw[decide_eq_false hm,if_neg (by simp)];omega
theorem qFG{m n:Int}(hm:okL m)(hn:okL n)(hs:okL (m+n)):(qat [.r [[.s (tI m)],[.s (tI n)]]]).run=some (0,[.s (tI (m+n)),.i 0]):=by
 rw[quW]
 have e0:q3R 232 [.i 0]=rI (List.replicate 232 0):=qjD 232 0
 have lm:=qsI hm
 have ln:=qsI hn
 obtain⟨q1,l1,r1,w1,n1,v1,_⟩:=qnB m (by unfold okL at hm;omega)
 obtain⟨q2,l2,r2,w2,n2,v2,_⟩:=qnB n (by unfold okL at hn;omega)
 have hb2:=qcA (show 115≤232 by omega)
 have hb1:pB 114+pB 114≤pB 115:=qCj
 have hb0:=qcs 114
 obtain⟨b1,k1,m1,a1,a2,a3,a4⟩:=qE0 (lx:=List.replicate 232 0) (nx:=0) WOK.zero (.inl rfl) w1 n1 (by rw[qf8,v1];omega) false (decide (m<0))
 rw[qC3 v1] at a4
 have a5:sv b1 m1=m:=by
  have:sv false (List.replicate 232 0)=0:=by unfold sv;rw[if_neg (by simp),qf8]
  rw[a4,this];omega
 obtain⟨b2,k2,m2,c1,c2,c3,c4⟩:=qE0 a2 a3 w2 n2 (by rw[←qGb (b:=b1) a2.bd.1,a5,v2];omega) b1 (decide (n<0))
 rw[qC3 v2,a5] at c4
 have key:=v8 (S:=q5w) (fun i=>match i with
  | 0=>[.r [[.s (tI m)],[.s (tI n)]],.i 2,.i 0,.b false,.i 0,.r (rI (List.replicate 232 0))]
  | 1=>[.r [[.s (tI m)],[.s (tI n)]],.i 2,.i 1,.b b1,.i (k1:Int),.r (rI m1)]
  | _=>[.r [[.s (tI m)],[.s (tI n)]],.i 2,.i 2,.b b2,.i (k2:Int),.r (rI m2)]) (0,[.b b2,.i (k2:Int),.r (rI m2)]) 2 (by omega) (fun i hi=>by
   have:i=0∨i=1:=by omega
   have d0:cS [[.s (tI m)],[.s (tI n)]] 0 0=tI m:=rfl
   have d1:cS [[.s (tI m)],[.s (tI n)]] 1 0=tI n:=rfl
   have d2:qh [[U.s (tI m)],[U.s (tI n)]]=2:=rfl
   rcases this with rfl|rfl
   ·simp only
    rw[qd4,d0,d2]
    simp only[show ((0:Nat):Int)=0 from rfl] at a1
    have w:ql .i64 0 1=1:=by decide
    simp only[STD,r1,a1,w,show (0:Int)<2 by omega,show (0:Int)≤0 by omega,and_self]
   ·simp only
    rw[qd4,d1,d2]
    have w:ql .i64 1 1=2:=by decide
    simp only[STD,r2,c1,w,show (1:Int)<2 by omega,show (0:Int)≤1 by omega,and_self]) (by
   simp only
   rw[qd4]
   simp only[STD,show ¬(2:Int)<2 by omega])
 simp only at key
 have hL:=qv7 c2 c3 b2 (by rw[c4];exact hs)
 rw[c4] at hL
 have d2:qh [[U.s (tI m)],[U.s (tI n)]]=2:=rfl
 simp only[e0,d2]
 simp only[STD,key,hL]
theorem qFN{m n:Int}(hm:okL m)(hn:okL n)(hs:okL (m+n)):(q2q [.s (tI m),.s (tI n)]).run=some (0,[.s (tI (m+n)),.i 0]):=by
 rw[qwj]
 have h:=qxH m n
 by_cases hc:(tI m).length≤9∧(tI n).length≤9
 ·rw[if_pos hc] at h
  have b1:=qhV hc.1
  have b2:=qhV hc.2
  have w:ql .i64 m n=m+n:=z7 (by omega)
  simp only[STD,qfp hm hn,h,w,qyl (m+n) (by omega)]
 ·rw[if_neg hc] at h
  simp only[STD,qfp hm hn,h,qFG hm hn hs]
theorem qzB{m:Int}(hm:okL m):(q1E [.s (tI m)]).run=some (0,[.s (tI (-m))]):=by
 rw[qmn]
 have hl:=qxX hm
 have hp:=qp6 m
 rcases qdt m with⟨h,e⟩|⟨h,e⟩|⟨h,e⟩
 ·have a1:(0:Int)≤qu (tI m)∧qu (tI m)≤qu (tI m):=by unfold qu;omega
  have a2:(0:Int)≤1∧1≤qu (tI m):=by unfold qu;omega
  have a3:qcK (tI m) 1 (qu (tI m))=tI (-m):=by
   unfold qcK qu
   rw[qc1 h,qjN (m:=-m) (by omega),Int.natAbs_neg];simp
  simp only[STD,q2M,e,a1,a2,a3,and_self,show ¬((-1:Int)=0) by omega,show ¬((-1:Int)=1) by omega]
 ·simp only[STD,q2M,e]
  rw[h];rfl
 ·have a1:qu [45]+qu (tI m)≤140737488355328:=by unfold qu;simp;omega
  have a3:qdh [45] (tI m)=tI (-m):=by
   unfold qdh
   rw[qc1 (m:=-m) (by omega),qjN (m:=m) (by omega),Int.natAbs_neg];rfl
  simp only[STD,q2M,e,a1,a3,show ¬((1:Int)=0) by omega]
theorem qGF{m n:Int}(hm:okL m)(hn:okL n)(hs:okL (m-n)):(q72 [.s (tI m),.s (tI n)]).run=some (0,[.s (tI (m-n)),.i 0]):=by
 rw[quI]
 have h:=qFN hm (qtI hn) (by rwa [←Int.sub_eq_add_neg])
 rw[←Int.sub_eq_add_neg] at h
 simp only[STD,qfp hm hn,qzB hn,h]
theorem qGP{m n:Int}(hm:okL m)(hn:okL n)(hs:okL (m*n)):(q51 [.s (tI m),.s (tI n)]).run=some (0,[.s (tI (m*n)),.i 0]):=by
 rw[qvS]
 have h:=qxH m n
 by_cases hc:(tI m).length≤9∧(tI n).length≤9
 ·rw[if_pos hc] at h
  have b1:=qhV hc.1
  have b2:=qhV hc.2
  have b3:=qCT (A:=999999999) (B:=999999999) (a:=m) (b:=n) (by omega) (by omega) (by omega) (by omega)
  have w:yM .i64 m n=m*n:=q17 (by omega)
  simp only[STD,qfp hm hn,h,w,qyl (m*n) (by omega)]
 ·rw[if_neg hc] at h
  unfold okL at hm hn
  obtain⟨q1,l1,r1,w1,n1,v1,z1⟩:=qnB m (by omega)
  obtain⟨q2,l2,r2,w2,n2,v2,z2⟩:=qnB n (by omega)
  obtain⟨k,l,t1,t2,t3,t4⟩:=qED w1 w2 (by omega) (decide (m<0)) (decide (n<0))
  have hv:sv (!(Go.Eng.beq (decide (m<0)) (decide (n<0)))) l=m*n:=by
   unfold sv
   rw[t4,v1,v2]
   have e:((m.natAbs:Int)*(n.natAbs:Int))=(((m*n).natAbs:Nat):Int):=by rw[Int.natAbs_mul];simp
   rw[e]
   unfold Go.Eng.beq
   rcases Int.lt_trichotomy m 0 with a|a|a
   ·rcases Int.lt_trichotomy n 0 with b|b|b
    ·have:=Int.mul_pos_of_neg_of_neg a b
     simp[a,b];omega
    ·subst b;simp
    ·have:=Int.mul_neg_of_neg_of_pos a b
     have b':¬n<0:=by omega
     simp[a,b'];omega
   ·subst a;simp
   ·have a':¬m<0:=by omega
    rcases Int.lt_trichotomy n 0 with b|b|b
    ·have:=Int.mul_neg_of_pos_of_neg a b
     simp[a',b];omega
    ·subst b;simp
    ·have:=Int.mul_pos a b
     have b':¬n<0:=by omega
     simp[a',b'];omega
  have hL:=qv7 t2 t3 (!(Go.Eng.beq (decide (m<0)) (decide (n<0)))) (by rw[hv];exact hs)
  rw[hv] at hL
  simp only[STD,qfp hm hn,h,r1,r2,t1,hL]
theorem qC4{n:Nat}{l:List Int}(h:WOK n l)(hn:nrm n l){k:Nat}(hl:mv l<pB k):n≤k:=by
 rcases Nat.lt_or_ge k n with h1|h1
 ·have:=h.lo hn (by omega)
  have:=qcA (show k≤n-1 by omega)
  omega
 ·exact h1
theorem qD0{k n:Int}(h0:n≠0)(hm:okL (k*n))(hn:okL n):(q4o [.s (tI (k*n)),.s (tI n)]).run=some (0,[.s (tI k),.s (tI 0),.i 0]):=by
 rw[qqP]
 have h:=qxH (k*n) n
 have hz:¬tI n=[48]:=by rw[q6R];exact h0
 by_cases hc:(tI (k*n)).length≤9∧(tI n).length≤9
 ·rw[if_pos hc] at h
  have b1:=qhV hc.1
  have b2:=qhV hc.2
  have hk:k.natAbs≤(k*n).natAbs:=by
   rw[Int.natAbs_mul]
   have:k.natAbs*1≤k.natAbs*n.natAbs:=Nat.mul_le_mul_left _ (by omega)
   omega
  have w1:q6E (k*n) n=0:=by unfold q6E;exact Int.mul_tmod_left k n
  have w2:yY .i64 (k*n) n=k:=by
   rw[Int.mul_comm];exact qi5 h0 (by omega)
  simp only[STD,qfp hm hn,zW,hz,h,h0,w1,w2,q70 k (by omega),q70 0 (by omega)]
 ·rw[if_neg hc] at h
  have lm:=qsI hm
  have ln:=qsI hn
  obtain⟨q1,l1,r1,w1,n1,v1,z1⟩:=qnB (k*n) (by unfold okL at hm;omega)
  obtain⟨q2,l2,r2,w2,n2,v2,z2⟩:=qnB n (by unfold okL at hn;omega)
  have hq2:q2≤114:=qC4 w2 n2 (by omega)
  have hq0:q2≠0:=fun h=>by rw[qm0 w2 n2] at h;omega
  obtain⟨nq,lq,nr,lr,d1,d2,d3,d4,d5,d6,d7⟩:=qhf w1 w2 n2 hq0 (by omega) (decide (k*n<0)) (decide (n<0))
  have e1:((k*n).natAbs:Int)=(k.natAbs:Int)*(n.natAbs:Int):=by rw[Int.natAbs_mul];simp
  rw[v1,v2,e1] at d6
  rw[v2] at d7
  have b4:=d4.bd.1
  have hr0:mv lr=0∧mv lq=k.natAbs:=by
   have hn0:(0:Int)<(n.natAbs:Int):=by omega
   have e2:((k.natAbs:Int)-mv lq)*(n.natAbs:Int)=mv lr:=by rw[Int.sub_mul];omega
   rcases Int.lt_trichotomy ((k.natAbs:Int)-mv lq) 0 with a|a|a
   ·have:=Int.mul_neg_of_neg_of_pos a hn0;omega
   ·rw[a,Int.zero_mul] at e2;omega
   ·have:=Int.mul_le_mul_of_nonneg_right (show 1≤(k.natAbs:Int)-mv lq by omega) (show 0≤(n.natAbs:Int) by omega)
    omega
  have hnr:nr=0:=by rw[qm0 d4 d5];exact hr0.1
  have hv:sv (!(Go.Eng.beq (decide (k*n<0)) (decide (n<0)))) lq=k:=by
   unfold sv
   rw[hr0.2]
   unfold Go.Eng.beq
   rcases Int.lt_trichotomy k 0 with a|a|a
   ·rcases Int.lt_trichotomy n 0 with b|b|b
    ·have:=Int.mul_pos_of_neg_of_neg a b
     have c:¬k*n<0:=by omega
     simp[b,c];omega
    ·exact absurd b h0
    ·have c:=Int.mul_neg_of_neg_of_pos a b
     have b':¬n<0:=by omega
     simp[b',c];omega
   ·subst a;simp
   ·rcases Int.lt_trichotomy n 0 with b|b|b
    ·have c:=Int.mul_neg_of_pos_of_neg a b
     simp[b,c];omega
    ·exact absurd b h0
    ·have:=Int.mul_pos a b
     have c:¬k*n<0:=by omega
     have b':¬n<0:=by omega
     simp[b',c];omega
  have hT:=qyn d2 d3 (!(Go.Eng.beq (decide (k*n<0)) (decide (n<0))))
  rw[hv] at hT
  have hT2:=qyn d4 d5 (decide (k*n<0))
  have hv0:sv (decide (k*n<0)) lr=0:=by unfold sv;rw[hr0.1];split<;>rfl
  rw[hv0] at hT2
  have hnr':¬(0:Int)<(nr:Int):=by omega
  simp only[STD,qfp hm hn,zW,hz,h,r1,r2,d1,hnr',hT,hT2]
theorem qDZ{m n:Int}(h:m.natAbs≤n.natAbs)(hn:okL n):okL m:=Nat.le_trans (uX h) hn
theorem qGI{k n:Int}(h0:n≠0)(hm:okL (k*n))(hn:okL n):(q74 [.s (tI (k*n)),.s (tI n)]).run=some (0,[.s (tI k),.i 0]):=by
 rw[qwn]
 have hk:okL k:=qDZ (by
  rw[Int.natAbs_mul]
  have:k.natAbs*1≤k.natAbs*n.natAbs:=Nat.mul_le_mul_left _ (by omega)
  omega) hm
 simp only[STD,qD0 h0 hm hn,qee hk]
theorem qBx(a b:Nat)(hb:b<9223372036854775808):(qg q1S [.i (a:Int),.i (b:Int)]).run=some (0,[.i ((Nat.gcd a b:Nat):Int)]):=by
 obtain⟨j,qs,h1,rfl,rfl⟩:=yl (S:=q1S) (fun k ps=>∃x y:Nat,ps=[.i (x:Int),.i (y:Int)]∧y=k∧Nat.gcd x y=Nat.gcd a b)
  (fun j qs=>j=0∧qs=[.i ((Nat.gcd a b:Nat):Int)]) (n:=b) hb (fun k ps hk ⟨x,y,hps,hy,hg⟩=>by
  subst hps
  rw[qpj]
  by_cases h0:y=0
  ·right
   refine⟨0,[.i (x:Int)],?_,rfl,?_⟩
   ·simp only[STD,h0];simp[]
   ·rw[←hg,h0,Nat.gcd_zero_right]
  ·left
   refine⟨x%y,[.i (y:Int),.i ((x%y:Nat):Int)],by rw[←hy];exact Nat.mod_lt _ (by omega),?_,y,x%y,rfl,rfl,?_⟩
   ·simp only[STD,show ¬((y:Int)=0) by omega,qow]
   ·rw[←hg,Nat.gcd_comm y,←Nat.gcd_rec,Nat.gcd_comm]) (ps:=[.i (a:Int),.i (b:Int)]) ⟨a,b,rfl,rfl,rfl⟩
 exact h1
theorem qEi{n:Nat}{l:List Int}(h:WOK n l)(hn:n≤1):mv l=l.getD 0 0:=by
 have:=qbP l 1 (by rw[h.len];omega)
 rw[ve h.dig h.z hn,Int.mul_zero,Int.add_zero] at this
 have hl:=h.len
 obtain⟨x,t,rfl⟩:∃x t,l=x::t:=by
  cases l with
  | nil=>simp at hl
  | cons x t=>exact⟨x,t,rfl⟩
 rw[this];simp[mv]
theorem qG3{m n:Int}(hm:okL m)(hn:okL n):(q2A [.s (tI m),.s (tI n)]).run=some (0,[.s (tN (Nat.gcd m.natAbs n.natAbs)),.i 0]):=by
 rw[qvv]
 have lm:=qsI hm
 have ln:=qsI hn
 obtain⟨q1,l1,r1,w1,n1,v1,_⟩:=qnB m (by unfold okL at hm;omega)
 obtain⟨q2,l2,r2,w2,n2,v2,_⟩:=qnB n (by unfold okL at hn;omega)
 have hm':(tN m.natAbs).length≤1024:=hm
 have hn':(tN n.natAbs).length≤1024:=hn
 obtain⟨j,qs,g1,g2⟩:=yl (S:=q5s) (fun k ps=>∃(x y:Nat) (b1 b2:Bool) (nx ny:Nat) (lx ly:List Int),ps=[.b b1,.i (nx:Int),.r (rI lx),.b b2,.i (ny:Int),.r (rI ly)] ∧
   WOK nx lx∧nrm nx lx∧WOK ny ly∧nrm ny ly∧mv lx=x∧mv ly=y∧eM x y=k∧Nat.gcd x y=Nat.gcd m.natAbs n.natAbs∧(x:Int)<pB 114∧(y:Int)<pB 114)
  (fun j qs=>(j=0∧∃(b:Bool) (n':Nat) (l:List Int),qs=[.b b,.i (n':Int),.r (rI l)]∧WOK n' l∧nrm n' l∧mv l=((Nat.gcd m.natAbs n.natAbs:Nat):Int))∨(j=1∧qs=[.s (tN (Nat.gcd m.natAbs n.natAbs)),.i 0])) (n:=eM m.natAbs n.natAbs) (qyz (by omega) (by omega))
  (fun k ps hk ⟨x,y,b1,b2,nx,ny,lx,ly,hps,hw,hnw,hw2,hn2,hx,hy,he,hg,lx1,ly1⟩=>by
  subst hps
  rw[qrf]
  have hxl:=hw.len
  have hyl:=hw2.len
  by_cases h0:ny=0
  ·right
   have hy0:mv ly=0:=by rw[←qm0 hw2 hn2];exact h0
   have hy0':y=0:=by omega
   refine⟨0,[.b b1,.i (nx:Int),.r (rI lx)],?_,.inl ⟨rfl,b1,nx,lx,rfl,hw,hnw,?_⟩⟩
   ·simp only[STD,h0,show ¬(0:Int)<((0:Nat):Int) by omega]
   ·rw[hx,←hg,hy0',Nat.gcd_zero_right]
  ·have a0:(0:Int)<(ny:Int):=by omega
   have hy0:y≠0:=fun h=>h0 (by rw[qm0 hw2 hn2];omega)
   by_cases hc:nx≤1∧ny≤1
   ·right
    have e1:=qEi hw hc.1
    have e2:=qEi hw2 hc.2
    have d1:cI (rI lx) 0 0=(x:Int):=by rw[show (0:Int)=((0:Nat):Int) from rfl,q5g,←e1,hx]
    have d2:cI (rI ly) 0 0=(y:Int):=by rw[show (0:Int)=((0:Nat):Int) from rfl,q5g,←e2,hy]
    have hy9:=hw2.get 0
    rw[←e2,hy] at hy9
    have hE:=qBx x y (by omega)
    have hgl:Nat.gcd x y≤y:=Nat.gcd_le_right _ (by omega)
    have hO:=q70 ((Nat.gcd x y:Nat):Int) (by omega)
    rw[q0K] at hO
    have c1:(nx:Int)≤1:=by omega
    have c2:(ny:Int)≤1:=by omega
    refine⟨1,[.s (tN (Nat.gcd x y)),.i 0],?_,.inr ⟨rfl,by rw[hg]⟩⟩
    simp only[STD,a0,c1,c2,d1,d2,hE,hO]
   ·left
    have hny:ny≤114:=qC4 hw2 hn2 (by omega)
    obtain⟨nq,lq,nr,lr,d1,d2,d3,d4,d5,d6,d7⟩:=qhf hw hw2 hn2 h0 (by omega) b1 b2
    have hr:mv lr=((x%y:Nat):Int):=by
     have b4:=d4.bd.1
     rw[hx,hy] at d6
     rw[hy] at d7
     have hy1:(0:Int)<(y:Int):=by omega
     have:=(Int.ediv_emod_unique hy1 (a:=(x:Int)) (r:=mv lr) (q:=mv lq)).2 ⟨by rw[Int.mul_comm];omega,b4,d7⟩
     rw[←this.2];simp
    refine⟨eM y (x%y),[.b b2,.i (ny:Int),.r (rI ly),.b false,.i (nr:Int),.r (rI lr)],by rw[←he];exact qCK hy0,?_,y,x%y,b2,false,ny,nr,ly,lr,rfl,hw2,hn2,d4,d5,hy,hr,rfl,?_,ly1,?_⟩
    ·by_cases c1:nx≤1
     ·have c2:¬(ny:Int)≤1:=by omega
      have c1':(nx:Int)≤1:=by omega
      simp only[STD,a0,c1',c2,d1]
     ·have c1':¬(nx:Int)≤1:=by omega
      simp only[STD,a0,c1',d1]
    ·rw[←hg,Nat.gcd_comm y,←Nat.gcd_rec,Nat.gcd_comm]
    ·have:=Nat.mod_lt x (show 0<y by omega)
     omega) (ps:=[.b (decide (m<0)),.i (q1:Int),.r (rI l1),.b (decide (n<0)),.i (q2:Int),.r (rI l2)])
  ⟨m.natAbs,n.natAbs,_,_,q1,q2,l1,l2,rfl,w1,n1,w2,n2,v1,v2,rfl,rfl,lm,ln⟩
 rcases g2 with⟨rfl,b,n',l,rfl,a1,a2,a3⟩|⟨rfl,rfl⟩
 ·have hT:=qyn a1 a2 false
  have hv:sv false l=((Nat.gcd m.natAbs n.natAbs:Nat):Int):=by unfold sv;rw[a3];rfl
  rw[hv,q0K] at hT
  simp only[STD,qfp hm hn,r1,r2,g1,qD g1,hT]
 ·simp only[STD,qfp hm hn,r1,r2,g1,qD g1,show ¬(1=0) by omega]
end Go.Eng

namespace Go.Eng
theorem qaT:okL 1:=by show nl 1≤1024;decide
theorem q9I:okL 0:=by show nl 0≤1024;decide
theorem qG1(s:List UInt8)(hl:s.length≤1000000000):(q6q [.s s,.s [47]]).run=some (0,if sP s<s.length then [.s (s.take (sP s)),.s (s.drop (sP s+1)),.b true] else [.s s,.s [],.b false]):=by
 rw[qrg]
 have h:(ww [.s s,.s [47]]).run=some (0,if sP s<s.length then [.s (s.take (sP s)),.s (s.drop (sP s+1)),.b true] else [.s s,.s [],.b false]):=by
  rw[qas]
  have hI:=qF1 s
  by_cases hc:sP s<s.length
  ·rw[if_pos hc] at hI ⊢
   have w:ql .i64 (sP s:Int) (qu [47])=((sP s+1:Nat):Int):=by
    show ql .i64 (sP s:Int) 1=_
    rw[z7 (by omega)];omega
   have a1:(0:Int)≤(sP s:Int)∧(sP s:Int)≤qu s:=by unfold qu;omega
   have a2:(0:Int)≤0∧(0:Int)≤(sP s:Int):=by omega
   have a3:(0:Int)≤qu s∧qu s≤qu s:=by unfold qu;omega
   have a4:(0:Int)≤((sP s+1:Nat):Int)∧((sP s+1:Nat):Int)≤qu s:=by unfold qu;omega
   have e1:qcK s 0 (sP s:Int)=s.take (sP s):=by unfold qcK;simp
   have e2:qcK s ((sP s+1:Nat):Int) (qu s)=s.drop (sP s+1):=by unfold qcK qu;simp only[Int.toNat_natCast];rw[List.take_length]
   simp only[STD,hI,a1.1,a1.2,a2,a3,a4,and_self,w,e1,e2]
  ·rw[if_neg hc] at hI ⊢
   have a:¬(0:Int)≤-1:=by omega
   simp only[STD,hI,a]
 by_cases hc:sP s<s.length
 ·rw[if_pos hc] at h ⊢
  simp only[STD,h]
 ·rw[if_neg hc] at h ⊢
  simp only[STD,h]
theorem qGm(s:List UInt8)(hl:s.length≤1000000000):(qP [.s s]).run=some (0,[.s (spn s),.s (spd s),.b (decide (sP s<s.length))]):=by
 rw[qwe]
 have h:=qG1 s hl
 unfold spn spd
 by_cases hc:sP s<s.length
 ·rw[if_pos hc] at h ⊢
  rw[decide_eq_true hc]
  simp only[STD,h]
 ·rw[if_neg hc] at h ⊢
  have:sP s=s.length:=by have:=qD8 s;omega
  rw[decide_eq_false hc,this,List.take_length]
  simp only[STD,h]
theorem qFA(q:Rat):(sP (tQ q)<(tQ q).length)=(q.den≠1):=by
 by_cases h:q.den=1
 ·rw[qb7 h,qtA (qrF _)];simp[h]
 ·rw[q5R h,qBf (qrF _)];simp[h]
def okQ(q:Rat):Prop:=qn q≤1024∧qd q≤1024
theorem q55{q:Rat}(h:okQ q):okL q.num:=h.1
theorem q0g{q:Rat}(h:okQ q):okL (q.den:Int):=h.2
theorem qq4{q:Rat}(h:okQ q):(tQ q).length≤3000:=by have:=qDY q;have:=h.1;have:=h.2;omega
theorem qay{q:Rat}(h:okQ q):(qP [.s (tQ q)]).run=some (0,[.s (tI q.num),.s (tI (q.den:Int)),.b (decide (q.den≠1))]):=by
 have:=qq4 h
 rw[qGm _ (by omega),qBF,qCb,q0K]
 simp only[qFA]
open Classical in
noncomputable def vI(s:List UInt8):Int:=if h:∃m:Int,s=tI m then h.choose else 0
theorem qCB(m:Int):vI (tI m)=m:=by
 unfold vI
 have h:∃k:Int,tI m=tI k:=⟨m,rfl⟩
 rw[dif_pos h]
 exact(qvX h.choose_spec).symm
theorem qtg{s:List UInt8}(h:qyI s=0):∃m:Int,s=tI m∧okL m:=by
 unfold qyI at h
 split at h
 ·rename_i hm
  obtain⟨m,rfl⟩:=hm
  rw[qv8] at h
  split at h
  ·rename_i hl;exact⟨m,rfl,hl⟩
  ·omega
 ·omega
theorem qvf(s:List UInt8):qyI s=0∨qyI s=3∨qyI s=11:=by
 unfold qyI
 split
 ·split<;>simp
 ·simp
noncomputable def qrO(s:List UInt8):Int:=
 if qyI (spn s)=3 then 3 else if qyI (spd s)=3 then 3 else if qyI (spn s)≠0 then 11 else if qyI (spd s)≠0 then 11
 else if sP s<s.length then (if sgn (vI (spd s)-1)≤0 then 3 else if Nat.gcd (vI (spn s)).natAbs (vI (spd s)).natAbs=1 then 0 else 3) else 0
theorem qFv(s:List UInt8):(spn s).length≤s.length:=by unfold spn;rw[List.length_take];omega
theorem qFS(s:List UInt8):(spd s).length≤s.length+1:=by unfold spd;split<;>simp<;>omega
theorem q96(s:List UInt8)(hl:s.length≤100000000):(vH [.s s]).run=some (0,[.i (qrO s)]):=by
 rw[qqY]
 have hn:=qFv s
 have hd:=qFS s
 have h1:=qeY (spn s) (by omega)
 have h2:=qeY (spd s) (by omega)
 have hc:=qGm s (by omega)
 have mx:qgb 11 0=11∧qgb 11 11=11∧qgb 0 11=11:=by decide
 unfold qrO
 rcases qvf (spn s) with a|a|a<;>rcases qvf (spd s) with b|b|b<;>rw[a] at h1 ⊢<;>rw[b] at h2 ⊢
 ·obtain⟨m,em,om⟩:=qtg a
  obtain⟨n,en,on⟩:=qtg b
  rw[em] at h1 hc ⊢
  rw[en] at h2 hc ⊢
  have hC:=qpM on (n:=1) qaT
  rw[qEg] at hC
  have hG:=qG3 om on
  rw[qCB,qCB]
  by_cases hs:sP s<s.length
  ·by_cases ho:sgn (n-1)≤0
   ·simp only[STD,hc,h1,h2,hs,hC,hG,ho,show ¬((0:Int)=3) by omega,show ¬((0:Int)≠0) by omega]
   ·by_cases hg:Nat.gcd m.natAbs n.natAbs=1
    ·simp only[STD,hc,h1,h2,hs,hC,hG,ho,hg,zW,qaa,show ¬((0:Int)=3) by omega,show ¬((0:Int)≠0) by omega]
    ·simp only[STD,hc,h1,h2,hs,hC,hG,ho,hg,zW,qaa,show ¬((0:Int)=3) by omega,show ¬((0:Int)≠0) by omega]
  ·simp only[STD,hc,h1,h2,hs,show ¬((0:Int)=3) by omega,show ¬((0:Int)≠0) by omega]
 all_goals simp only[STD,hc,h1,h2,mx,show ¬((0:Int)=3) by omega,show ¬((11:Int)=3) by omega,show ¬((11:Int)=0) by omega,show ¬((3:Int)=0) by omega]
theorem qtF{q:Rat}(h:okQ q):qrO (tQ q)=0:=by
 unfold qrO
 have e1:spd (tQ q)=tI (q.den:Int):=by rw[qCb,q0K]
 rw[qBF,e1,qx8 (q55 h),qx8 (q0g h)]
 simp only[qCB,qFA]
 by_cases hd:q.den=1
 ·simp[hd]
 ·have:=q.den_nz
  have hs:¬sgn ((q.den:Int)-1)≤0:=by
   unfold sgn;rw[if_neg (by omega),if_neg (by omega)];omega
  have hr:Nat.gcd q.num.natAbs q.den=1:=q.reduced
  simp[hd,hs,hr]
theorem qEz{s:List UInt8}(h:qrO s=0):∃q:Rat,s=tQ q∧okQ q:=by
 unfold qrO at h
 split at h
 ·omega
 split at h
 ·omega
 split at h
 ·omega
 split at h
 ·omega
 rename_i h1 h2 h3 h4
 obtain⟨m,em,om⟩:=qtg (Decidable.byContradiction fun h=>h3 h)
 obtain⟨n,en,on⟩:=qtg (Decidable.byContradiction fun h=>h4 h)
 rw[em,en,qCB,qCB] at h
 split at h
 ·rename_i hs
  split at h
  ·omega
  rename_i hsg
  split at h
  ·rename_i hg
   have hn1:1<n:=by
    unfold sgn at hsg
    by_cases c1:n-1<0
    ·rw[if_pos c1] at hsg;omega
    ·rw[if_neg c1] at hsg
     by_cases c2:n-1=0
     ·rw[if_pos c2] at hsg;omega
     ·omega
   obtain⟨k,rfl⟩:∃k:Nat,n=(k:Int):=⟨n.toNat,by omega⟩
   refine⟨⟨m,k,by omega,hg⟩,?_,om,on⟩
   rw[q5R (show k≠1 by omega)]
   have hslash:s=spn s++47::spd s:=by
    unfold spn spd
    rw[if_pos hs]
    have h47:s[sP s]=47:=by
     have:=List.findIdx_getElem (p:=(·==47)) (w:=hs)
     exact eq_of_beq this
    rw[←h47,List.getElem_cons_drop,List.take_append_drop]
   rw[hslash,em,en,q0K]
  ·omega
 ·rename_i hs
  have e:sP s=s.length:=by have:=qD8 s;omega
  have hsn:spn s=s:=by unfold spn;rw[e,List.take_length]
  refine⟨(m:Rat),?_,?_,?_⟩
  ·rw[qwM,←em,hsn]
  ·have:nl m≤1024:=om
   unfold qn;simpa using this
  ·unfold qd;simp;decide
theorem qGN(m:Int):nl m≤(tI m).length:=by unfold nl tI;split<;>simp
theorem qpD(q:Rat):qn q≤(tQ q).length∧(q.den=1∨qn q+1+qd q≤(tQ q).length):=by
 have h1:=qGN q.num
 by_cases h:q.den=1
 ·rw[qb7 h];exact⟨h1,.inl h⟩
 ·rw[q5R h]
  unfold qn qd dl
  simp
  omega
theorem qv5{l:List (List UInt8)}(hn:l.length<1000000)(h:∀s,s∈l→(vH [.s s]).run=some (0,[.i 0])):(qW [.r (rS l)]).run=some (0,[.i 0]):=by
 rw[qpp,qsu]
 have key:=v8 (S:=q1H) (fun i=>[.r (rS l),.i (l.length:Int),.i (i:Int)]) (0,[]) l.length (by omega) (fun i hi=>by
  rw[qdj,qCo hi]
  have a1:(i:Int)<(l.length:Int):=by omega
  have a2:(i:Int)<qh (rS l):=by rw[qsu];exact a1
  simp only[STD,a1,a2,jS,and_self,h _ (List.getElem_mem hi),kI hi (show l.length<9223372036854775808 by omega)]) (by
  rw[qdj]
  have a1:¬(l.length:Int)<(l.length:Int):=by omega
  simp only[STD,a1])
 simp only[show (((0:Nat)):Int)=0 from rfl] at key
 simp only[STD,key,qD key]
theorem qi6{q:Rat}(h:okQ q):(vH [.s (tQ q)]).run=some (0,[.i 0]):=by
 have:=qq4 h
 rw[q96 _ (by omega),qtF h]
theorem qh8{a b:Rat}(ha:okQ a)(hb:okQ b):(qW [.r [[.s (tQ a)],[.s (tQ b)]]]).run=some (0,[.i 0]):=by
 exact qv5 (l:=[tQ a,tQ b]) (by simp) (fun s hs=>by
  simp only[List.mem_cons,List.not_mem_nil,or_false] at hs
  rcases hs with rfl|rfl
  ·exact qi6 ha
  ·exact qi6 hb)
theorem qES{m n:Int}(hm:okL m)(hn:okL n)(h:okL (m+n)):(yv [.s (tI m),.s (tI n),.i 0]).run=some (0,[.s (tI (m+n)),.i 0]):=by
 rw[qma]
 have:(wL [.s (tI m),.s (tI n),.i 0]).run=some (0,[.s (tI (m+n)),.i 0]):=by
  rw[qbA]
  simp only[STD,qFN hm hn h]
 simp only[STD,this]
theorem qwY{m n:Int}(hm:okL m)(hn:okL n)(h:okL (m-n)):(zr [.s (tI m),.s (tI n),.i 0]).run=some (0,[.s (tI (m-n)),.i 0]):=by
 rw[qmS]
 have:(wK [.s (tI m),.s (tI n),.i 0]).run=some (0,[.s (tI (m-n)),.i 0]):=by
  rw[qbE]
  simp only[STD,qGF hm hn h]
 simp only[STD,this]
theorem qFa{m n:Int}(hm:okL m)(hn:okL n)(h:okL (m*n)):(zL [.s (tI m),.s (tI n),.i 0]).run=some (0,[.s (tI (m*n)),.i 0]):=by
 rw[qbz]
 simp only[STD,qGP hm hn h]
theorem qEN{m n:Int}(hm:okL m)(hn:okL n):(wJ [.s (tI m),.s (tI n),.i 0]).run=some (0,[.s (tN (Nat.gcd m.natAbs n.natAbs)),.i 0]):=by
 rw[qbx]
 simp only[STD,qG3 hm hn]
theorem qsT{k n:Int}(h0:n≠0)(hm:okL (k*n))(hn:okL n):(qV [.s (tI (k*n)),.s (tI n),.i 0]).run=some (0,[.s (tI k),.i 0]):=by
 rw[qbD]
 simp only[STD,qGI h0 hm hn]
def prd:Int→List Int→Int
 | a,[]=>a
 | a,m::l=>prd (a*m) l
def qEv:Int→List Int→Prop
 | a,[]=>okL a
 | a,m::l=>okL a∧okL m∧qEv (a*m) l
theorem qCz:∀(l:List Int) (pre:List Int) (a:Int),qEv a l→pre.length+l.length<1000→∀f,l.length<f →
  (qkN jU f [.s (tI a),.r (rS ((pre++l).map tI)),.i ((pre++l).length:Int),.i (pre.length:Int),.i 0]).run=some (0,[.s (tI (prd a l)),.i 0])
 | [],pre,a,h,hl,f,hf=>by
  obtain⟨f,rfl⟩:∃g,f=g+1:=⟨f-1,by simp at hf;omega⟩
  refine q86 ?_
  rw[qaq,List.append_nil]
  have a1:¬(pre.length:Int)<(pre.length:Int):=by omega
  simp only[STD,a1];rfl
 | m::l,pre,a,h,hl,f,hf=>by
  obtain⟨f,rfl⟩:∃g,f=g+1:=⟨f-1,by simp at hf;omega⟩
  obtain⟨h1,h2,h3⟩:=h
  have hlt:pre.length<(pre++m::l).length:=by simp
  have ih:=qCz l (pre++[m]) (a*m) h3 (by simp at hl ⊢;omega) f (by simp at hf;omega)
  rw[List.append_assoc,List.singleton_append] at ih
  have hok:okL (a*m):=by
   cases l with
   | nil=>exact h3
   | cons x l=>exact h3.1
  rw[qi8 (qs:=[.s (tI (a*m)),.r (rS ((pre++m::l).map tI)),.i ((pre++m::l).length:Int),.i ((pre++[m]).length:Int),.i 0])]
  ·exact ih
  ·rw[qaq]
   have hlt2:pre.length<((pre++m::l).map tI).length:=by simp
   rw[qCo hlt2]
   have e:((pre++m::l).map tI)[pre.length]=tI m:=by simp
   rw[e]
   have a1:(pre.length:Int)<((pre++m::l).length:Int):=by omega
   have a2:(pre.length:Int)<qh (rS ((pre++m::l).map tI)):=by rw[qsu];omega
   have w:ql .i64 (pre.length:Int) 1=((pre++[m]).length:Int):=by
    rw[z7 (by omega)];simp
   simp only[STD,a1,a2,jS,and_self,qFa h1 h2 hok,w]
theorem qwc(l:List Int)(h:qEv 1 l)(hl:l.length<1000):(qf [.r (rS (l.map tI)),.i 0]).run=some (0,[.s (tI (prd 1 l)),.i 0]):=by
 rw[qmM,qsu]
 have h1:=qCz l [] 1 h (by simp;omega) qht (by unfold qht;omega)
 simp only[List.nil_append,List.length_nil] at h1
 have e:(qg jU [.s [49],.r (rS (l.map tI)),.i ((l.map tI).length:Int),.i 0,.i 0]).run=some (0,[.s (tI (prd 1 l)),.i 0]):=by
  rw[List.length_map]
  exact h1
 simp only[STD,e]
theorem qdn{m n:Int}(hm:okL m)(hn:okL n)(h:okL (m*n)):(qf [.r [[.s (tI m)],[.s (tI n)]],.i 0]).run=some (0,[.s (tI (m*n)),.i 0]):=by
 have:=qwc [m,n] ⟨qaT,hm,by rw[Int.one_mul];exact hm,hn,by rw[Int.one_mul];exact h⟩ (by simp)
 simp only[prd,Int.one_mul] at this
 exact this
theorem qw4{q:Rat}(h:okQ q):(q1R [.s (tI q.num),.s (tI (q.den:Int))]).run=some (0,[.s (tQ q)]):=by
 rw[qpy,q0K]
 have l1:=qxX (q55 h)
 have l2:(tN q.den).length≤1024:=h.2
 have a1:qu (tI q.num)+qu [47]≤140737488355328:=by unfold qu;simp;omega
 have a2:qu (qdh (tI q.num) [47])+qu (tN q.den)≤140737488355328:=by unfold qu qdh;simp;omega
 by_cases h1:q.den=1
 ·simp only[STD,zW,qaa,h1,qb7 h1]
 ·simp only[STD,zW,qaa,h1,q5R h1,a1,a2]
  simp[qdh]
theorem qDn(s:List UInt8):(uz [.s s,.s [45]]).run=some (0,[.b (decide (s.getD 0 0=45))]):=by
 rw[qid]
 simp only[STD,qAY]
theorem qC9(n:Int):((tI n).getD 0 0=45)=(n<0):=by
 by_cases h:n<0
 ·rw[qc1 h];simp[h]
 ·rw[qjN h]
  obtain⟨c,t,e,h1,h2⟩:=qhZ (w9 n.natAbs) (qp0 _)
  rw[e]
  simp only[List.getD_cons_zero,h,eq_iff_iff,iff_false]
  intro hc;subst hc;revert h1;decide
theorem qlR{m n:Int}(hn0:n≠0)(hm:okL m)(hn:okL n):(qE [.s (tI m),.s (tI n),.i 0]).run=some (0,[.s (tQ (Rat.divInt m n)),.i 0])∧okQ (Rat.divInt m n):=by
 have hG:=qEN hm hn
 have hg0:0<Nat.gcd m.natAbs n.natAbs:=Nat.gcd_pos_of_pos_right _ (by omega)
 have hgn:Nat.gcd m.natAbs n.natAbs≤n.natAbs:=Nat.gcd_le_right _ (by omega)
 have hnum:=Rat.num_divInt m n
 have hden:=Rat.den_divInt m n
 rw[if_neg hn0] at hden
 have hgc:Int.gcd n m=Nat.gcd m.natAbs n.natAbs:=by unfold Int.gcd;exact Nat.gcd_comm _ _
 rw[hgc] at hnum hden
 obtain⟨k,hk⟩:((Nat.gcd m.natAbs n.natAbs:Nat):Int) ∣ m:=Int.ofNat_dvd_left.2 (Nat.gcd_dvd_left _ _)
 obtain⟨l,hl⟩:((Nat.gcd m.natAbs n.natAbs:Nat):Int) ∣ n:=Int.ofNat_dvd_left.2 (Nat.gcd_dvd_right _ _)
 generalize Nat.gcd m.natAbs n.natAbs=g at *
 generalize Rat.divInt m n=q at *
 have hgok:okL (g:Int):=qDZ (by simpa using hgn) hn
 have hm2:k*(g:Int)=m:=by rw[Int.mul_comm];exact hk.symm
 have hn2:l*(g:Int)=n:=by rw[Int.mul_comm];exact hl.symm
 have hgz:(g:Int)≠0:=by omega
 have hok:okQ q:=by
  constructor
  ·refine Nat.le_trans (qcv ?_) hm
   rw[hnum]
   refine Nat.le_trans (Int.natAbs_ediv_le_natAbs _ _) ?_
   rw[Int.natAbs_mul,Int.natAbs_sign_of_ne_zero hn0];omega
  ·refine Nat.le_trans (uX ?_) hn
   rw[hden];exact Nat.div_le_self _ _
 refine⟨?_,hok⟩
 rw[qiq]
 have hP:=qDn (tI n)
 simp only[qC9] at hP
 by_cases hneg:n<0
 ·have e1:-k=q.num:=by
   rw[hnum,Int.sign_eq_neg_one_of_neg hneg,←hm2]
   rw[show (-1:Int)*(k*(g:Int))=(-k)*(g:Int) by rw[Int.neg_mul,Int.one_mul,Int.neg_mul]]
   exact(Int.mul_ediv_cancel _ hgz).symm
  have e2:-l=(q.den:Int):=by
   rw[hden]
   have h3:(n.natAbs:Int)=(-l)*(g:Int):=by rw[Int.neg_mul];omega
   rw[Int.natCast_ediv,h3,Int.mul_ediv_cancel _ hgz]
  have hS:=qwY (m:=0) (n:=(g:Int)) q9I hgok (by rw[Int.zero_sub];exact qtI hgok)
  rw[Int.zero_sub,q0K] at hS
  have Q1:=qsT (k:=-k) (n:=-(g:Int)) (by omega) (by rw[Int.neg_mul_neg,hm2];exact hm) (qtI hgok)
  have Q2:=qsT (k:=-l) (n:=-(g:Int)) (by omega) (by rw[Int.neg_mul_neg,hn2];exact hn) (qtI hgok)
  rw[Int.neg_mul_neg,hm2,e1] at Q1
  rw[Int.neg_mul_neg,hn2,e2] at Q2
  have hS':(zr [.s [48],.s (tN g),.i 0]).run=some (0,[.s (tI (-(g:Int))),.i 0]):=hS
  simp only[STD,hG,hP,hneg,hS',Q1,Q2,qw4 hok]
 ·have e1:k=q.num:=by
   rw[hnum,Int.sign_eq_one_of_pos (by omega),Int.one_mul,←hm2]
   exact(Int.mul_ediv_cancel _ hgz).symm
  have e2:l=(q.den:Int):=by
   rw[hden]
   have h3:(n.natAbs:Int)=l*(g:Int):=by omega
   rw[Int.natCast_ediv,h3,Int.mul_ediv_cancel _ hgz]
  have Q1:=qsT (k:=k) (n:=(g:Int)) hgz (by rw[hm2];exact hm) hgok
  have Q2:=qsT (k:=l) (n:=(g:Int)) hgz (by rw[hn2];exact hn) hgok
  rw[hm2,e1,q0K] at Q1
  rw[hn2,e2,q0K] at Q2
  simp only[STD,hG,hP,hneg,Q1,Q2,qw4 hok]
end Go.Eng

namespace Go.Eng
theorem qAz(a b:Rat):Rat.divInt (a.num*b.den+b.num*a.den) ((a.den:Int)*(b.den:Int))=a+b:=by
 rw[Rat.add_def',←Rat.divInt_ofNat];simp
theorem qAq(a b:Rat):Rat.divInt (a.num*b.den-b.num*a.den) ((a.den:Int)*(b.den:Int))=a-b:=by
 rw[Rat.sub_def',←Rat.divInt_ofNat];simp
theorem qzX(a b:Rat):Rat.divInt (a.num*b.num) ((a.den:Int)*(b.den:Int))=a*b:=by
 rw[Rat.mul_def',←Rat.divInt_ofNat];simp
theorem qzi(a b:Rat):Rat.divInt (a.num*b.den) ((a.den:Int)*b.num)=a/b:=by
 rw[Rat.div_def,Rat.inv_def,←Rat.divInt_mul_divInt,Rat.num_divInt_den]
theorem qne(a b:Rat):(a.den:Int)*(b.den:Int)≠0:=by have:=Int.mul_pos (qwx a) (qwx b);omega
theorem qGs{m:Int}(h:m≠0):¬tI m=[48]:=by rw[q6R];exact h
def bnd(N D:Nat)(q:Rat):Prop:=qn q≤N∧qd q≤D
theorem bnd.ok{N D:Nat}{q:Rat}(h:bnd N D q)(hN:N≤1024)(hD:D≤1024):okQ q:=⟨Nat.le_trans h.1 hN,Nat.le_trans h.2 hD⟩
theorem bnd.sm{N D K:Nat}{q:Rat}(h:bnd N D q)(hN:N≤K)(hD:D≤K):sm K q:=⟨Nat.le_trans h.1 hN,Nat.le_trans h.2 hD⟩
theorem bnd.mono{N D N' D':Nat}{q:Rat}(h:bnd N D q)(hN:N≤N')(hD:D≤D'):bnd N' D' q:=⟨Nat.le_trans h.1 hN,Nat.le_trans h.2 hD⟩
theorem bnd.mul{N D N' D':Nat}{a b:Rat}(ha:bnd N D a)(hb:bnd N' D' b):bnd (N+N') (D+D') (a*b):=
 ⟨Nat.le_trans (qAU a b) (Nat.add_le_add ha.1 hb.1),Nat.le_trans (qBr a b) (Nat.add_le_add ha.2 hb.2)⟩
theorem bnd.add{N D N' D' K:Nat}{a b:Rat}(ha:bnd N D a)(hb:bnd N' D' b)(h1:N+D'+1≤K)(h2:N'+D+1≤K):bnd K (D+D') (a+b):=
 ⟨by have:=qG0 a b;have:=ha.1;have:=ha.2;have:=hb.1;have:=hb.2;omega,by have:=qFy a b;have:=ha.2;have:=hb.2;omega⟩
theorem bnd.sub{N D N' D' K:Nat}{a b:Rat}(ha:bnd N D a)(hb:bnd N' D' b)(h1:N+D'+1≤K)(h2:N'+D+1≤K):bnd K (D+D') (a-b):=
 ⟨by have:=qG6 a b;have:=ha.1;have:=ha.2;have:=hb.1;have:=hb.2;omega,by have:=qFU a b;have:=ha.2;have:=hb.2;omega⟩
theorem bnd.div{N D N' D':Nat}{a b:Rat}(h0:b≠0)(ha:bnd N D a)(hb:bnd N' D' b):bnd (N+D') (D+N') (a/b):=
 ⟨by have:=qGe a h0;have:=ha.1;have:=hb.2;omega,by have:=qFF a h0;have:=ha.2;have:=hb.1;omega⟩
theorem bnd.neg{N D:Nat}{a:Rat}(h:bnd N D a):bnd N D (-a):=⟨by rw[qFW];exact h.1,h.2⟩
theorem qc9:bnd 1 1 0:=⟨by decide,by decide⟩
theorem qjx:bnd 1 1 2:=⟨by decide,by decide⟩
theorem qcV{m n:Int}{N M:Nat}(hm:nl m≤N)(hn:nl n≤M)(h:N+M≤1024):okL (m*n):=by
 have:=yJ m n
 unfold okL;omega
theorem qqD{N D N' D':Nat}{a b:Rat}(ha:bnd N D a)(hb:bnd N' D' b)(h1:N+N'≤1024)(h2:D+D'≤1024):(q14 [.s (tQ a),.s (tQ b)]).run=some (0,[.s (tQ (a*b)),.i 0]):=by
 have oa:=ha.ok (by omega) (by omega)
 have ob:=hb.ok (by omega) (by omega)
 have k1:okL (a.num*b.num):=qcV ha.1 hb.1 h1
 have k2:okL ((a.den:Int)*(b.den:Int)):=qcV ha.2 hb.2 h2
 have m1:=qdn (q55 oa) (q55 ob) k1
 have m2:=qdn (q0g oa) (q0g ob) k2
 have hL:=(qlR (qne a b) k1 k2).1
 rw[qzX] at hL
 rw[qvQ]
 have key:(vn [.s (tQ a),.s (tQ b)]).run=some (0,[.s (tQ (a*b)),.i 0]):=by
  rw[qcy]
  have h1:(q3u [.s (tI a.num),.s (tI (a.den:Int)),.s (tI b.num),.s (tI (b.den:Int)),.i 0]).run=some (0,[.s (tI (a.num*b.num)),.s (tI ((a.den:Int)*(b.den:Int))),.i 0]):=by
   rw[qrv]
   simp only[STD,m1,m2]
  simp only[STD,qh8 oa ob,qay oa,qay ob,h1,zW,qGs (qne a b),hL]
 simp only[STD,key]
theorem qxw{N D N' D':Nat}{a b:Rat}(ha:bnd N D a)(hb:bnd N' D' b)(h1:N+D'≤1023)(h2:N'+D≤1023)(h3:D+D'≤1024):(q6S [.s (tQ a),.s (tQ b)]).run=some (0,[.s (tQ (a+b)),.i 0]):=by
 have p1:=qqq a
 have p2:=qqq b
 have p3:=qzd a
 have p4:=qzd b
 have oa:okQ a:=⟨by have:=ha.1;have:=hb.2;omega,by have:=ha.2;have:=hb.2;omega⟩
 have ob:okQ b:=⟨by have:=hb.1;have:=ha.2;omega,by have:=ha.2;have:=hb.2;omega⟩
 have k1:okL (a.num*(b.den:Int)):=qcV ha.1 hb.2 (by omega)
 have k2:okL (b.num*(a.den:Int)):=qcV hb.1 ha.2 (by omega)
 have k3:okL ((a.den:Int)*(b.den:Int)):=qcV ha.2 hb.2 h3
 have k4:okL (a.num*(b.den:Int)+b.num*(a.den:Int)):=by
  have q1:=qs8 (a.num*(b.den:Int)) (b.num*(a.den:Int))
  have q2:=yJ a.num (b.den:Int)
  have q3:=yJ b.num (a.den:Int)
  have q4:nl a.num≤N:=ha.1
  have q5:nl (b.den:Int)≤D':=hb.2
  have q6:nl b.num≤N':=hb.1
  have q7:nl (a.den:Int)≤D:=ha.2
  unfold okL;omega
 have m1:=qdn (q55 oa) (q0g ob) k1
 have m2:=qdn (q55 ob) (q0g oa) k2
 have m3:=qdn (q0g oa) (q0g ob) k3
 have hL:=(qlR (qne a b) k4 k3).1
 rw[qAz] at hL
 rw[qvZ]
 have key:(vo [.s (tQ a),.s (tQ b)]).run=some (0,[.s (tQ (a+b)),.i 0]):=by
  rw[qd9]
  have h1:(q3d [.s (tI a.num),.s (tI (a.den:Int)),.s (tI b.num),.s (tI (b.den:Int)),.i 0]).run=some (0,[.s (tI (a.num*b.den+b.num*a.den)),.s (tI ((a.den:Int)*(b.den:Int))),.i 0]):=by
   rw[qrB]
   simp only[STD,m1,m2,m3,qES k1 k2 k4]
  simp only[STD,qh8 oa ob,qay oa,qay ob,h1,zW,qGs (qne a b),hL]
 simp only[STD,key]
theorem qx4{N D N' D':Nat}{a b:Rat}(ha:bnd N D a)(hb:bnd N' D' b)(h1:N+D'≤1023)(h2:N'+D≤1023)(h3:D+D'≤1024):(q6N [.s (tQ a),.s (tQ b)]).run=some (0,[.s (tQ (a-b)),.i 0]):=by
 have p1:=qqq a
 have p2:=qqq b
 have p3:=qzd a
 have p4:=qzd b
 have oa:okQ a:=⟨by have:=ha.1;have:=hb.2;omega,by have:=ha.2;have:=hb.2;omega⟩
 have ob:okQ b:=⟨by have:=hb.1;have:=ha.2;omega,by have:=ha.2;have:=hb.2;omega⟩
 have k1:okL (a.num*(b.den:Int)):=qcV ha.1 hb.2 (by omega)
 have k2:okL (b.num*(a.den:Int)):=qcV hb.1 ha.2 (by omega)
 have k3:okL ((a.den:Int)*(b.den:Int)):=qcV ha.2 hb.2 h3
 have k4:okL (a.num*(b.den:Int)-b.num*(a.den:Int)):=by
  have q1:=qyG (a.num*(b.den:Int)) (b.num*(a.den:Int))
  have q2:=yJ a.num (b.den:Int)
  have q3:=yJ b.num (a.den:Int)
  have q4:nl a.num≤N:=ha.1
  have q5:nl (b.den:Int)≤D':=hb.2
  have q6:nl b.num≤N':=hb.1
  have q7:nl (a.den:Int)≤D:=ha.2
  unfold okL;omega
 have m1:=qdn (q55 oa) (q0g ob) k1
 have m2:=qdn (q55 ob) (q0g oa) k2
 have m3:=qdn (q0g oa) (q0g ob) k3
 have hL:=(qlR (qne a b) k4 k3).1
 rw[qAq] at hL
 rw[qwg]
 have key:(vb [.s (tQ a),.s (tQ b)]).run=some (0,[.s (tQ (a-b)),.i 0]):=by
  rw[qd5]
  have h1:(q3q [.s (tI a.num),.s (tI (a.den:Int)),.s (tI b.num),.s (tI (b.den:Int)),.i 0]).run=some (0,[.s (tI (a.num*b.den-b.num*a.den)),.s (tI ((a.den:Int)*(b.den:Int))),.i 0]):=by
   rw[qrj]
   simp only[STD,m1,m2,m3,qwY k1 k2 k4]
  simp only[STD,qh8 oa ob,qay oa,qay ob,h1,zW,qGs (qne a b),hL]
 simp only[STD,key]
theorem qpR(q:Rat):(tQ q=[48])=(q=0):=by
 have:([48]:List UInt8)=tQ 0:=rfl
 rw[this,qzH]
theorem qwB{N D N' D':Nat}{a b:Rat}(hb0:b≠0)(ha:bnd N D a)(hb:bnd N' D' b)(h1:N+D'≤1024)(h2:D+N'≤1024):(q7d [.s (tQ a),.s (tQ b)]).run=some (0,[.s (tQ (a/b)),.i 0]):=by
 have oa:okQ a:=⟨by have:=ha.1;omega,by have:=ha.2;omega⟩
 have ob:okQ b:=⟨by have:=hb.1;omega,by have:=hb.2;omega⟩
 have k1:okL (a.num*(b.den:Int)):=qcV ha.1 hb.2 h1
 have k2:okL ((a.den:Int)*b.num):=qcV ha.2 hb.1 h2
 have hbn:b.num≠0:=fun h=>hb0 (Rat.num_eq_zero.1 h)
 have hz:(a.den:Int)*b.num≠0:=by have:=qwx a;exact Int.mul_ne_zero (by omega) hbn
 have m1:=qdn (q55 oa) (q0g ob) k1
 have m2:=qdn (q0g oa) (q55 ob) k2
 have hL:=(qlR hz k1 k2).1
 rw[qzi] at hL
 rw[qw0]
 have key:(vl [.s (tQ a),.s (tQ b)]).run=some (0,[.s (tQ (a/b)),.i 0]):=by
  rw[qd1]
  have h1:(q3o [.s (tI a.num),.s (tI (a.den:Int)),.s (tI b.num),.s (tI (b.den:Int)),.i 0]).run=some (0,[.s (tI (a.num*b.den)),.s (tI ((a.den:Int)*b.num)),.i 0]):=by
   rw[qro]
   simp only[STD,m1,m2]
  simp only[STD,qh8 oa ob,qay oa,qay ob,h1,zW,qGs hz,hL]
 simp only[STD,qh8 oa ob,zW,qpR,hb0,key]
theorem q8T{m:Int}(h:okL m):(zu [.s (tI m),.i 0]).run=some (0,[.i (sgn m),.i 0]):=by
 rw[qlz]
 simp only[STD,qvT h]
theorem qFb(m:Int):sgn m=sgq (m:Rat):=by unfold sgq;simp
theorem qxS{q k:Rat}(hk:0<k):sgq (k*q)=sgq q:=by
 rcases q8e q with⟨h,e⟩|⟨h,e⟩|⟨h,e⟩
 ·rw[e,qAS]
  have:=(Rat.mul_neg_iff_of_pos_left hk).2 h
  exact this
 ·rw[e,h,Rat.mul_zero];rfl
 ·rw[e,qt6]
  exact Rat.mul_pos hk h
theorem q2U(a:Rat):(0:Rat)<(a.den:Rat):=by
 have:=a.den_nz
 exact Rat.natCast_pos.2 (by omega)
theorem qg1(a:Rat):(a.num:Rat)=a*(a.den:Rat):=by
 have h:a=(a.num:Rat)/(a.den:Rat):=by rw[←Rat.mkRat_eq_div,Rat.mkRat_self]
 have h2:=Rat.div_mul_cancel (a:=(a.num:Rat)) (b:=(a.den:Rat)) (by have:=q2U a;grind)
 rw[←h] at h2
 exact h2.symm
def rX(a b c:Rat):Int:=a.num*b.den*c.den
def rY(a b:Rat):Int:=b.num*a.den
def rR(c:Rat):Int:=c.num*c.den
theorem qFz(a b c:Rat):sgn (rX a b c)=sgq a:=by
 unfold rX sgq
 rw[qeU (qwx c),qeU (qwx b)]
theorem qFY(a b:Rat):sgn (rY a b)=sgq b:=by unfold rY sgq;rw[qeU (qwx a)]
theorem qFV(c:Rat):sgn (rR c)=sgq c:=by unfold rR sgq;rw[qeU (qwx c)]
theorem qGf(a b c:Rat):sgn (rX a b c*rX a b c-rY a b*rY a b*rR c)=sgq (a*a-b*b*c):=by
 rw[qFb]
 have h1:=q2U a
 have h2:=q2U b
 have h3:=q2U c
 have hk:(0:Rat)<((a.den:Rat)*b.den*c.den)*((a.den:Rat)*b.den*c.den):=by
  have:=Rat.mul_pos (Rat.mul_pos h1 h2) h3
  exact Rat.mul_pos this this
 rw[←qxS (q:=a*a-b*b*c) hk]
 congr 1
 unfold rX rY rR
 simp only[Rat.intCast_sub,Rat.intCast_mul,qg1,Rat.intCast_natCast]
 grind
theorem qBk(a b c:Rat):qf0 a b c=if 0≤sgn (rX a b c)*(sgn (rY a b)*sgn (rR c)) then (if sgn (rX a b c)=0 then sgn (rY a b)*sgn (rR c) else sgn (rX a b c)) else sgn (rX a b c)*sgn (rX a b c*rX a b c-rY a b*rY a b*rR c):=by
 unfold qf0
 rw[qFz,qFY,qFV,qGf]
theorem qEm{x y r:Int}(hx:okL x)(hy:okL y)(hr:okL r)(hxx:okL (x*x))(hyy:okL (y*y))(hyr:okL (y*y*r))(hd:okL (x*x-y*y*r)) :
  (un [.s (tI x),.s (tI y),.s (tI r),.i 0]).run=some (0,[.i (if 0≤sgn x*(sgn y*sgn r) then (if sgn x=0 then sgn y*sgn r else sgn x) else sgn x*sgn (x*x-y*y*r)),.i 0]):=by
 rw[qlU]
 have bx:=qp9 x
 have bY:=qp9 y
 have br:=qp9 r
 have bd:=qp9 (x*x-y*y*r)
 have m1:=qdn hx hx hxx
 have m2:=qwc [y,y,r] ⟨qaT,hy,by rw[Int.one_mul];exact hy,hy,by rw[Int.one_mul];exact hyy,hr,by rw[Int.one_mul];exact hyr⟩ (by simp)
 simp only[prd,Int.one_mul] at m2
 have m2':(qf [.r [[.s (tI y)],[.s (tI y)],[.s (tI r)]],.i 0]).run=some (0,[.s (tI (y*y*r)),.i 0]):=m2
 by_cases hc:0≤sgn x*(sgn y*sgn r)
 ·by_cases h0:sgn x=0
  ·have w0:yM .i64 0 (sgn y*sgn r)=0:=by rw[q17 (by rw[Int.zero_mul];omega),Int.zero_mul]
   simp only[STD,q8T hx,q8T hy,q8T hr,qfb bY br,h0,w0,Int.zero_mul,Int.le_refl,eq_self]
  ·simp only[STD,q8T hx,q8T hy,q8T hr,qfb bY br,qfb bx (qGq bY br),hc,h0]
 ·simp only[STD,q8T hx,q8T hy,q8T hr,qfb bY br,qfb bx (qGq bY br),hc,m1,m2',qwY hxx hyr hd,q8T hd,qfb bx bd]
theorem qyT(m:Int):okL (0*m):=by rw[Int.zero_mul];exact q9I
theorem qEP{c:Rat}(h:0≤c):¬(tQ c).getD 0 0=45:=by
 have hn:¬c.num<0:=by have:=Rat.num_nonneg.2 h;omega
 have e:(tQ c).getD 0 0=(tI c.num).getD 0 0:=by
  by_cases hd:c.den=1
  ·rw[qb7 hd]
  ·rw[q5R hd]
   obtain⟨x,t,ex⟩:∃x t,tI c.num=x::t:=List.exists_cons_of_ne_nil (List.length_pos_iff.1 (qp6 _))
   rw[ex];simp
 rw[e,qC9];exact hn
theorem qFr{c:Rat}(h:c<0):(tQ c).getD 0 0=45:=by
 have h1:¬0≤c:=by grind
 have hn:c.num<0:=by
  have h2:¬0≤c.num:=fun h=>h1 (Rat.num_nonneg.1 h)
  omega
 have e:(tQ c).getD 0 0=(tI c.num).getD 0 0:=by
  by_cases hd:c.den=1
  ·rw[qb7 hd]
  ·rw[q5R hd]
   obtain⟨x,t,ex⟩:∃x t,tI c.num=x::t:=List.exists_cons_of_ne_nil (List.length_pos_iff.1 (qp6 _))
   rw[ex];simp
 rw[e,qC9];exact hn
theorem qlI(s:List UInt8):(sat s 0=45)=(s.getD 0 0=45):=by
 unfold sat
 simp only[Int.toNat_zero,eq_iff_iff]
 exact⟨fun h=>UInt8.toNat_inj.1 (by show (s.getD 0 0).toNat=45;omega),fun h=>by rw[h];rfl⟩
structure RootOk (a b c:Rat):Prop where
 oa:okQ a
 ob:okQ b
 oc:okQ c
 x1:okL (a.num*b.den)
 x:okL (rX a b c)
 y:okL (rY a b)
 r:okL (rR c)
 xx:okL (rX a b c*rX a b c)
 yy:okL (rY a b*rY a b)
 yr:okL (rY a b*rY a b*rR c)
 d:okL (rX a b c*rX a b c-rY a b*rY a b*rR c)
theorem qzS{a b c:Rat}(h:RootOk a b c)(hc:0≤c):(q1y [.s (tQ a),.s (tQ b),.s (tQ c)]).run=some (0,[.i (qf0 a b c),.i 0]):=by
 rw[qmL]
 have key:(q0T [.s (tQ a),.s (tQ b),.s (tQ c),.s [48],.s [48]]).run=some (0,[.i (qf0 a b c),.i 0]):=by
  rw[qkg]
  have o0:okQ 0:=qc9.ok (by omega) (by omega)
  have hz:=qi6 o0
  rw[show tQ 0=[48] from rfl] at hz
  have hch:=qv5 (l:=[tQ a,tQ b,tQ c,[48],[48]]) (by simp) (fun s hs=>by
   simp only[List.mem_cons,List.not_mem_nil,or_false] at hs
   rcases hs with rfl|rfl|rfl|rfl|rfl
   ·exact qi6 h.oa
   ·exact qi6 h.ob
   ·exact qi6 h.oc
   ·exact hz
   ·exact hz)
  have hch':(qW [.r [[.s (tQ a)],[.s (tQ b)],[.s (tQ c)],[.s [48]],[.s [48]]]]).run=some (0,[.i 0]):=hch
  have c0:=qay o0
  rw[show tQ 0=[48] from rfl] at c0
  replace c0:(qP [.s [48]]).run=some (0,[.s [48],.s [49],.b false]):=c0
  have l1:(0:Int)<qu (tQ c):=by
   have h1:=qpD c
   have h2:=qqq c
   unfold qu;omega
  have l2:(0:Int)<qu [48]:=by decide
  have n1:¬sat (tQ c) 0=45:=by rw[qlI];exact qEP hc
  have n2:¬sat [48] 0=45:=by decide
  have mx:=qwc [a.num,b.den,c.den,1,1] ⟨qaT,q55 h.oa,by rw[Int.one_mul];exact q55 h.oa,q0g h.ob,by rw[Int.one_mul];exact h.x1,q0g h.oc,by rw[Int.one_mul];exact h.x,qaT,by rw[Int.one_mul,Int.mul_one];exact h.x,qaT,by rw[Int.one_mul,Int.mul_one,Int.mul_one];exact h.x⟩ (by simp)
  have my:=qwc [b.num,a.den,1,1] ⟨qaT,q55 h.ob,by rw[Int.one_mul];exact q55 h.ob,q0g h.oa,by rw[Int.one_mul];exact h.y,qaT,by rw[Int.one_mul,Int.mul_one];exact h.y,qaT,by rw[Int.one_mul,Int.mul_one,Int.mul_one];exact h.y⟩ (by simp)
  have mr:=qdn (q55 h.oc) (q0g h.oc) h.r
  have mz:=qwc [0,a.den,b.den,c.den] ⟨qaT,q9I,by rw[Int.mul_zero];exact q9I,q0g h.oa,by simp only[Int.mul_zero];exact qyT _,q0g h.ob,by simp only[Int.mul_zero,Int.zero_mul];exact q9I,q0g h.oc,by simp only[Int.mul_zero,Int.zero_mul];exact q9I⟩ (by simp)
  have mt:=qdn (m:=0) (n:=1) q9I qaT (qyT _)
  simp only[prd,Int.one_mul,Int.mul_one,Int.zero_mul] at mx my mz mt
  have mx':(qf [.r [[.s (tI a.num)],[.s (tI (b.den:Int))],[.s (tI (c.den:Int))],[.s [49]],[.s [49]]],.i 0]).run=some (0,[.s (tI (rX a b c)),.i 0]):=mx
  have my':(qf [.r [[.s (tI b.num)],[.s (tI (a.den:Int))],[.s [49]],[.s [49]]],.i 0]).run=some (0,[.s (tI (rY a b)),.i 0]):=my
  have mr':(qf [.r [[.s (tI c.num)],[.s (tI (c.den:Int))]],.i 0]).run=some (0,[.s (tI (rR c)),.i 0]):=mr
  have mz':(qf [.r [[.s [48]],[.s (tI (a.den:Int))],[.s (tI (b.den:Int))],[.s (tI (c.den:Int))]],.i 0]).run=some (0,[.s (tI 0),.i 0]):=mz
  have mt':(qf [.r [[.s [48]],[.s [49]]],.i 0]).run=some (0,[.s (tI 0),.i 0]):=mt
  have hR:=qEm h.x h.y h.r h.xx h.yy h.yr h.d
  rw[←qBk] at hR
  have w1:yM .i64 (sgn 0) (sgn 0)=0:=by decide
  have w2:yM .i64 (qf0 a b c) 0=0:=by rw[q17 (by rw[Int.mul_zero];omega),Int.mul_zero]
  by_cases h0:qf0 a b c=0
  ·simp only[STD,hch',l1,l2,n1,n2,Int.le_refl,and_self,qay h.oa,qay h.ob,qay h.oc,c0,mx',my',mr',mz',mt',hR,q8T q9I,w1,h0,show yM .i64 0 0=0 from rfl]
  ·simp only[STD,hch',l1,l2,n1,n2,Int.le_refl,and_self,qay h.oa,qay h.ob,qay h.oc,c0,mx',my',mr',mz',mt',hR,q8T q9I,w1,w2,h0]
 simp only[STD,key]
theorem RootOk.of{N D N' D' R E:Nat}{a b c:Rat}(ha:bnd N D a)(hb:bnd N' D' b)(hc:bnd R E c)(h1:2*(N+D'+E)≤1023)(h2:2*(N'+D)+R+E≤1023):RootOk a b c:=by
 have q1:nl a.num≤N:=ha.1
 have q2:nl (a.den:Int)≤D:=ha.2
 have q3:nl b.num≤N':=hb.1
 have q4:nl (b.den:Int)≤D':=hb.2
 have q5:nl c.num≤R:=hc.1
 have q6:nl (c.den:Int)≤E:=hc.2
 have x1:=yJ a.num b.den
 have x2:=yJ (a.num*b.den) c.den
 have y1:=yJ b.num a.den
 have r1:=yJ c.num c.den
 have xx:=yJ (rX a b c) (rX a b c)
 have yy:=yJ (rY a b) (rY a b)
 have yr:=yJ (rY a b*rY a b) (rR c)
 have dd:=qyG (rX a b c*rX a b c) (rY a b*rY a b*rR c)
 have e1:nl (rX a b c)=nl (a.num*b.den*c.den):=rfl
 have e2:nl (rY a b)=nl (b.num*a.den):=rfl
 have e3:nl (rR c)=nl (c.num*c.den):=rfl
 have p1:=qpb a.num
 have p2:=qpb b.num
 have p3:=qpb c.num
 have p4:=qpb (a.den:Int)
 have p5:=qpb (b.den:Int)
 have p6:=qpb (c.den:Int)
 exact { oa:=⟨by show nl a.num≤1024;omega,by show nl (a.den:Int)≤1024;omega⟩,ob:=⟨by show nl b.num≤1024;omega,by show nl (b.den:Int)≤1024;omega⟩,oc:=⟨by show nl c.num≤1024;omega,by show nl (c.den:Int)≤1024;omega⟩,x1:=by unfold okL;omega,x:=by unfold okL;omega,y:=by unfold okL;omega,r:=by unfold okL;omega,xx:=by unfold okL;omega,yy:=by unfold okL;omega,yr:=by unfold okL;omega,d:=by unfold okL;omega }
end Go.Eng

namespace Go.Eng
theorem qAC{a b:Rat}{N D N' D':Nat}(ha:bnd N D a)(hb:bnd N' D' b)(h1:N+D'≤1023)(h2:N'+D≤1023)(h3:D+D'≤1024):(zI [.s (tQ a),.s (tQ b),.i 0]).run=some (0,[.s (tQ (a+b)),.i 0]):=by
 rw[qmz]
 have:(wG [.s (tQ a),.s (tQ b),.i 0]).run=some (0,[.s (tQ (a+b)),.i 0]):=by
  rw[qbG]
  simp only[STD,qxw ha hb h1 h2 h3]
 simp only[STD,this]
theorem qxV{a b:Rat}{N D N' D':Nat}(ha:bnd N D a)(hb:bnd N' D' b)(h1:N+D'≤1023)(h2:N'+D≤1023)(h3:D+D'≤1024):(zf [.s (tQ a),.s (tQ b),.i 0]).run=some (0,[.s (tQ (a-b)),.i 0]):=by
 rw[qmN]
 have:(wM [.s (tQ a),.s (tQ b),.i 0]).run=some (0,[.s (tQ (a-b)),.i 0]):=by
  rw[qby]
  simp only[STD,qx4 ha hb h1 h2 h3]
 simp only[STD,this]
theorem qwi{a b:Rat}{N D N' D':Nat}(ha:bnd N D a)(hb:bnd N' D' b)(h1:N+N'≤1024)(h2:D+D'≤1024):(qY [.s (tQ a),.s (tQ b),.i 0]).run=some (0,[.s (tQ (a*b)),.i 0]):=by
 rw[qn5]
 have:(wN [.s (tQ a),.s (tQ b),.i 0]).run=some (0,[.s (tQ (a*b)),.i 0]):=by
  rw[qbC]
  simp only[STD,qqD ha hb h1 h2]
 simp only[STD,this]
theorem qFK{a b:Rat}{N D N' D':Nat}(h0:b≠0)(ha:bnd N D a)(hb:bnd N' D' b)(h1:N+D'≤1024)(h2:D+N'≤1024):(zO [.s (tQ a),.s (tQ b),.i 0]).run=some (0,[.s (tQ (a/b)),.i 0]):=by
 rw[qbB]
 simp only[STD,qwB h0 ha hb h1 h2]
theorem qE5{ax ay bx by_:Rat}{N D N' D':Nat}(h1:bnd N D ax)(h2:bnd N D ay)(h3:bnd N' D' bx)(h4:bnd N' D' by_)(c1:N+D'≤1023)(c2:N'+D≤1023)(c3:D+D'≤1024) :
  (jk [.s (tQ ax),.s (tQ ay),.s (tQ bx),.s (tQ by_),.i 0]).run=some (0,[.s (tQ (ax-bx)),.s (tQ (ay-by_)),.i 0]):=by
 rw[qkn]
 simp only[STD,qxV h1 h3 c1 c2 c3,qxV h2 h4 c1 c2 c3]
theorem qDb{ax ay bx by_:Rat}{N D N' D':Nat}(h1:bnd N D ax)(h2:bnd N D ay)(h3:bnd N' D' bx)(h4:bnd N' D' by_)(c1:N+N'+(D+D')≤1023)(c2:D+D'+(D+D')≤1024) :
  (wV [.s (tQ ax),.s (tQ ay),.s (tQ bx),.s (tQ by_),.i 0]).run=some (0,[.s (tQ (ax*bx+ay*by_)),.i 0]):=by
 rw[qme]
 simp only[STD,qwi h1 h3 (by omega) (by omega),qwi h2 h4 (by omega) (by omega),qAC (h1.mul h3) (h2.mul h4) (by omega) (by omega) (by omega)]
theorem qty{ax ay bx by_:Rat}{N D N' D':Nat}(h1:bnd N D ax)(h2:bnd N D ay)(h3:bnd N' D' bx)(h4:bnd N' D' by_):bnd (N+N'+(D+D')+1) (D+D'+(D+D')) (ax*bx+ay*by_):=
 (h1.mul h3).add (h2.mul h4) (by omega) (by omega)
def q3E(ax ay bx by_:Rat):Rat:=(ax-bx)*(ax-bx)+(ay-by_)*(ay-by_)
theorem q4F{a b:Rat}(ha:bnd 12 10 a)(hb:bnd 12 10 b):bnd 23 20 (a-b):=ha.sub hb (by omega) (by omega)
theorem qqR{ax ay bx by_:Rat}(h1:bnd 12 10 ax)(h2:bnd 12 10 ay)(h3:bnd 12 10 bx)(h4:bnd 12 10 by_):bnd 87 80 (q3E ax ay bx by_):=
 qty (q4F h1 h3) (q4F h2 h4) (q4F h1 h3) (q4F h2 h4)
theorem qCc{ax ay bx by_:Rat}(h1:sm 40000 ax)(h2:sm 40000 ay)(h3:sm 40000 bx)(h4:sm 40000 by_) :
  (q1n [.s (tQ ax),.s (tQ ay),.s (tQ bx),.s (tQ by_)]).run=some (0,[.s (tQ (ax-bx)),.s (tQ (ay-by_))]):=by
 rw[qrX]
 simp only[STD,q38 (q22 h1 (show 40000≤100000 by omega)) (q22 h3 (show 40000≤100000 by omega)),q38 (q22 h2 (show 40000≤100000 by omega)) (q22 h4 (show 40000≤100000 by omega))]
theorem qDH{ax ay bx by_:Rat}{K:Nat}(hK:K≤40000)(h1:sm K ax)(h2:sm K ay)(h3:sm K bx)(h4:sm K by_) :
  (q1e [.s (tQ ax),.s (tQ ay),.s (tQ bx),.s (tQ by_)]).run=some (0,[.s (tQ (ax*bx+ay*by_))]):=by
 rw[qva]
 have e:=fun {q:Rat} (h:sm K q)=>q22 h (show K≤100000 by omega)
 have p1:=q8c (a:=ax*bx) (b:=ay*by_) (q22 (quJ h1 h3) (by omega)) (q22 (quJ h2 h4) (by omega))
 simp only[STD,vL (e h1) (e h3),vL (e h2) (e h4),p1]
structure DQ where
 x:Rat
 y:Rat
 s:Rat
def DQ.sh(d:DQ):Prop:=bnd 12 10 d.x∧bnd 12 10 d.y∧bnd 13 10 d.s
def qGS(a b:DQ)(k:Rat):Int:=qf0 (q3E a.x a.y b.x b.y-(a.s+b.s)) k (a.s*b.s)
theorem qGa{a b c:Rat}(h:RootOk a b c)(hc:0≤c):(q0I [.s (tQ a),.s (tQ b),.s (tQ c),.i 0]).run=some (0,[.i (qf0 a b c),.i 0]):=by
 rw[qm2]
 simp only[STD,qzS h hc]
theorem qzr(a:Rat):qf0 a 0 0=sgq a:=by
 unfold qf0
 rw[show sgq 0=0 from rfl,Int.mul_zero,Int.mul_zero,if_pos (by omega)]
 split
 ·rename_i h;rw[h]
 ·rfl
theorem qz5:tQ 2=[50]:=qDu 2
def qCD(a b:DQ):Prop:=a.s≤b.s∧qGS a b 2≤0
instance (a b:DQ):Decidable (qCD a b):=by unfold qCD;infer_instance
def shT(s:List UInt8):Prop:=s.length≤12
noncomputable def qEO(x y s:List UInt8):Int:=if qrO x≠0 then qrO x else if qrO y≠0 then qrO y else if qrO s≠0 then qrO s else if s.getD 0 0=45 then 2 else 0
theorem qGO{S:List PV→TR}{st:Nat→List PV}{e0 e1 e2:Int}{fin:List PV}
  (h0:(S (st 0)).run=if e0=0 then some (0,st 1) else some (2,[.i e0])) (h1:(S (st 1)).run=if e1=0 then some (0,st 2) else some (2,[.i e1])) (h2:(S (st 2)).run=if e2=0 then some (0,st 3) else some (2,[.i e2]))
  (h3:(S (st 3)).run=some (1,fin)):(qg S (st 0)).run=some (if e0≠0 then (1,[.i e0]) else if e1≠0 then (1,[.i e1]) else if e2≠0 then (1,[.i e2]) else (0,fin)):=by
 have hr:∃m,qht=m+4:=⟨qht-4,by unfold qht;omega⟩
 obtain⟨m,hm⟩:=hr
 unfold qg
 rw[hm]
 by_cases c0:e0=0
 ·rw[if_pos c0] at h0
  rw[qi8 h0]
  by_cases c1:e1=0
  ·rw[if_pos c1] at h1
   rw[qi8 h1]
   by_cases c2:e2=0
   ·rw[if_pos c2] at h2
    rw[qi8 h2,q86 h3]
    simp[c0,c1,c2]
   ·rw[if_neg c2] at h2
    rw[q86 h2]
    simp[c0,c1,c2]
  ·rw[if_neg c1] at h1
   rw[q86 h1]
   simp[c0,c1]
 ·rw[if_neg c0] at h0
  rw[q86 h0]
  simp[c0]
theorem quA(x y s:List UInt8)(h1:x.length≤1000000)(h2:y.length≤1000000)(h3:s.length≤1000000):(q2T [.s x,.s y,.s s]).run=some (0,[.i (qEO x y s)]):=by
  rw[qr9]
  have c0:=q96 x (by omega)
  have c1:=q96 y (by omega)
  have c2:=q96 s (by omega)
  have d0:cS [[.s x],[.s y],[.s s]] 0 0=x:=rfl
  have d1:cS [[.s x],[.s y],[.s s]] 1 0=y:=rfl
  have d2:cS [[.s x],[.s y],[.s s]] 2 0=s:=rfl
  have d3:qh [[U.s x],[U.s y],[U.s s]]=3:=rfl
  have w0:ql .i64 0 1=1:=by decide
  have w1:ql .i64 1 1=2:=by decide
  have w2:ql .i64 2 1=3:=by decide
  have key:=qGO (S:=q2P) (st:=fun i=>[.i 3,.i (i:Int),.s x,.s y,.s s,.r [[.s x],[.s y],[.s s]]]) (e0:=qrO x) (e1:=qrO y) (e2:=qrO s) (fin:=[.s x,.s y,.s s])
    (by rw [q4P]; simp only [show (((0 : Nat)) : Int) = 0 from rfl, show (((1 : Nat)) : Int) = 1 from rfl, d0, d3]
        by_cases c:qrO x=0
        · simp only[STD,c0,c,w0,show (0:Int)<3 by omega,Int.le_refl,and_self]
        · simp only[STD,c0,c,show (0:Int)<3 by omega,Int.le_refl,and_self])
    (by rw [q4P]; simp only [show (((1 : Nat)) : Int) = 1 from rfl, show (((2 : Nat)) : Int) = 2 from rfl, d1, d3]
        by_cases c:qrO y=0
        · simp only[STD,c1,c,w1,show (1:Int)<3 by omega,show (0:Int)≤1 by omega,and_self]
        · simp only[STD,c1,c,show (1:Int)<3 by omega,show (0:Int)≤1 by omega,and_self])
    (by rw [q4P]; simp only [show (((2 : Nat)) : Int) = 2 from rfl, show (((3 : Nat)) : Int) = 3 from rfl, d2, d3]
        by_cases c:qrO s=0
        · simp only[STD,c2,c,w2,show (2:Int)<3 by omega,show (0:Int)≤2 by omega,and_self]
        · simp only[STD,c2,c,show (2:Int)<3 by omega,show (0:Int)≤2 by omega,and_self])
    (by rw[q4P];simp only[show (((3:Nat)):Int)=3 from rfl];simp only[STD,show ¬(3:Int)<3 by omega])
  simp only[show (((0:Nat)):Int)=0 from rfl] at key
  unfold qEO
  rw[d3]
  by_cases e0:qrO x=0
  · by_cases e1:qrO y=0
    · by_cases e2:qrO s=0
      · simp only[e0,e1,e2,ne_eq,not_true,if_false] at key ⊢
        obtain⟨q,hq,_⟩:=qEz e2
        have hl:(0:Int)<qu s:=by
          have h1:=qpD q
          have h2:=qqq q
          rw[hq];unfold qu;omega
        by_cases hm:s.getD 0 0=45
        · simp only[STD,key,qD key,Int.le_refl,hl,and_self,qlI,hm]
        · simp only[STD,key,qD key,Int.le_refl,hl,and_self,qlI,hm]
      · simp only[e0,e1,e2,ne_eq,not_true,not_false_eq_true,if_false,if_true] at key ⊢
        simp only[STD,key,qD key,show ¬(1=0) by omega]
    · simp only[e0,e1,ne_eq,not_true,not_false_eq_true,if_false,if_true] at key ⊢
      simp only[STD,key,qD key,show ¬(1=0) by omega]
  · simp only[e0,ne_eq,not_false_eq_true,if_true] at key ⊢
    simp only[STD,key,qD key,show ¬(1=0) by omega]
theorem qEH{d:DQ}(h1:okQ d.x)(h2:okQ d.y)(h3:okQ d.s)(h:0≤d.s):qEO (tQ d.x) (tQ d.y) (tQ d.s)=0:=by
 unfold qEO
 rw[qtF h1,qtF h2,qtF h3]
 have:=qEP h
 rw[if_neg (by simp),if_neg (by simp),if_neg (by simp),if_neg this]
end Go.Eng

namespace Go.Eng
def Bd(C e:Nat)(x:Int):Prop:=x.natAbs≤C*10^e
theorem Bd.mul{C e C' e':Nat}{x y:Int}(h:Bd C e x)(h':Bd C' e' y):Bd (C*C') (e+e') (x*y):=by
 unfold Bd at *
 rw[Int.natAbs_mul,Nat.pow_add]
 have:=Nat.mul_le_mul h h'
 have e1:C*10^e*(C'*10^e')=C*C'*(10^e*10^e'):=by
  rw[Nat.mul_mul_mul_comm]
 omega
theorem Bd.mono{C e C' e':Nat}{x:Int}(h:Bd C e x)(hC:C≤C')(he:e≤e'):Bd C' e' x:=by
 unfold Bd at *
 exact Nat.le_trans h (Nat.mul_le_mul hC (Nat.pow_le_pow_right (by omega) he))
theorem Bd.add{C C' e:Nat}{x y:Int}(h:Bd C e x)(h':Bd C' e y):Bd (C+C') e (x+y):=by
 unfold Bd at *
 rw[Nat.add_mul]
 have:=Int.natAbs_add_le x y
 omega
theorem Bd.neg{C e:Nat}{x:Int}(h:Bd C e x):Bd C e (-x):=by unfold Bd at *;rw[Int.natAbs_neg];exact h
theorem Bd.sub{C C' e:Nat}{x y:Int}(h:Bd C e x)(h':Bd C' e y):Bd (C+C') e (x-y):=by
 rw[Int.sub_eq_add_neg];exact h.add h'.neg
theorem Bd.okL{C e k:Nat}{x:Int}(h:Bd C e x)(hC:C≤10^k)(he:k+e≤1023)(hne:0<e+k):okL x:=by
 unfold Go.Eng.okL nl
 unfold Bd at h
 have h1:C*10^e≤10^k*10^e:=Nat.mul_le_mul_right _ hC
 rw[←Nat.pow_add] at h1
 have h2:(10:Nat)^(k+e)<10^(k+e+1):=Nat.pow_lt_pow_right (by omega) (by omega)
 have:=q5y (k+e) x.natAbs (by omega)
 omega
structure Wt (h v:Nat) (q:Rat):Prop where
 n:Bd 1 h q.num
 d:Bd 1 v (q.den:Int)
 dh:Bd 1 h (q.den:Int)
theorem qoG{q:Rat}{P M:Int}(hM:M≠0)(h:q*(M:Rat)=(P:Rat)):q.num.natAbs≤P.natAbs∧q.den≤M.natAbs:=by
 have hM':(M:Rat)≠0:=by
  intro e
  exact hM (Rat.intCast_inj.1 (e.trans (by simp)))
 have e:q=Rat.divInt P M:=by
  rw[Rat.divInt_eq_div,←h]
  exact(Rat.mul_div_cancel hM').symm
 rw[e]
 constructor
 ·rw[Rat.num_divInt]
  refine Nat.le_trans (Int.natAbs_ediv_le_natAbs _ _) ?_
  rw[Int.natAbs_mul,Int.natAbs_sign_of_ne_zero hM];omega
 ·rw[Rat.den_divInt,if_neg hM]
  exact Nat.div_le_self _ _
structure SQ where
 fx:Rat
 fy:Rat
 ax:Rat
 ay:Rat
 h:Rat
def qo(a b:DQ)(neg:Bool):SQ:=
 let dx:=b.x-a.x
 let dy:=b.y-a.y
 let far:=dx*dx+dy*dy
 let t:=(far+a.s-b.s)/(2*far)
 ⟨a.x+t*dx,a.y+t*dy,if neg then dy else 0-dy,if neg then 0-dx else dx,a.s/far-t*t⟩
def kA(d:DQ)(p:SQ):Rat:=(p.fx-d.x)*(p.fx-d.x)+(p.fy-d.y)*(p.fy-d.y)+p.h*(p.ax*p.ax+p.ay*p.ay)-d.s
def kB(d:DQ)(p:SQ):Rat:=2*((p.fx-d.x)*p.ax+(p.fy-d.y)*p.ay)
def yE(d:DQ)(p:SQ):Prop:=qf0 (kA d p) (kB d p) p.h≤0
instance (d:DQ) (p:SQ):Decidable (yE d p):=by unfold yE;infer_instance
section
variable (a1 p1 b1 q1 c1 r1 a2 p2 b2 q2 c2 r2 a3 p3 b3 q3 c3 r3:Int)
def iU:Int:=a2*p1-a1*p2
def iN:Int:=iU a1 p1 a2 p2*iU a1 p1 a2 p2*((q1*q2)*(q1*q2))+iU b1 q1 b2 q2*iU b1 q1 b2 q2*((p1*p2)*(p1*p2))
def iD:Int:=(p1*p2*(q1*q2))*(p1*p2*(q1*q2))
def iT:Int:=iN a1 p1 b1 q1 a2 p2 b2 q2*(r1*r2)+(c1*r2-c2*r1)*iD p1 q1 p2 q2
def iE:Int:=a1*p3-a3*p1
def iG:Int:=iE a1 p1 a3 p3*iE a1 p1 a3 p3*((q1*q3)*(q1*q3))+iE b1 q1 b3 q3*iE b1 q1 b3 q3*((p1*p3)*(p1*p3))
def iH:Int:=iE a1 p1 a3 p3*iU a1 p1 a2 p2*((q1*q1)*(q2*q3))+iE b1 q1 b3 q3*iU b1 q1 b2 q2*((p1*p1)*(p2*p3))
def iSq:Int:=((p1*q1)*(p3*q3))*((p1*q1)*(p3*q3))
def iA:Int:=iG a1 p1 b1 q1 a3 p3 b3 q3*iN a1 p1 b1 q1 a2 p2 b2 q2*(r1*r2*r3)*(p2*q2)+iT a1 p1 b1 q1 c1 r1 a2 p2 b2 q2 c2 r2*iH a1 p1 b1 q1 a2 p2 b2 q2 a3 p3 b3 q3*r3*(p3*q3)
 + c1*iN a1 p1 b1 q1 a2 p2 b2 q2*(r2*r3)*iSq p1 q1 p3 q3*(p2*q2)-c3*iN a1 p1 b1 q1 a2 p2 b2 q2*(r1*r2)*iSq p1 q1 p3 q3*(p2*q2)
def iM:Int:=iN a1 p1 b1 q1 a2 p2 b2 q2*(r1*r2*r3)*iSq p1 q1 p3 q3*(p2*q2)
def iK:Int:=2*(iE b1 q1 b3 q3*iU a1 p1 a2 p2*(p3*q2)-iE a1 p1 a3 p3*iU b1 q1 b2 q2*(q3*p2))
def iQ:Int:=(p1*p2*p3)*(q1*q2*q3)
def iCn:Int:=4*(c1*iD p1 q1 p2 q2*iN a1 p1 b1 q1 a2 p2 b2 q2*r1*(r2*r2))-iT a1 p1 b1 q1 c1 r1 a2 p2 b2 q2 c2 r2*iT a1 p1 b1 q1 c1 r1 a2 p2 b2 q2 c2 r2
def iCd:Int:=4*(iN a1 p1 b1 q1 a2 p2 b2 q2*iN a1 p1 b1 q1 a2 p2 b2 q2)*((r1*r2)*(r1*r2))
end
section
variable {a1 p1 b1 q1 c1 r1 a2 p2 b2 q2 c2 r2 a3 p3 b3 q3 c3 r3:Int} {hx1 hy1 hs1 hx2 hy2 hs2 hx3 hy3 hs3 vx1 vy1 vs1 vx2 vy2 vs2 vx3 vy3 vs3:Nat}
theorem bU(h1:Bd 1 hx1 a1)(h2:Bd 1 hx1 p1)(h3:Bd 1 hx2 a2)(h4:Bd 1 hx2 p2):Bd 2 (hx1+hx2) (iU a1 p1 a2 p2):=
 ((h3.mul h2).mono (Nat.le_refl _) (by omega)).sub (h1.mul h4)
theorem bE(h1:Bd 1 hx1 a1)(h2:Bd 1 hx1 p1)(h3:Bd 1 hx3 a3)(h4:Bd 1 hx3 p3):Bd 2 (hx1+hx3) (iE a1 p1 a3 p3):=
 (h1.mul h4).sub ((h3.mul h2).mono (Nat.le_refl _) (by omega))
theorem bN(x1:Bd 1 hx1 a1)(x1':Bd 1 hx1 p1)(y1:Bd 1 hy1 b1)(y1':Bd 1 hy1 q1)(x2:Bd 1 hx2 a2)(x2':Bd 1 hx2 p2)(y2:Bd 1 hy2 b2)(y2':Bd 1 hy2 q2) :
  Bd 8 (2*(hx1+hx2+hy1+hy2)) (iN a1 p1 b1 q1 a2 p2 b2 q2):=by
 have u:=bU x1 x1' x2 x2'
 have v:=bU y1 y1' y2 y2'
 have qq:=y1'.mul y2'
 have pp:=x1'.mul x2'
 exact(((u.mul u).mul (qq.mul qq)).mono (C':=4) (by omega) (by omega)).add (((v.mul v).mul (pp.mul pp)).mono (C':=4) (by omega) (by omega))
theorem bD(x1':Bd 1 hx1 p1)(y1':Bd 1 hy1 q1)(x2':Bd 1 hx2 p2)(y2':Bd 1 hy2 q2):Bd 1 (2*(hx1+hx2+hy1+hy2)) (iD p1 q1 p2 q2):=by
 have z:=(x1'.mul x2').mul (y1'.mul y2')
 exact(z.mul z).mono (by omega) (by omega)
theorem bT(x1:Bd 1 hx1 a1)(x1':Bd 1 hx1 p1)(y1:Bd 1 hy1 b1)(y1':Bd 1 hy1 q1)(x2:Bd 1 hx2 a2)(x2':Bd 1 hx2 p2)(y2:Bd 1 hy2 b2)(y2':Bd 1 hy2 q2)
  (s1:Bd 1 hs1 c1) (s1':Bd 1 hs1 r1) (s2:Bd 1 hs2 c2) (s2':Bd 1 hs2 r2):Bd 10 (2*(hx1+hx2+hy1+hy2)+hs1+hs2) (iT a1 p1 b1 q1 c1 r1 a2 p2 b2 q2 c2 r2):=by
 have n:=bN x1 x1' y1 y1' x2 x2' y2 y2'
 have d:=bD x1' y1' x2' y2'
 have s:=(s1.mul s2').sub ((s2.mul s1').mono (Nat.le_refl _) (by omega))
 exact((n.mul (s1'.mul s2')).mono (C':=8) (by omega) (by omega)).add ((s.mul d).mono (C':=2) (by omega) (by omega))
theorem bG(x1:Bd 1 hx1 a1)(x1':Bd 1 hx1 p1)(y1:Bd 1 hy1 b1)(y1':Bd 1 hy1 q1)(x3:Bd 1 hx3 a3)(x3':Bd 1 hx3 p3)(y3:Bd 1 hy3 b3)(y3':Bd 1 hy3 q3) :
  Bd 8 (2*(hx1+hx3+hy1+hy3)) (iG a1 p1 b1 q1 a3 p3 b3 q3):=by
 have u:=bE x1 x1' x3 x3'
 have v:=bE y1 y1' y3 y3'
 have qq:=y1'.mul y3'
 have pp:=x1'.mul x3'
 exact(((u.mul u).mul (qq.mul qq)).mono (C':=4) (by omega) (by omega)).add (((v.mul v).mul (pp.mul pp)).mono (C':=4) (by omega) (by omega))
theorem bH(x1:Bd 1 hx1 a1)(x1':Bd 1 hx1 p1)(y1:Bd 1 hy1 b1)(y1':Bd 1 hy1 q1)(x2:Bd 1 hx2 a2)(x2':Bd 1 hx2 p2)(y2:Bd 1 hy2 b2)(y2':Bd 1 hy2 q2)
  (x3:Bd 1 hx3 a3) (x3':Bd 1 hx3 p3) (y3:Bd 1 hy3 b3) (y3':Bd 1 hy3 q3):Bd 8 (2*hx1+hx2+hx3+2*hy1+hy2+hy3) (iH a1 p1 b1 q1 a2 p2 b2 q2 a3 p3 b3 q3):=by
 have u:=bU x1 x1' x2 x2'
 have v:=bU y1 y1' y2 y2'
 have e:=bE x1 x1' x3 x3'
 have f:=bE y1 y1' y3 y3'
 exact(((e.mul u).mul ((y1'.mul y1').mul (y2'.mul y3'))).mono (C':=4) (by omega) (by omega)).add (((f.mul v).mul ((x1'.mul x1').mul (x2'.mul x3'))).mono (C':=4) (by omega) (by omega))
theorem bSq(x1':Bd 1 hx1 p1)(y1':Bd 1 hy1 q1)(x3':Bd 1 hx3 p3)(y3':Bd 1 hy3 q3):Bd 1 (2*(hx1+hx3+hy1+hy3)) (iSq p1 q1 p3 q3):=by
 have z:=(x1'.mul y1').mul (x3'.mul y3')
 exact(z.mul z).mono (by omega) (by omega)
theorem bA(x1:Bd 1 hx1 a1)(x1':Bd 1 hx1 p1)(y1:Bd 1 hy1 b1)(y1':Bd 1 hy1 q1)(x2:Bd 1 hx2 a2)(x2':Bd 1 hx2 p2)(y2:Bd 1 hy2 b2)(y2':Bd 1 hy2 q2)
  (x3:Bd 1 hx3 a3) (x3':Bd 1 hx3 p3) (y3:Bd 1 hy3 b3) (y3':Bd 1 hy3 q3) (s1:Bd 1 hs1 c1) (s1':Bd 1 hs1 r1) (s2:Bd 1 hs2 c2) (s2':Bd 1 hs2 r2) (s3:Bd 1 hs3 c3) (s3':Bd 1 hs3 r3) :
  Bd 160 (4*hx1+3*hx2+2*hx3+4*hy1+3*hy2+2*hy3+hs1+hs2+hs3) (iA a1 p1 b1 q1 c1 r1 a2 p2 b2 q2 c2 r2 a3 p3 b3 q3 c3 r3):=by
 have g:=bG x1 x1' y1 y1' x3 x3' y3 y3'
 have n:=bN x1 x1' y1 y1' x2 x2' y2 y2'
 have t:=bT x1 x1' y1 y1' x2 x2' y2 y2' s1 s1' s2 s2'
 have h:=bH x1 x1' y1 y1' x2 x2' y2 y2' x3 x3' y3 y3'
 have sq:=bSq x1' y1' x3' y3'
 have k1:=(((g.mul n).mul ((s1'.mul s2').mul s3')).mul (x2'.mul y2')).mono (C':=64) (e':=4*hx1+3*hx2+2*hx3+4*hy1+3*hy2+2*hy3+hs1+hs2+hs3) (by omega) (by omega)
 have k2:=(((t.mul h).mul s3').mul (x3'.mul y3')).mono (C':=80) (e':=4*hx1+3*hx2+2*hx3+4*hy1+3*hy2+2*hy3+hs1+hs2+hs3) (by omega) (by omega)
 have k3:=((((s1.mul n).mul (s2'.mul s3')).mul sq).mul (x2'.mul y2')).mono (C':=8) (e':=4*hx1+3*hx2+2*hx3+4*hy1+3*hy2+2*hy3+hs1+hs2+hs3) (by omega) (by omega)
 have k4:=((((s3.mul n).mul (s1'.mul s2')).mul sq).mul (x2'.mul y2')).mono (C':=8) (e':=4*hx1+3*hx2+2*hx3+4*hy1+3*hy2+2*hy3+hs1+hs2+hs3) (by omega) (by omega)
 exact((k1.add k2).add k3).sub k4
theorem bM(x1:Bd 1 hx1 a1)(x1':Bd 1 hx1 p1)(y1:Bd 1 hy1 b1)(y1':Bd 1 hy1 q1)(x2:Bd 1 hx2 a2)(x2':Bd 1 hx2 p2)(y2:Bd 1 hy2 b2)(y2':Bd 1 hy2 q2)
  (wx1:Bd 1 vx1 p1) (wy1:Bd 1 vy1 q1) (wx2:Bd 1 vx2 p2) (wy2:Bd 1 vy2 q2) (wx3:Bd 1 vx3 p3) (wy3:Bd 1 vy3 q3) (ws1:Bd 1 vs1 r1) (ws2:Bd 1 vs2 r2) (ws3:Bd 1 vs3 r3) :
  Bd 8 (2*(hx1+hx2+hy1+hy2)+(vs1+vs2+vs3)+2*(vx1+vx3+vy1+vy3)+(vx2+vy2)) (iM a1 p1 b1 q1 r1 a2 p2 b2 q2 r2 p3 q3 r3):=by
 have n:=bN x1 x1' y1 y1' x2 x2' y2 y2'
 have sq:=bSq wx1 wy1 wx3 wy3
 exact(((n.mul ((ws1.mul ws2).mul ws3)).mul sq).mul (wx2.mul wy2)).mono (by omega) (by omega)
theorem bK(x1:Bd 1 hx1 a1)(x1':Bd 1 hx1 p1)(y1:Bd 1 hy1 b1)(y1':Bd 1 hy1 q1)(x2:Bd 1 hx2 a2)(x2':Bd 1 hx2 p2)(y2:Bd 1 hy2 b2)(y2':Bd 1 hy2 q2)
  (x3:Bd 1 hx3 a3) (x3':Bd 1 hx3 p3) (y3:Bd 1 hy3 b3) (y3':Bd 1 hy3 q3):Bd 16 (hx1+hx2+hx3+hy1+hy2+hy3) (iK a1 p1 b1 q1 a2 p2 b2 q2 a3 p3 b3 q3):=by
 have u:=bU x1 x1' x2 x2'
 have v:=bU y1 y1' y2 y2'
 have e:=bE x1 x1' x3 x3'
 have f:=bE y1 y1' y3 y3'
 have two:Bd 2 0 2:=by unfold Bd;decide
 have k1:=((f.mul u).mul (x3'.mul y2')).mono (C':=4) (e':=hx1+hx2+hx3+hy1+hy2+hy3) (by omega) (by omega)
 have k2:=((e.mul v).mul (y3'.mul x2')).mono (C':=4) (e':=hx1+hx2+hx3+hy1+hy2+hy3) (by omega) (by omega)
 exact(two.mul (k1.sub k2)).mono (by omega) (by omega)
theorem bQ(wx1:Bd 1 vx1 p1)(wy1:Bd 1 vy1 q1)(wx2:Bd 1 vx2 p2)(wy2:Bd 1 vy2 q2)(wx3:Bd 1 vx3 p3)(wy3:Bd 1 vy3 q3):Bd 1 (vx1+vx2+vx3+(vy1+vy2+vy3)) (iQ p1 q1 p2 q2 p3 q3):=
 (((wx1.mul wx2).mul wx3).mul ((wy1.mul wy2).mul wy3)).mono (by omega) (by omega)
theorem bCn(x1:Bd 1 hx1 a1)(x1':Bd 1 hx1 p1)(y1:Bd 1 hy1 b1)(y1':Bd 1 hy1 q1)(x2:Bd 1 hx2 a2)(x2':Bd 1 hx2 p2)(y2:Bd 1 hy2 b2)(y2':Bd 1 hy2 q2)
  (s1:Bd 1 hs1 c1) (s1':Bd 1 hs1 r1) (s2:Bd 1 hs2 c2) (s2':Bd 1 hs2 r2):Bd 132 (4*(hx1+hx2+hy1+hy2)+2*hs1+2*hs2) (iCn a1 p1 b1 q1 c1 r1 a2 p2 b2 q2 c2 r2):=by
 have n:=bN x1 x1' y1 y1' x2 x2' y2 y2'
 have d:=bD x1' y1' x2' y2'
 have t:=bT x1 x1' y1 y1' x2 x2' y2 y2' s1 s1' s2 s2'
 have four:Bd 4 0 4:=by unfold Bd;decide
 have k1:=(four.mul ((((s1.mul d).mul n).mul s1').mul (s2'.mul s2'))).mono (C':=32) (e':=4*(hx1+hx2+hy1+hy2)+2*hs1+2*hs2) (by omega) (by omega)
 have k2:=(t.mul t).mono (C':=100) (e':=4*(hx1+hx2+hy1+hy2)+2*hs1+2*hs2) (by omega) (by omega)
 exact k1.sub k2
theorem bCd(x1:Bd 1 hx1 a1)(x1':Bd 1 hx1 p1)(y1:Bd 1 hy1 b1)(y1':Bd 1 hy1 q1)(x2:Bd 1 hx2 a2)(x2':Bd 1 hx2 p2)(y2:Bd 1 hy2 b2)(y2':Bd 1 hy2 q2)
  (ws1:Bd 1 vs1 r1) (ws2:Bd 1 vs2 r2):Bd 256 (4*(hx1+hx2+hy1+hy2)+2*vs1+2*vs2) (iCd a1 p1 b1 q1 r1 a2 p2 b2 q2 r2):=by
 have n:=bN x1 x1' y1 y1' x2 x2' y2 y2'
 have four:Bd 4 0 4:=by unfold Bd;decide
 exact((four.mul (n.mul n)).mul ((ws1.mul ws2).mul (ws1.mul ws2))).mono (by omega) (by omega)
end
section
variable (a b d:DQ)
theorem qyH(q:Rat):(q.den:Rat)≠0:=by have:=q2U q;grind
theorem qxB(neg:Bool)(hf:(b.x-a.x)*(b.x-a.x)+(b.y-a.y)*(b.y-a.y)≠0) :
  kA d (qo a b neg)*((iM a.x.num a.x.den a.y.num a.y.den a.s.den b.x.num b.x.den b.y.num b.y.den b.s.den d.x.den d.y.den d.s.den:Int):Rat)=((iA a.x.num a.x.den a.y.num a.y.den a.s.num a.s.den b.x.num b.x.den b.y.num b.y.den b.s.num b.s.den d.x.num d.x.den d.y.num d.y.den d.s.num d.s.den:Int):Rat) ∧
  kB d (qo a b neg)*((iQ a.x.den a.y.den b.x.den b.y.den d.x.den d.y.den:Int):Rat)=(((if neg then -1 else 1)*iK a.x.num a.x.den a.y.num a.y.den b.x.num b.x.den b.y.num b.y.den d.x.num d.x.den d.y.num d.y.den:Int):Rat) ∧
  (qo a b neg).h*((iCd a.x.num a.x.den a.y.num a.y.den a.s.den b.x.num b.x.den b.y.num b.y.den b.s.den:Int):Rat)=((iCn a.x.num a.x.den a.y.num a.y.den a.s.num a.s.den b.x.num b.x.den b.y.num b.y.den b.s.num b.s.den:Int):Rat) ∧
  iN a.x.num a.x.den a.y.num a.y.den b.x.num b.x.den b.y.num b.y.den≠0:=by
 obtain⟨far,hfar⟩:∃far,far=(b.x-a.x)*(b.x-a.x)+(b.y-a.y)*(b.y-a.y):=⟨_,rfl⟩
 obtain⟨t,ht⟩:∃t,t=(far+a.s-b.s)/(2*far):=⟨_,rfl⟩
 obtain⟨h,hh⟩:∃h,h=a.s/far-t*t:=⟨_,rfl⟩
 rw[←hfar] at hf
 have h2f:2*far≠0:=by grind
 have ht':2*far*t=far+a.s-b.s:=by
  rw[ht,Rat.mul_comm];exact Rat.div_mul_cancel h2f
 have hh':far*h=a.s-far*(t*t):=by
  have:a.s/far*far=a.s:=Rat.div_mul_cancel hf
  rw[hh];grind
 have hc:qo a b neg=⟨a.x+t*(b.x-a.x),a.y+t*(b.y-a.y),if neg then b.y-a.y else 0-(b.y-a.y),if neg then 0-(b.x-a.x) else b.x-a.x,h⟩:=by
  rw[hh,ht,hfar];rfl
 rw[hc]
 have nx1:=qg1 a.x
 have ny1:=qg1 a.y
 have ns1:=qg1 a.s
 have nx2:=qg1 b.x
 have ny2:=qg1 b.y
 have ns2:=qg1 b.s
 have nx3:=qg1 d.x
 have ny3:=qg1 d.y
 have ns3:=qg1 d.s
 have px1:=qyH a.x
 have py1:=qyH a.y
 have px2:=qyH b.x
 have py2:=qyH b.y
 obtain⟨x1,y1,s1⟩:=a
 obtain⟨x2,y2,s2⟩:=b
 obtain⟨x3,y3,s3⟩:=d
 simp only at *
 have hU:((iU x1.num x1.den x2.num x2.den:Int):Rat)=(x2-x1)*((x1.den:Rat)*x2.den):=by
  unfold iU;simp only[Rat.intCast_sub,Rat.intCast_mul,Rat.intCast_natCast,nx1,nx2];grind
 have hV:((iU y1.num y1.den y2.num y2.den:Int):Rat)=(y2-y1)*((y1.den:Rat)*y2.den):=by
  unfold iU;simp only[Rat.intCast_sub,Rat.intCast_mul,Rat.intCast_natCast,ny1,ny2];grind
 have hE:((iE x1.num x1.den x3.num x3.den:Int):Rat)=(x1-x3)*((x1.den:Rat)*x3.den):=by
  unfold iE;simp only[Rat.intCast_sub,Rat.intCast_mul,Rat.intCast_natCast,nx1,nx3];grind
 have hF:((iE y1.num y1.den y3.num y3.den:Int):Rat)=(y1-y3)*((y1.den:Rat)*y3.den):=by
  unfold iE;simp only[Rat.intCast_sub,Rat.intCast_mul,Rat.intCast_natCast,ny1,ny3];grind
 have hD:((iD x1.den y1.den x2.den y2.den:Int):Rat)=((x1.den:Rat)*x2.den*(y1.den*y2.den))*((x1.den:Rat)*x2.den*(y1.den*y2.den)):=by
  unfold iD;simp only[Rat.intCast_mul,Rat.intCast_natCast]
 have hN:((iN x1.num x1.den y1.num y1.den x2.num x2.den y2.num y2.den:Int):Rat)=far*(((x1.den:Rat)*x2.den*(y1.den*y2.den))*((x1.den:Rat)*x2.den*(y1.den*y2.den))):=by
  unfold iN;simp only[Rat.intCast_add,Rat.intCast_mul,Rat.intCast_natCast,hU,hV,hfar];grind
 have hN0:iN x1.num x1.den y1.num y1.den x2.num x2.den y2.num y2.den≠0:=by
  intro e
  rw[e] at hN
  have h1:(x1.den:Rat)*x2.den*(y1.den*y2.den)≠0:=by
   have:=Rat.mul_pos (Rat.mul_pos (q2U x1) (q2U x2)) (Rat.mul_pos (q2U y1) (q2U y2))
   grind
  have h2:far*(((x1.den:Rat)*x2.den*(y1.den*y2.den))*((x1.den:Rat)*x2.den*(y1.den*y2.den)))=0:=by rw[←hN];simp
  rcases Rat.mul_eq_zero.1 h2 with h3|h3
  ·exact hf h3
  ·rcases Rat.mul_eq_zero.1 h3 with h4|h4<;>exact h1 h4
 have hT:((iT x1.num x1.den y1.num y1.den s1.num s1.den x2.num x2.den y2.num y2.den s2.num s2.den:Int):Rat)=2*t*far*(((x1.den:Rat)*x2.den*(y1.den*y2.den))*((x1.den:Rat)*x2.den*(y1.den*y2.den)))*((s1.den:Rat)*s2.den):=by
  unfold iT;simp only[Rat.intCast_add,Rat.intCast_sub,Rat.intCast_mul,Rat.intCast_natCast,hN,hD,ns1,ns2]
  generalize ((x1.den:Rat)*x2.den*(y1.den*y2.den))*((x1.den:Rat)*x2.den*(y1.den*y2.den))=D2
  have:2*t*far*D2*((s1.den:Rat)*s2.den)=(2*far*t)*(D2*((s1.den:Rat)*s2.den)):=by grind
  rw[this,ht'];grind
 have hG:((iG x1.num x1.den y1.num y1.den x3.num x3.den y3.num y3.den:Int):Rat)=((x1-x3)*(x1-x3)+(y1-y3)*(y1-y3))*(((x1.den:Rat)*y1.den*(x3.den*y3.den))*((x1.den:Rat)*y1.den*(x3.den*y3.den))):=by
  unfold iG;simp only[Rat.intCast_add,Rat.intCast_mul,Rat.intCast_natCast,hE,hF];grind
 have hH:((iH x1.num x1.den y1.num y1.den x2.num x2.den y2.num y2.den x3.num x3.den y3.num y3.den:Int):Rat)=((x1-x3)*(x2-x1)+(y1-y3)*(y2-y1))*(((x1.den:Rat)*x1.den*(x2.den*x3.den))*((y1.den:Rat)*y1.den*(y2.den*y3.den))):=by
  unfold iH;simp only[Rat.intCast_add,Rat.intCast_mul,Rat.intCast_natCast,hE,hF,hU,hV];grind
 have hSq:((iSq x1.den y1.den x3.den y3.den:Int):Rat)=((x1.den:Rat)*y1.den*(x3.den*y3.den))*((x1.den:Rat)*y1.den*(x3.den*y3.den)):=by
  unfold iSq;simp only[Rat.intCast_mul,Rat.intCast_natCast]
 refine⟨?_,?_,?_,hN0⟩
 ·unfold iM iA
  simp only[Rat.intCast_add,Rat.intCast_sub,Rat.intCast_mul,Rat.intCast_natCast,hN,hT,hG,hH,hSq,ns1,ns3]
  have hA:kA ⟨x3,y3,s3⟩ ⟨x1+t*(x2-x1),y1+t*(y2-y1),if neg then y2-y1 else 0-(y2-y1),if neg then 0-(x2-x1) else x2-x1,h⟩=(x1-x3)*(x1-x3)+(y1-y3)*(y1-y3)+2*t*((x1-x3)*(x2-x1)+(y1-y3)*(y2-y1))+s1-s3:=by
   have e1:kA ⟨x3,y3,s3⟩ ⟨x1+t*(x2-x1),y1+t*(y2-y1),if neg then y2-y1 else 0-(y2-y1),if neg then 0-(x2-x1) else x2-x1,h⟩=(x1-x3)*(x1-x3)+(y1-y3)*(y1-y3)+2*t*((x1-x3)*(x2-x1)+(y1-y3)*(y2-y1))+far*(t*t)+far*h-s3:=by
    unfold kA
    rw[hfar]
    cases neg
    ·simp only[Bool.false_eq_true,if_false];grind
    ·simp only[if_true];grind
   rw[e1,hh'];grind
  rw[hA]
  generalize (x1-x3)*(x1-x3)+(y1-y3)*(y1-y3)=e2
  generalize (x1-x3)*(x2-x1)+(y1-y3)*(y2-y1)=ed
  generalize (x1.den:Rat)=P1
  generalize (x2.den:Rat)=P2
  generalize (x3.den:Rat)=P3
  generalize (y1.den:Rat)=Q1
  generalize (y2.den:Rat)=Q2
  generalize (y3.den:Rat)=Q3
  generalize (s1.den:Rat)=R1
  generalize (s2.den:Rat)=R2
  generalize (s3.den:Rat)=R3
  clear hU hV hE hF hD hN hN0 hT hG hH hSq nx1 nx2 nx3 ny1 ny2 ny3 ns1 ns2 ns3 px1 px2 py1 py2 hf h2f ht' hh' hc hfar
  grind
 ·unfold iQ iK kB
  simp only[Rat.intCast_sub,Rat.intCast_mul,Rat.intCast_natCast,hE,hF,hU,hV]
  cases neg
  ·simp only[Bool.false_eq_true,if_false]
   simp
   grind
  ·simp only[if_true]
   simp
   grind
 ·unfold iCd iCn
  simp only[Rat.intCast_sub,Rat.intCast_mul,Rat.intCast_natCast,hN,hT,hD,ns1]
  generalize ((x1.den:Rat)*x2.den*(y1.den*y2.den))*((x1.den:Rat)*x2.den*(y1.den*y2.den))=D2
  generalize (s1.den:Rat)=R1
  generalize (s2.den:Rat)=R2
  have e:s1=far*h+far*(t*t):=by rw[hh'];grind
  have f4:((4:Int):Rat)=4:=by simp
  rw[f4,e]
  clear hU hV hE hF hD hN hN0 hT hG hH hSq nx1 nx2 nx3 ny1 ny2 ny3 ns1 ns2 ns3 px1 px2 py1 py2 hf h2f ht' hh' hc hfar
  grind
end
end Go.Eng

namespace Go.Eng
theorem qum{a b c:Rat}(hc:0≤c):qf0 a b c≤0↔(a≤0∧(b≤0∨c=0∨b*b*c≤a*a))∨(0<a∧b<0∧a*a≤b*b*c):=by
 have hs:=qmb (a*a-b*b*c)
 have hs':(0≤sgq (a*a-b*b*c))=(b*b*c≤a*a):=by
  have h1:=qBP (a*a-b*b*c)
  have h2:=qmb (-(a*a-b*b*c))
  refine propext ⟨fun h=>?_,fun h=>?_⟩
  ·have:=h2▸(show sgq (-(a*a-b*b*c))≤0 by omega);grind
  ·have:sgq (-(a*a-b*b*c))≤0:=h2▸(show -(a*a-b*b*c)≤0 by grind)
   omega
 have bd:=qhi (a*a-b*b*c)
 have pb:0<b→0<c→0<b*b*c:=fun h1 h2=>Rat.mul_pos (Rat.mul_pos h1 h1) h2
 have pa:0<a→0<a*a:=fun h1=>Rat.mul_pos h1 h1
 have za:a=0→a*a=0:=fun h=>by rw[h];grind
 have zc:c=0→b*b*c=0:=fun h=>by rw[h];grind
 unfold qf0
 generalize hz:sgq (a*a-b*b*c)=z at *
 rcases q8e a with⟨ha,ea⟩|⟨ha,ea⟩|⟨ha,ea⟩<;>rcases q8e b with⟨hb,eb⟩|⟨hb,eb⟩|⟨hb,eb⟩<;>rcases q8e c with⟨hc',ec⟩|⟨hc',ec⟩|⟨hc',ec⟩<;>rw[ea,eb,ec]
 all_goals try (exfalso;grind)
 all_goals simp only[
  
  
  show (-1:Int)*0=0 by decide,show (-1:Int)*1=-1 by decide,show (0:Int)*0=0 by decide,show (0:Int)*1=0 by decide,show (1:Int)*0=0 by decide,show (1:Int)*1=1 by decide,Int.one_mul]
 all_goals simp
 all_goals first|(exfalso;grind)|skip
 all_goals grind
theorem qug{a b:Rat}(h0:0≤a)(h:a≤b):a*a≤b*b:=by
 have:=Rat.mul_nonneg (show 0≤b-a by grind) (show 0≤b+a by grind)
 grind
theorem qz7{a b:Rat}(hb:0≤b)(h:a*a≤b*b):a≤b:=by
 apply Rat.not_lt.1
 intro hn
 have:=Rat.mul_pos (show 0<a-b by grind) (show 0<a+b by grind)
 grind
theorem qzY{a b c T0 T1:Rat}(h0:0≤T0)(h1:T0≤T1)(k0:T0*T0≤c)(k1:c≤T1*T1)(e0:a+b*T0≤0)(e1:a+b*T1≤0):qf0 a b c≤0:=by
 have hc:0≤c:=by have:=Rat.mul_nonneg h0 h0;grind
 rw[qum hc]
 by_cases hb:b≤0
 ·by_cases ha:a≤0
  ·exact .inl ⟨ha,.inl hb⟩
  ·have hb':b<0:=by
    apply Rat.not_le.1;intro hn
    have h:b=0:=by grind
    rw[h] at e0;grind
   refine .inr ⟨by grind,hb',?_⟩
   have h1:=qug (a:=a) (b:=(-b)*T0) (by grind) (by grind)
   have h2:=Rat.mul_le_mul_of_nonneg_left k0 (show 0≤b*b by have:=Rat.mul_nonneg (show 0≤-b by grind) (show 0≤-b by grind);grind)
   grind
 ·have hb':0≤b:=by grind
  have h3:=Rat.mul_nonneg hb' h0
  refine .inl ⟨by grind,.inr (.inr ?_)⟩
  have h3:=Rat.mul_nonneg hb' (show 0≤T1 by grind)
  have h1:=qug (a:=b*T1) (b:=-a) h3 (by grind)
  have h2:=Rat.mul_le_mul_of_nonneg_left k1 (Rat.mul_nonneg hb' hb')
  grind
theorem qBZ{a b c:Rat}(hc:0≤c)(h:qf0 a b c≤0):∃T,0≤T∧T*T≤c∧∀S,T≤S→S*S≤c→a+b*S≤0:=by
 rw[qum hc] at h
 by_cases hb:b<0
 ·by_cases ha:a≤0
  ·refine⟨0,by grind,by grind,fun S h1 h2=>?_⟩
   have:=Rat.mul_nonneg (show 0≤-b by grind) h1
   grind
  ·rcases h with h|⟨h1,h2,h3⟩
   ·exact absurd h.1 ha
   ·have hq:a/(-b)*(-b)=a:=Rat.div_mul_cancel (by grind)
    have hq0:0≤a/(-b):=by
     apply Rat.not_lt.1;intro hn
     have:=Rat.mul_pos (show 0 < -(a/(-b)) by grind) (show 0 < -b by grind)
     grind
    generalize a/(-b)=T at *
    refine⟨T,hq0,?_,fun S hS _=>?_⟩
    ·apply Rat.not_lt.1;intro hn
     have:=Rat.mul_pos (show 0<T*T-c by grind) (Rat.mul_pos (show 0 < -b by grind) (show 0 < -b by grind))
     have e:a*a=T*T*(b*b):=by rw[←hq];grind
     rw[e] at h3;clear e hq;grind
    ·have:=Rat.mul_nonneg (show 0≤-b by grind) (show 0≤S-T by grind)
     grind
 ·refine⟨0,by grind,by grind,fun S h1 h2=>?_⟩
  rcases h with⟨h3,h4⟩|⟨_,h5,_⟩
  ·rcases h4 with h4|h4|h4
   ·have:b=0:=by grind
    rw[this];grind
   ·have:S*S≤0:=by grind
    have h6:=qz7 (a:=S) (b:=0) (by grind) (by grind)
    have:S=0:=by grind
    rw[this];grind
   ·have k1:=Rat.mul_le_mul_of_nonneg_left h2 (Rat.mul_nonneg (show 0≤b by grind) (show 0≤b by grind))
    have:=qz7 (a:=b*S) (b:=-a) (by grind) (by grind)
    grind
  ·exact absurd h5 hb
def pw(d:DQ)(x y:Rat):Rat:=(x-d.x)*(x-d.x)+(y-d.y)*(y-d.y)-d.s
def qkR(l:List DQ):Prop:=∃x y:Rat,∀d∈l,pw d x y≤0
theorem qkR.mono{l l':List DQ}(h:qkR l)(hs:∀d∈l',d∈l):qkR l':=by
 obtain⟨x,y,h⟩:=h
 exact⟨x,y,fun d hd=>h d (hs d hd)⟩
theorem qBw(d:DQ)(p:SQ)(T:Rat):pw d (p.fx+T*p.ax) (p.fy+T*p.ay)=kA d p+kB d p*T+(p.ax*p.ax+p.ay*p.ay)*(T*T-p.h):=by
 unfold pw kA kB;grind
theorem qbs(a:Rat):0≤a*a:=by
 rcases Rat.le_total (a:=0) (b:=a) with h|h
 ·exact Rat.mul_nonneg h h
 ·have:=Rat.mul_nonneg (show 0≤-a by grind) (show 0≤-a by grind);grind
theorem qs7(p:SQ)(hn:0≤p.h):∀l:List DQ,(∀d∈l,yE d p)→∃T,0≤T∧T*T≤p.h∧∀d∈l,∀S,T≤S→S*S≤p.h→kA d p+kB d p*S≤0
 | [],_=>⟨0,by grind,by grind,fun d hd=>by cases hd⟩
 | a::l,h=>by
  obtain⟨T,h1,h2,h3⟩:=qs7 p hn l fun d hd=>h d (List.mem_cons_of_mem _ hd)
  obtain⟨T',k1,k2,k3⟩:=qBZ hn (h a List.mem_cons_self)
  rcases Rat.le_total (a:=T) (b:=T') with hT|hT
  ·refine⟨T',k1,k2,fun d hd S hS hS2=>?_⟩
   rcases List.mem_cons.1 hd with rfl|hd
   ·exact k3 S hS hS2
   ·exact h3 d hd S (Rat.le_trans hT hS) hS2
  ·refine⟨T,h1,h2,fun d hd S hS hS2=>?_⟩
   rcases List.mem_cons.1 hd with rfl|hd
   ·exact k3 S (Rat.le_trans hT hS) hS2
   ·exact h3 d hd S hS hS2
theorem qtW{l:List DQ}{p:SQ}(hn:0≤p.h)(h:∀d∈l,yE d p):qkR l:=by
 obtain⟨T,h1,h2,h3⟩:=qs7 p hn l h
 refine⟨p.fx+T*p.ax,p.fy+T*p.ay,fun d hd=>?_⟩
 rw[qBw]
 have k1:=h3 d hd T (Rat.le_refl) h2
 have k2:=Rat.mul_nonneg (show 0≤p.ax*p.ax+p.ay*p.ay by have:=qbs p.ax;have:=qbs p.ay;grind) (show 0≤p.h-T*T by grind)
 grind
theorem qH0{A B C D p q r s:Rat}(_:A≤0)(_:B≤0)(_:C≤0)(_:D≤0)(_:0≤p)(_:0≤q)(_:0≤r)(_:0≤s):A+B+C+D-(p+q+r+s)≤0:=by grind
theorem qEe{x1 y1 x2 y2 x3 y3 x4 y4 m1 m2 m3 m4 X Y:Rat}(h1:0≤m1)(h2:0≤m2)(h3:0≤m3)(h4:0≤m4)(hM:0<m1+m2+m3+m4)
  (hX:X*(m1+m2+m3+m4)=m1*x1+m2*x2+m3*x3+m4*x4) (hY:Y*(m1+m2+m3+m4)=m1*y1+m2*y2+m3*y3+m4*y4) (d:DQ)
  (k1:m1=0∨pw d x1 y1≤0) (k2:m2=0∨pw d x2 y2≤0) (k3:m3=0∨pw d x3 y3≤0) (k4:m4=0∨pw d x4 y4≤0):pw d X Y≤0:=by
 have aux:∀{m a:Rat},0≤m→(m=0∨a≤0)→m*a≤0:=fun {m a} hm h=>by
  rcases h with rfl|h
  ·grind
  ·have:=Rat.mul_nonneg hm (show 0≤-a by grind);grind
 have e1:=aux h1 k1
 have e2:=aux h2 k2
 have e3:=aux h3 k3
 have e4:=aux h4 k4
 have s1:=Rat.mul_nonneg h1 (show 0≤(x1-X)*(x1-X)+(y1-Y)*(y1-Y) by have:=qbs (x1-X);have:=qbs (y1-Y);grind)
 have s2:=Rat.mul_nonneg h2 (show 0≤(x2-X)*(x2-X)+(y2-Y)*(y2-Y) by have:=qbs (x2-X);have:=qbs (y2-Y);grind)
 have s3:=Rat.mul_nonneg h3 (show 0≤(x3-X)*(x3-X)+(y3-Y)*(y3-Y) by have:=qbs (x3-X);have:=qbs (y3-Y);grind)
 have s4:=Rat.mul_nonneg h4 (show 0≤(x4-X)*(x4-X)+(y4-Y)*(y4-Y) by have:=qbs (x4-X);have:=qbs (y4-Y);grind)
 have key:(m1+m2+m3+m4)*pw d X Y=(m1*pw d x1 y1+m2*pw d x2 y2+m3*pw d x3 y3+m4*pw d x4 y4)
   - (m1*((x1-X)*(x1-X)+(y1-Y)*(y1-Y))+m2*((x2-X)*(x2-X)+(y2-Y)*(y2-Y))+m3*((x3-X)*(x3-X)+(y3-Y)*(y3-Y))+m4*((x4-X)*(x4-X)+(y4-Y)*(y4-Y))):=by
  have eX:m1*(x1-X)+m2*(x2-X)+m3*(x3-X)+m4*(x4-X)=0:=by grind
  have eY:m1*(y1-Y)+m2*(y2-Y)+m3*(y3-Y)+m4*(y4-Y)=0:=by grind
  have key0:(m1+m2+m3+m4)*pw d X Y=(m1*pw d x1 y1+m2*pw d x2 y2+m3*pw d x3 y3+m4*pw d x4 y4)
   - (m1*((x1-X)*(x1-X)+(y1-Y)*(y1-Y))+m2*((x2-X)*(x2-X)+(y2-Y)*(y2-Y))+m3*((x3-X)*(x3-X)+(y3-Y)*(y3-Y))+m4*((x4-X)*(x4-X)+(y4-Y)*(y4-Y)))
   - 2*((X-d.x)*(m1*(x1-X)+m2*(x2-X)+m3*(x3-X)+m4*(x4-X))+(Y-d.y)*(m1*(y1-Y)+m2*(y2-Y)+m3*(y3-Y)+m4*(y4-Y))):=by
   unfold pw
   clear hX hY eX eY e1 e2 e3 e4 s1 s2 s3 s4 k1 k2 k3 k4 h1 h2 h3 h4 hM aux
   grind
  rw[key0,eX,eY];grind
 apply Rat.not_lt.1
 intro hn
 have hpos:=Rat.mul_pos hM hn
 rw[key] at hpos
 exact absurd (qH0 e1 e2 e3 e4 s1 s2 s3 s4) (Rat.not_le.2 hpos)
theorem qoA(a:Rat):∃m n:Rat,0≤m∧0≤n∧a=m-n∧(m=0∨n=0):=by
 rcases Rat.le_total (a:=0) (b:=a) with h|h
 ·exact⟨a,0,h,by grind,by grind,.inr rfl⟩
 ·exact⟨0,-a,by grind,by grind,by grind,.inl rfl⟩
theorem qup{x1 y1 x2 y2 x3 y3 x4 y4 t1 t2 t3 t4:Rat}(h0:t1+t2+t3+t4=0)(hx:t1*x1+t2*x2+t3*x3+t4*x4=0)(hy:t1*y1+t2*y2+t3*y3+t4*y4=0)
  (hn:¬(t1=0∧t2=0∧t3=0∧t4=0)):∃X Y,∀d:DQ,((pw d x2 y2≤0∧pw d x3 y3≤0∧pw d x4 y4≤0)∨(pw d x1 y1≤0∧pw d x3 y3≤0∧pw d x4 y4≤0)∨(pw d x1 y1≤0∧pw d x2 y2≤0∧pw d x4 y4≤0)∨(pw d x1 y1≤0∧pw d x2 y2≤0∧pw d x3 y3≤0))→pw d X Y≤0:=by
 obtain⟨m1,n1,a1,b1,rfl,c1⟩:=qoA t1
 obtain⟨m2,n2,a2,b2,rfl,c2⟩:=qoA t2
 obtain⟨m3,n3,a3,b3,rfl,c3⟩:=qoA t3
 obtain⟨m4,n4,a4,b4,rfl,c4⟩:=qoA t4
 have hM:0<m1+m2+m3+m4:=by
  apply Rat.not_le.1;intro hle
  exact hn ⟨by grind,by grind,by grind,by grind⟩
 have hN:0<n1+n2+n3+n4:=by grind
 have hM0:m1+m2+m3+m4≠0:=by grind
 refine⟨(m1*x1+m2*x2+m3*x3+m4*x4)/(m1+m2+m3+m4),(m1*y1+m2*y2+m3*y3+m4*y4)/(m1+m2+m3+m4),fun d hd=>?_⟩
 have eX:(m1*x1+m2*x2+m3*x3+m4*x4)/(m1+m2+m3+m4)*(m1+m2+m3+m4)=m1*x1+m2*x2+m3*x3+m4*x4:=Rat.div_mul_cancel hM0
 have eY:(m1*y1+m2*y2+m3*y3+m4*y4)/(m1+m2+m3+m4)*(m1+m2+m3+m4)=m1*y1+m2*y2+m3*y3+m4*y4:=Rat.div_mul_cancel hM0
 generalize (m1*x1+m2*x2+m3*x3+m4*x4)/(m1+m2+m3+m4)=X at *
 generalize (m1*y1+m2*y2+m3*y3+m4*y4)/(m1+m2+m3+m4)=Y at *
 have hS:n1+n2+n3+n4=m1+m2+m3+m4:=by grind
 have fX:X*(n1+n2+n3+n4)=n1*x1+n2*x2+n3*x3+n4*x4:=by rw[hS,eX];grind
 have fY:Y*(n1+n2+n3+n4)=n1*y1+n2*y2+n3*y3+n4*y4:=by rw[hS,eY];grind
 have P:=qEe a1 a2 a3 a4 hM eX eY d
 have Q:=qEe b1 b2 b3 b4 hN fX fY d
 rcases hd with⟨p2,p3,p4⟩|⟨p1,p3,p4⟩|⟨p1,p2,p4⟩|⟨p1,p2,p3⟩
 ·rcases c1 with c|c
  ·exact P (.inl c) (.inr p2) (.inr p3) (.inr p4)
  ·exact Q (.inl c) (.inr p2) (.inr p3) (.inr p4)
 ·rcases c2 with c|c
  ·exact P (.inr p1) (.inl c) (.inr p3) (.inr p4)
  ·exact Q (.inr p1) (.inl c) (.inr p3) (.inr p4)
 ·rcases c3 with c|c
  ·exact P (.inr p1) (.inr p2) (.inl c) (.inr p4)
  ·exact Q (.inr p1) (.inr p2) (.inl c) (.inr p4)
 ·rcases c4 with c|c
  ·exact P (.inr p1) (.inr p2) (.inr p3) (.inl c)
  ·exact Q (.inr p1) (.inr p2) (.inr p3) (.inl c)
def qwv(x1 y1 x2 y2 x3 y3:Rat):Rat:=(x2-x1)*(y3-y1)-(x3-x1)*(y2-y1)
theorem qGA(x1 y1 x2 y2 x3 y3 x4 y4:Rat):∃X Y,∀d:DQ,((pw d x2 y2≤0∧pw d x3 y3≤0∧pw d x4 y4≤0)∨(pw d x1 y1≤0∧pw d x3 y3≤0∧pw d x4 y4≤0)∨(pw d x1 y1≤0∧pw d x2 y2≤0∧pw d x4 y4≤0)∨(pw d x1 y1≤0∧pw d x2 y2≤0∧pw d x3 y3≤0))→pw d X Y≤0:=by
 by_cases h:qwv x2 y2 x3 y3 x4 y4=0∧-qwv x1 y1 x3 y3 x4 y4=0∧qwv x1 y1 x2 y2 x4 y4=0∧-qwv x1 y1 x2 y2 x3 y3=0
 ·by_cases e:x1=x2∧y1=y2
  ·exact qup (t1:=1) (t2:=-1) (t3:=0) (t4:=0) (by grind) (by grind) (by grind) (by grind)
  ·have hA:(x2-x1)*(y3-y1)-(x3-x1)*(y2-y1)=0:=by have:=h.2.2.2;unfold qwv at this;grind
   have hD:(x2-x1)*(x2-x1)+(y2-y1)*(y2-y1)≠0:=by
    intro h0
    have s1:=qbs (x2-x1)
    have s2:=qbs (y2-y1)
    have z1:(x2-x1)*(x2-x1)=0:=by grind
    have z2:(y2-y1)*(y2-y1)=0:=by grind
    rcases Rat.mul_eq_zero.1 z1 with h1|h1<;>rcases Rat.mul_eq_zero.1 z2 with h2|h2<;>exact e ⟨by grind,by grind⟩
   have hu:((x3-x1)*(x2-x1)+(y3-y1)*(y2-y1))/((x2-x1)*(x2-x1)+(y2-y1)*(y2-y1))*((x2-x1)*(x2-x1)+(y2-y1)*(y2-y1))=(x3-x1)*(x2-x1)+(y3-y1)*(y2-y1):=Rat.div_mul_cancel hD
   generalize ((x3-x1)*(x2-x1)+(y3-y1)*(y2-y1))/((x2-x1)*(x2-x1)+(y2-y1)*(y2-y1))=u at *
   have cancel:∀z:Rat,z*((x2-x1)*(x2-x1)+(y2-y1)*(y2-y1))=0→z=0:=fun z hz=>by
    rcases Rat.mul_eq_zero.1 hz with h|h
    ·exact h
    ·exact absurd h hD
   have kx:(1-u)*x1+u*x2-x3=0:=cancel _ (by clear h e hD cancel;grind)
   have ky:(1-u)*y1+u*y2-y3=0:=cancel _ (by clear h e hD cancel kx;grind)
   exact qup (t1:=1-u) (t2:=u) (t3:=-1) (t4:=0) (by grind) (by grind) (by grind) (by grind)
 ·exact qup (t1:=qwv x2 y2 x3 y3 x4 y4) (t2:=-qwv x1 y1 x3 y3 x4 y4) (t3:=qwv x1 y1 x2 y2 x4 y4) (t4:=-qwv x1 y1 x2 y2 x3 y3) (by unfold qwv;grind) (by unfold qwv;grind) (by unfold qwv;grind) h
theorem qFZ:∀(n:Nat) (l:List DQ),l.length≤n→(∀x∈l,∀y∈l,∀z∈l,qkR [x,y,z])→qkR l
 | _,[],_,_=>⟨0,0,fun d hd=>by cases hd⟩
 | _,[x],_,h=>(h x (by simp) x (by simp) x (by simp)).mono (by simp)
 | _,[x,y],_,h=>(h x (by simp) y (by simp) y (by simp)).mono (by simp)
 | _,[x,y,z],_,h=>(h x (by simp) y (by simp) z (by simp)).mono (by simp)
 | 0,a::b::c::d::r,hl,_=>by simp at hl
 | n+1,a::b::c::d::r,hl,h=>by
  simp only[List.length_cons] at hl
  have sub:∀l':List DQ,(∀x∈l',x∈a::b::c::d::r)→l'.length≤n→qkR l':=fun l' hs hn=>
   qFZ n l' hn fun x hx y hy z hz=>h x (hs x hx) y (hs y hy) z (hs z hz)
  obtain⟨x1,y1,p1⟩:=sub (b::c::d::r) (by intro x hx;simp at hx ⊢;grind) (by simp only[List.length_cons];omega)
  obtain⟨x2,y2,p2⟩:=sub (a::c::d::r) (by intro x hx;simp at hx ⊢;grind) (by simp only[List.length_cons];omega)
  obtain⟨x3,y3,p3⟩:=sub (a::b::d::r) (by intro x hx;simp at hx ⊢;grind) (by simp only[List.length_cons];omega)
  obtain⟨x4,y4,p4⟩:=sub (a::b::c::r) (by intro x hx;simp at hx ⊢;grind) (by simp only[List.length_cons];omega)
  obtain⟨X,Y,hX⟩:=qGA x1 y1 x2 y2 x3 y3 x4 y4
  refine⟨X,Y,fun e he=>hX e ?_⟩
  simp only[List.mem_cons] at he
  rcases he with rfl|rfl|rfl|rfl|he
  ·exact .inl ⟨p2 _ (by simp),p3 _ (by simp),p4 _ (by simp)⟩
  ·exact .inr (.inl ⟨p1 _ (by simp),p3 _ (by simp),p4 _ (by simp)⟩)
  ·exact .inr (.inr (.inl ⟨p1 _ (by simp),p2 _ (by simp),p4 _ (by simp)⟩))
  ·exact .inr (.inr (.inr ⟨p1 _ (by simp),p2 _ (by simp),p3 _ (by simp)⟩))
  ·exact .inl ⟨p2 _ (by simp[he]),p3 _ (by simp[he]),p4 _ (by simp[he])⟩
end Go.Eng

namespace Go.Eng
theorem qvr{ι:Type}(f:ι→Rat):∀(L:List ι),L≠[]→∃a∈L,∀k∈L,f k≤f a
 | [],h=>absurd rfl h
 | [a],_=>⟨a,by simp,fun k hk=>by simp at hk;rw[hk];exact Rat.le_refl⟩
 | a::b::r,_=>by
  obtain⟨m,hm,h⟩:=qvr f (b::r) (by simp)
  rcases Rat.le_total (a:=f a) (b:=f m) with hle|hle
  ·refine⟨m,List.mem_cons_of_mem _ hm,fun k hk=>?_⟩
   rcases List.mem_cons.1 hk with rfl|hk
   ·exact hle
   ·exact h k hk
  ·refine⟨a,List.mem_cons_self,fun k hk=>?_⟩
   rcases List.mem_cons.1 hk with rfl|hk
   ·exact Rat.le_refl
   ·exact Rat.le_trans (h k hk) hle
theorem hit{ι:Type}(al be:ι→Rat):∀(L:List ι),(∀k∈L,al k≤0)→(∃k∈L,0<be k)→∃t,0≤t∧(∀k∈L,al k+be k*t≤0)∧∃b∈L,0<be b∧al b+be b*t=0
 | [],_,h=>by obtain⟨k,hk,_⟩:=h;cases hk
 | a::L,h0,h1=>by
  have hLn:∀k∈L,al k≤0:=fun k hk=>h0 k (List.mem_cons_of_mem _ hk)
  have ha0:=h0 a List.mem_cons_self
  by_cases ha:0<be a
  ·obtain⟨ta,hta⟩:∃ta,ta=-al a/be a:=⟨_,rfl⟩
   have eta:ta*be a=-al a:=by rw[hta];exact Rat.div_mul_cancel (by grind)
   have ta0:0≤ta:=by
    apply Rat.not_lt.1;intro hn
    have:=Rat.mul_pos (show 0 < -ta by grind) ha
    grind
   have own:al a+be a*ta=0:=by grind
   by_cases hL:∃k∈L,0<be k
   ·obtain⟨t,k1,k2,b,hb,k3,k4⟩:=hit al be L hLn hL
    rcases Rat.le_total (a:=t) (b:=ta) with hle|hle
    ·refine⟨t,k1,fun k hk=>?_,b,List.mem_cons_of_mem _ hb,k3,k4⟩
     rcases List.mem_cons.1 hk with rfl|hk
     ·have:=Rat.mul_nonneg (show 0≤be k by grind) (show 0≤ta-t by grind);grind
     ·exact k2 k hk
    ·refine⟨ta,ta0,fun k hk=>?_,a,List.mem_cons_self,ha,own⟩
     rcases List.mem_cons.1 hk with rfl|hk
     ·grind
     ·rcases Rat.le_total (a:=0) (b:=be k) with hb|hb
      ·have:=Rat.mul_nonneg hb (show 0≤t-ta by grind);have:=k2 k hk;grind
      ·have:=Rat.mul_nonneg (show 0≤-be k by grind) ta0;have:=hLn k hk;grind
   ·refine⟨ta,ta0,fun k hk=>?_,a,List.mem_cons_self,ha,own⟩
    rcases List.mem_cons.1 hk with rfl|hk
    ·grind
    ·have hb:be k≤0:=Rat.not_lt.1 fun hn=>hL ⟨k,hk,hn⟩
     have:=Rat.mul_nonneg (show 0≤-be k by grind) ta0;have:=hLn k hk;grind
  ·have hL:∃k∈L,0<be k:=by
    obtain⟨k,hk,h⟩:=h1
    rcases List.mem_cons.1 hk with rfl|hk
    ·exact absurd h ha
    ·exact⟨k,hk,h⟩
   obtain⟨t,k1,k2,b,hb,k3,k4⟩:=hit al be L hLn hL
   refine⟨t,k1,fun k hk=>?_,b,List.mem_cons_of_mem _ hb,k3,k4⟩
   rcases List.mem_cons.1 hk with rfl|hk
   ·have:=Rat.mul_nonneg (show 0≤-be k by grind) k1;grind
   ·exact k2 k hk
theorem qtq{a:Rat}(h:a*a≤0):a=0:=by
 have:=qbs a
 rcases Rat.mul_eq_zero.1 (show a*a=0 by grind) with h|h<;>exact h
theorem qoK{a b c d:Rat}(h:q3E a b c d=0):a=c∧b=d:=by
 unfold q3E at h
 have s1:=qbs (a-c)
 have s2:=qbs (b-d)
 have:=qtq (a:=a-c) (by grind)
 have:=qtq (a:=b-d) (by grind)
 exact⟨by grind,by grind⟩
theorem qBD(a b c d:Rat):0≤q3E a b c d:=by
 unfold q3E
 have s1:=qbs (a-c)
 have s2:=qbs (b-d)
 grind
theorem qEr{l:List DQ}{x y:Rat}(hl:l≠[])(hs:∀d∈l,0≤d.s)(h:∀d∈l,pw d x y≤0) :
  (∃a∈l,∀d∈l,pw d a.x a.y≤0)∨∃a∈l,∃b∈l,∃X Y,q3E b.x b.y a.x a.y≠0∧pw b X Y=pw a X Y∧(∀d∈l,pw d X Y≤pw a X Y)∧pw a X Y≤0:=by
 obtain⟨a,ha,hmax⟩:=qvr (fun d=>pw d x y) l hl
 by_cases hc:∀d∈l,pw d a.x a.y≤0
 ·exact .inl ⟨a,ha,hc⟩
 ·have hex:∃k∈l,0<pw k a.x a.y:=by
   by_cases hn:∃k∈l,0<pw k a.x a.y
   ·exact hn
   ·exact absurd (fun d hd=>Rat.not_lt.1 fun h0=>hn ⟨d,hd,h0⟩) hc
  obtain⟨k0,hk0,hp⟩:=hex
  have hsa:=hs a ha
  have paa:pw a a.x a.y=-a.s:=by unfold pw;grind
  obtain⟨al,hal⟩:∃al:DQ→Rat,al=fun k=>pw k x y-pw a x y:=⟨_,rfl⟩
  obtain⟨be,hbe⟩:∃be:DQ→Rat,be=fun k=>pw k a.x a.y-pw a a.x a.y-(pw k x y-pw a x y):=⟨_,rfl⟩
  have al0:∀k∈l,al k≤0:=fun k hk=>by rw[hal];have:=hmax k hk;simp only at this ⊢;grind
  have be0:al k0+be k0>0:=by rw[hal,hbe];simp only;grind
  obtain⟨t,t0,ht,b,hb,hb1,hb2⟩:=hit al be l al0 ⟨k0,hk0,by have:=al0 k0 hk0;grind⟩
  have line:∀k,pw k (x+t*(a.x-x)) (y+t*(a.y-y))-pw a (x+t*(a.x-x)) (y+t*(a.y-y))=al k+be k*t:=fun k=>by
   rw[hal,hbe];simp only;unfold pw;grind
  have t1:t≤1:=by
   apply Rat.not_lt.1;intro hn
   have h1:=ht k0 hk0
   have h2:=al0 k0 hk0
   have:=Rat.mul_pos (show 0<be k0 by grind) (show 0<t-1 by grind)
   grind
  refine .inr ⟨a,ha,b,hb,x+t*(a.x-x),y+t*(a.y-y),fun hf=>?_,?_,fun d hd=>?_,?_⟩
  ·obtain⟨e1,e2⟩:=qoK hf
   have:be b=0:=by rw[hbe];simp only;unfold pw;rw[e1,e2];grind
   grind
  ·have:=line b;grind
  ·have:=line d;have:=ht d hd;grind
  ·have h1:=h a ha
   have e:pw a (x+t*(a.x-x)) (y+t*(a.y-y))=(1-t)*(1-t)*((x-a.x)*(x-a.x)+(y-a.y)*(y-a.y))-a.s:=by unfold pw;grind
   have q:0≤(x-a.x)*(x-a.x)+(y-a.y)*(y-a.y):=by have:=qbs (x-a.x);have:=qbs (y-a.y);grind
   have m:=qug (a:=1-t) (b:=1) (by grind) (by grind)
   have:=Rat.mul_nonneg (show 0≤1-(1-t)*(1-t) by grind) q
   rw[e]
   have:pw a x y=(x-a.x)*(x-a.x)+(y-a.y)*(y-a.y)-a.s:=rfl
   grind
theorem qp4{a b:DQ}(neg:Bool)(hf:q3E b.x b.y a.x a.y≠0) :
  (qo a b neg).ax*(qo a b neg).ax+(qo a b neg).ay*(qo a b neg).ay=q3E b.x b.y a.x a.y ∧
  (qo a b neg).ax*(b.x-a.x)+(qo a b neg).ay*(b.y-a.y)=0 ∧
  (qo a b neg).ax*((qo a b neg).fx-a.x)+(qo a b neg).ay*((qo a b neg).fy-a.y)=0 ∧
  2*(((qo a b neg).fx-a.x)*(b.x-a.x)+((qo a b neg).fy-a.y)*(b.y-a.y))=q3E b.x b.y a.x a.y+a.s-b.s ∧
  kA a (qo a b neg)=0∧kB a (qo a b neg)=0∧kA b (qo a b neg)=0∧kB b (qo a b neg)=0:=by
 obtain⟨far,hfar⟩:∃far,far=q3E b.x b.y a.x a.y:=⟨_,rfl⟩
 obtain⟨t,ht⟩:∃t,t=(far+a.s-b.s)/(2*far):=⟨_,rfl⟩
 obtain⟨h,hh⟩:∃h,h=a.s/far-t*t:=⟨_,rfl⟩
 rw[←hfar] at hf
 have h2f:2*far≠0:=by grind
 have ht':2*far*t=far+a.s-b.s:=by
  rw[ht,Rat.mul_comm];exact Rat.div_mul_cancel h2f
 have hh':far*h=a.s-far*(t*t):=by
  have:a.s/far*far=a.s:=Rat.div_mul_cancel hf
  rw[hh];grind
 have hc:qo a b neg=⟨a.x+t*(b.x-a.x),a.y+t*(b.y-a.y),if neg then b.y-a.y else 0-(b.y-a.y),if neg then 0-(b.x-a.x) else b.x-a.x,h⟩:=by
  rw[hh,ht,hfar];rfl
 have hfar':far=(b.x-a.x)*(b.x-a.x)+(b.y-a.y)*(b.y-a.y):=hfar
 rw[hc,←hfar]
 unfold kA kB
 clear hc hfar ht hh
 cases neg
 ·simp only[Bool.false_eq_true,if_false]
  refine⟨by grind,by grind,by grind,by grind,by grind,by grind,by grind,by grind⟩
 ·simp only[if_true]
  refine⟨by grind,by grind,by grind,by grind,by grind,by grind,by grind,by grind⟩
theorem qsf(a b:DQ):(qo a b true).ax=-(qo a b false).ax∧(qo a b true).ay=-(qo a b false).ay:=by
 unfold qo
 simp only[Bool.false_eq_true,if_false,if_true]
 exact⟨by grind,by grind⟩
theorem qvC{l:List DQ}{a b:DQ}{x y:Rat}(neg:Bool)(hf:q3E b.x b.y a.x a.y≠0)(hab:pw b x y=pw a x y)(hm:∀d∈l,pw d x y≤pw a x y)(h0:pw a x y≤0)
  (hv:0≤(qo a b neg).ax*(x-a.x)+(qo a b neg).ay*(y-a.y)) :
  (0≤(qo a b neg).h∧∀d∈l,yE d (qo a b neg)) ∨
  ∃t k,0≤t∧k∈l∧(qo a b neg).ax*(k.x-a.x)+(qo a b neg).ay*(k.y-a.y)<0∧pw k (x+t*(qo a b neg).ax) (y+t*(qo a b neg).ay)=pw a (x+t*(qo a b neg).ax) (y+t*(qo a b neg).ay) ∧
   pw b (x+t*(qo a b neg).ax) (y+t*(qo a b neg).ay)=pw a (x+t*(qo a b neg).ax) (y+t*(qo a b neg).ay)∧(∀d∈l,pw d (x+t*(qo a b neg).ax) (y+t*(qo a b neg).ay)≤pw a (x+t*(qo a b neg).ax) (y+t*(qo a b neg).ay)) ∧
   pw a (x+t*(qo a b neg).ax) (y+t*(qo a b neg).ay)≤0:=by
 obtain⟨f1,f2,f3,f4,f5,f6,f7,f8⟩:=qp4 neg hf
 have hpos:0<q3E b.x b.y a.x a.y:=by have:=qBD b.x b.y a.x a.y;grind
 have hfd:q3E b.x b.y a.x a.y=(b.x-a.x)*(b.x-a.x)+(b.y-a.y)*(b.y-a.y):=rfl
 have hax:(qo a b neg).ax=if neg then b.y-a.y else 0-(b.y-a.y):=rfl
 have hay:(qo a b neg).ay=if neg then 0-(b.x-a.x) else b.x-a.x:=rfl
 generalize qo a b neg=p at *
 generalize q3E b.x b.y a.x a.y=far at *
 obtain⟨T0,hT0⟩:∃T0,T0=(p.ax*(x-p.fx)+p.ay*(y-p.fy))/far:=⟨_,rfl⟩
 have eT0:T0*far=p.ax*(x-p.fx)+p.ay*(y-p.fy):=by rw[hT0];exact Rat.div_mul_cancel hf
 have hp:(x-p.fx)*(b.x-a.x)+(y-p.fy)*(b.y-a.y)=0:=by
  unfold pw at hab;grind
 have cancel:∀z:Rat,z*far=0→z=0:=fun z hz=>by
  rcases Rat.mul_eq_zero.1 hz with h|h
  ·exact h
  ·exact absurd h hf
 have ex:x=p.fx+T0*p.ax:=by
  have:x-p.fx-T0*p.ax=0:=cancel _ (by
   have e:(x-p.fx-T0*p.ax)*far=(x-p.fx)*far-p.ax*(T0*far):=by grind
   rw[e,eT0,hfd]
   cases neg
   ·simp only[Bool.false_eq_true,if_false] at hax hay;rw[hax,hay];clear hax hay eT0 hT0 f1 f2 f3 f4 f5 f6 f7 f8 hv hab;grind
   ·simp only[if_true] at hax hay;rw[hax,hay];clear hax hay eT0 hT0 f1 f2 f3 f4 f5 f6 f7 f8 hv hab;grind)
  grind
 have ey:y=p.fy+T0*p.ay:=by
  have:y-p.fy-T0*p.ay=0:=cancel _ (by
   have e:(y-p.fy-T0*p.ay)*far=(y-p.fy)*far-p.ay*(T0*far):=by grind
   rw[e,eT0,hfd]
   cases neg
   ·simp only[Bool.false_eq_true,if_false] at hax hay;rw[hax,hay];clear hax hay eT0 hT0 f1 f2 f3 f4 f5 f6 f7 f8 hv hab ex;grind
   ·simp only[if_true] at hax hay;rw[hax,hay];clear hax hay eT0 hT0 f1 f2 f3 f4 f5 f6 f7 f8 hv hab ex;grind)
  grind
 have T0n:0≤T0:=by
  apply Rat.not_lt.1;intro hn
  have:=Rat.mul_pos (show 0 < -T0 by grind) hpos
  grind
 have line:∀d T,pw d (p.fx+T*p.ax) (p.fy+T*p.ay)=kA d p+kB d p*T+far*(T*T-p.h):=fun d T=>by rw[qBw,f1]
 have lineA:∀T,pw a (p.fx+T*p.ax) (p.fy+T*p.ay)=far*(T*T-p.h):=fun T=>by rw[line,f5,f6];grind
 have lineB:∀T,pw b (p.fx+T*p.ax) (p.fy+T*p.ay)=far*(T*T-p.h):=fun T=>by rw[line,f7,f8];grind
 have at0:∀d∈l,kA d p+kB d p*T0≤0:=fun d hd=>by
  have:=hm d hd
  rw[ex,ey,line,lineA] at this
  grind
 have hT:T0*T0≤p.h:=by
  rw[ex,ey,lineA] at h0
  apply Rat.not_lt.1;intro hn
  have:=Rat.mul_pos hpos (show 0<T0*T0-p.h by grind)
  grind
 have hn:0≤p.h:=by have:=qbs T0;grind
 have kb:∀d:DQ,kB d p=-(2*(p.ax*(d.x-a.x)+p.ay*(d.y-a.y))):=fun d=>by unfold kB;grind
 have all:∀T1,T0≤T1→p.h≤T1*T1→(∀d∈l,kA d p+kB d p*T1≤0)→0≤p.h∧∀d∈l,yE d p:=fun T1 h1 h2 h3=>
  ⟨hn,fun d hd=>qzY T0n h1 hT h2 (at0 d hd) (h3 d hd)⟩
 by_cases hk:∃k∈l,0<kB k p
 ·obtain⟨t,t0,ht,k,hk,hk1,hk2⟩:=hit (fun d=>kA d p+kB d p*T0) (fun d=>kB d p) l at0 hk
  by_cases hle:(T0+t)*(T0+t)≤p.h
  ·have eX:x+t*p.ax=p.fx+(T0+t)*p.ax:=by grind
   have eY:y+t*p.ay=p.fy+(T0+t)*p.ay:=by grind
   refine .inr ⟨t,k,t0,hk,?_,?_,?_,fun d hd=>?_,?_⟩
   ·rw[kb] at hk1;grind
   ·rw[eX,eY,line,lineA];grind
   ·rw[eX,eY,lineA,lineB]
   ·rw[eX,eY,line,lineA];have:=ht d hd;grind
   ·rw[eX,eY,lineA]
    have:=Rat.mul_nonneg (show 0≤far by grind) (show 0≤p.h-(T0+t)*(T0+t) by grind);grind
  ·exact .inl (all (T0+t) (by grind) (by grind) fun d hd=>by have:=ht d hd;grind)
 ·refine .inl (all (T0+p.h+1) (by grind) ?_ fun d hd=>?_)
  ·have:=qug (a:=p.h+1) (b:=T0+p.h+1) (by grind) (by grind)
   have:=Rat.mul_nonneg hn hn
   grind
  ·have h1:kB d p≤0:=Rat.not_lt.1 fun h=>hk ⟨d,hd,h⟩
   have:=Rat.mul_nonneg (show 0≤-kB d p by grind) (show 0≤p.h+1 by grind)
   have:=at0 d hd
   grind
def Vx(l:List DQ)(x y:Rat)(t:DQ×DQ×DQ):Prop:=
 qwv t.1.x t.1.y t.2.1.x t.2.1.y t.2.2.x t.2.2.y≠0∧pw t.2.1 x y=pw t.1 x y∧pw t.2.2 x y=pw t.1 x y∧(∀d∈l,pw d x y≤pw t.1 x y)∧pw t.1 x y≤0
theorem qF4{l:List DQ}{x y x' y':Rat}{t:DQ×DQ×DQ}(h:Vx l x y t)(h':Vx l x' y' t):x=x'∧y=y':=by
 obtain⟨a,b,c⟩:=t
 obtain⟨hA,h1,h2,-,-⟩:=h
 obtain⟨-,h1',h2',-,-⟩:=h'
 unfold pw qwv at *
 simp only at *
 have e1:(x-x')*(b.x-a.x)+(y-y')*(b.y-a.y)=0:=by grind
 have e2:(x-x')*(c.x-a.x)+(y-y')*(c.y-a.y)=0:=by grind
 generalize b.x-a.x=p at *
 generalize b.y-a.y=q at *
 generalize c.x-a.x=r at *
 generalize c.y-a.y=s at *
 have k1:(x-x')*(p*s-r*q)=0:=by clear h1 h2 h1' h2' hA;grind
 have k2:(y-y')*(p*s-r*q)=0:=by clear h1 h2 h1' h2' hA;grind
 constructor
 ·rcases Rat.mul_eq_zero.1 k1 with h|h
  ·grind
  ·exact absurd h hA
 ·rcases Rat.mul_eq_zero.1 k2 with h|h
  ·grind
  ·exact absurd h hA
theorem qBg(l:List DQ):∀L:List (DQ×DQ×DQ),(∃t∈L,∃x y,Vx l x y t)→∃t∈L,∃x y,Vx l x y t∧∀t'∈L,∀x' y',Vx l x' y' t'→pw t'.1 x' y'≤pw t.1 x y
 | [],h=>by obtain⟨t,ht,_⟩:=h;cases ht
 | s::L,h=>by
  by_cases hs:∃x y,Vx l x y s
  ·obtain⟨x,y,hs⟩:=hs
   have own:∀x' y',Vx l x' y' s→pw s.1 x' y'≤pw s.1 x y:=fun x' y' h'=>by
    obtain⟨rfl,rfl⟩:=qF4 h' hs;exact Rat.le_refl
   by_cases hL:∃t∈L,∃x y,Vx l x y t
   ·obtain⟨t,ht,u,v,hv,hmax⟩:=qBg l L hL
    rcases Rat.le_total (a:=pw s.1 x y) (b:=pw t.1 u v) with hle|hle
    ·refine⟨t,List.mem_cons_of_mem _ ht,u,v,hv,fun t' ht' x' y' h'=>?_⟩
     rcases List.mem_cons.1 ht' with rfl|ht'
     ·exact Rat.le_trans (own x' y' h') hle
     ·exact hmax t' ht' x' y' h'
    ·refine⟨s,List.mem_cons_self,x,y,hs,fun t' ht' x' y' h'=>?_⟩
     rcases List.mem_cons.1 ht' with rfl|ht'
     ·exact own x' y' h'
     ·exact Rat.le_trans (hmax t' ht' x' y' h') hle
   ·refine⟨s,List.mem_cons_self,x,y,hs,fun t' ht' x' y' h'=>?_⟩
    rcases List.mem_cons.1 ht' with rfl|ht'
    ·exact own x' y' h'
    ·exact absurd ⟨t',ht',x',y',h'⟩ hL
  ·have hL:∃t∈L,∃x y,Vx l x y t:=by
    obtain⟨t,ht,h⟩:=h
    rcases List.mem_cons.1 ht with rfl|ht
    ·exact absurd h hs
    ·exact⟨t,ht,h⟩
   obtain⟨t,ht,u,v,hv,hmax⟩:=qBg l L hL
   refine⟨t,List.mem_cons_of_mem _ ht,u,v,hv,fun t' ht' x' y' h'=>?_⟩
   rcases List.mem_cons.1 ht' with rfl|ht'
   ·exact absurd ⟨x',y',h'⟩ hs
   ·exact hmax t' ht' x' y' h'
theorem qB7{l:List DQ}{x y:Rat}{t:DQ×DQ×DQ}(ht:t.1∈l∧t.2.1∈l∧t.2.2∈l)(hv:Vx l x y t) :
  ∃a∈l,∃b∈l,∃neg,q3E b.x b.y a.x a.y≠0∧pw a x y=pw t.1 x y∧pw b x y=pw a x y∧0≤(qo a b neg).ax*(x-a.x)+(qo a b neg).ay*(y-a.y) ∧
   ∀k∈l,pw k x y=pw a x y→0≤(qo a b neg).ax*(k.x-a.x)+(qo a b neg).ay*(k.y-a.y):=by
 obtain⟨a0,b0,c0⟩:=t
 obtain⟨hA,h1,h2,h3,h4⟩:=hv
 simp only at *
 obtain⟨I,hI⟩:∃I,I=l.filter fun k=>decide (pw k x y=pw a0 x y):=⟨_,rfl⟩
 have memI:∀k,k∈I↔k∈l∧pw k x y=pw a0 x y:=fun k=>by rw[hI];simp
 have ia:a0∈I:=(memI _).2 ⟨ht.1,rfl⟩
 have ib:b0∈I:=(memI _).2 ⟨ht.2.1,h1⟩
 have ic:c0∈I:=(memI _).2 ⟨ht.2.2,h2⟩
 obtain⟨a,haI,hmax⟩:=qvr (fun k:DQ=>q3E k.x k.y x y) I (by intro h;rw[h] at ia;cases ia)
 obtain⟨hal,hap⟩:=(memI a).1 haI
 obtain⟨D,hD⟩:∃D:DQ→Rat,D=fun k=>(x-a.x)*(k.x-a.x)+(y-a.y)*(k.y-a.y):=⟨_,rfl⟩
 obtain⟨X,hX⟩:∃X:DQ→Rat,X=fun k=>(x-a.x)*(k.y-a.y)-(y-a.y)*(k.x-a.x):=⟨_,rfl⟩
 obtain⟨J,hJ⟩:∃J,J=I.filter fun k=>decide (q3E k.x k.y a.x a.y≠0):=⟨_,rfl⟩
 have memJ:∀k,k∈J↔k∈I∧q3E k.x k.y a.x a.y≠0:=fun k=>by rw[hJ];simp
 have hDp:∀k∈J,0<D k:=fun k hk=>by
  obtain⟨hk1,hk2⟩:=(memJ k).1 hk
  have e1:=hmax k hk1
  have e2:=qBD k.x k.y a.x a.y
  rw[hD]
  simp only at e1 ⊢
  unfold q3E at e1 e2 hk2
  grind
 have hJn:J≠[]:=by
  intro hJ0
  have all:∀k∈I,k.x=a.x∧k.y=a.y:=fun k hk=>by
   by_cases hz:q3E k.x k.y a.x a.y=0
   ·exact qoK hz
   ·have:=(memJ k).2 ⟨hk,hz⟩
    rw[hJ0] at this;cases this
  obtain⟨p1,q1⟩:=all a0 ia
  obtain⟨p2,q2⟩:=all b0 ib
  obtain⟨p3,q3⟩:=all c0 ic
  apply hA
  unfold qwv
  rw[p1,p2,p3,q1,q2,q3];grind
 have slope:∀k b:DQ,0<D k→0<D b→X k/D k≤X b/D b→X k*D b≤X b*D k:=fun k b k0 b0 h=>by
  have e1:X k/D k*D k=X k:=Rat.div_mul_cancel (by grind)
  have e2:X b/D b*D b=X b:=Rat.div_mul_cancel (by grind)
  generalize X k/D k=u at *
  generalize X b/D b=v at *
  have:=Rat.mul_nonneg (show 0≤v-u by grind) (Rat.mul_nonneg (show 0≤D k by grind) (show 0≤D b by grind))
  rw[←e1,←e2];grind
 have lag:∀k b:DQ,((x-a.x)*(x-a.x)+(y-a.y)*(y-a.y))*((k.x-a.x)*(b.y-a.y)-(k.y-a.y)*(b.x-a.x))=D k*X b-X k*D b:=fun k b=>by
  rw[hD,hX];simp only;grind
 have upos:∀b,0<D b→0<(x-a.x)*(x-a.x)+(y-a.y)*(y-a.y):=fun b hb=>by
  apply Rat.not_le.1;intro hn
  have s1:=qbs (x-a.x)
  have s2:=qbs (y-a.y)
  have z1:=qtq (a:=x-a.x) (by grind)
  have z2:=qtq (a:=y-a.y) (by grind)
  rw[hD] at hb;simp only at hb;rw[z1,z2] at hb;grind
 obtain⟨b,hb,hbm⟩:=qvr (fun k=>X k/D k) J hJn
 have hbD:=hDp b hb
 obtain⟨hbI,hbf⟩:=(memJ b).1 hb
 obtain⟨hbl,hbp⟩:=(memI b).1 hbI
 have onI:∀k∈l,pw k x y=pw a x y→k∈I:=fun k hk e=>(memI k).2 ⟨hk,by rw[e,hap]⟩
 by_cases hXb:0≤X b
 ·refine⟨a,hal,b,hbl,true,hbf,hap,by rw[hbp,hap],?_,fun k hk hkp=>?_⟩
  ·have e:(qo a b true).ax*(x-a.x)+(qo a b true).ay*(y-a.y)=X b:=by
    rw[hX];unfold qo;simp only[if_true];grind
   rw[e];exact hXb
  ·have e:(qo a b true).ax*(k.x-a.x)+(qo a b true).ay*(k.y-a.y)=(k.x-a.x)*(b.y-a.y)-(k.y-a.y)*(b.x-a.x):=by
    unfold qo;simp only[if_true];grind
   rw[e]
   by_cases hz:q3E k.x k.y a.x a.y=0
   ·obtain⟨z1,z2⟩:=qoK hz
    rw[z1,z2];grind
   ·have hkJ:=(memJ k).2 ⟨onI k hk hkp,hz⟩
    have s:=slope k b (hDp k hkJ) hbD (hbm k hkJ)
    have g:=lag k b
    apply Rat.not_lt.1;intro hn
    have:=Rat.mul_pos (upos b hbD) (show 0 < -((k.x-a.x)*(b.y-a.y)-(k.y-a.y)*(b.x-a.x)) by grind)
    grind
 ·obtain⟨c,hc,hcm⟩:=qvr (fun k=>-(X k/D k)) J hJn
  have hcD:=hDp c hc
  obtain⟨hcI,hcf⟩:=(memJ c).1 hc
  obtain⟨hcl,hcp⟩:=(memI c).1 hcI
  have hXc:X c<0:=by
   have s:=slope c b hcD hbD (hbm c hc)
   apply Rat.not_le.1;intro hn
   have m1:=Rat.mul_nonneg hn (show 0≤D b by grind)
   have m2:=Rat.mul_pos (show 0 < -X b by grind) hcD
   grind
  refine⟨a,hal,c,hcl,false,hcf,hap,by rw[hcp,hap],?_,fun k hk hkp=>?_⟩
  ·have e:(qo a c false).ax*(x-a.x)+(qo a c false).ay*(y-a.y)=-X c:=by
    rw[hX];unfold qo;simp only[Bool.false_eq_true,if_false];grind
   rw[e];grind
  ·have e:(qo a c false).ax*(k.x-a.x)+(qo a c false).ay*(k.y-a.y)=-((k.x-a.x)*(c.y-a.y)-(k.y-a.y)*(c.x-a.x)):=by
    unfold qo;simp only[Bool.false_eq_true,if_false];grind
   rw[e]
   by_cases hz:q3E k.x k.y a.x a.y=0
   ·obtain⟨z1,z2⟩:=qoK hz
    rw[z1,z2];grind
   ·have hkJ:=(memJ k).2 ⟨onI k hk hkp,hz⟩
    have hle:=hcm k hkJ
    have s:=slope c k hcD (hDp k hkJ) (by grind)
    have g:=lag k c
    apply Rat.not_lt.1;intro hn
    have:=Rat.mul_pos (upos c hcD) (show 0<(k.x-a.x)*(c.y-a.y)-(k.y-a.y)*(c.x-a.x) by grind)
    grind
theorem qDk{l:List DQ}(hl:l≠[])(hs:∀d∈l,0≤d.s)(hm:qkR l) :
  (∃a∈l,∀d∈l,pw d a.x a.y≤0)∨∃a∈l,∃b∈l,∃neg,q3E b.x b.y a.x a.y≠0∧0≤(qo a b neg).h∧∀d∈l,yE d (qo a b neg):=by
 obtain⟨x,y,hxy⟩:=hm
 rcases qEr hl hs hxy with h|⟨a,ha,b,hb,X,Y,hf,hab,hmx,h0⟩
 ·exact .inl h
 ·right
  have vtx:∀{a b k:DQ} {neg:Bool} {X Y:Rat},(qo a b neg).ax*(k.x-a.x)+(qo a b neg).ay*(k.y-a.y)<0→pw k X Y=pw a X Y→pw b X Y=pw a X Y→(∀d∈l,pw d X Y≤pw a X Y)→pw a X Y≤0→Vx l X Y (a,b,k):=by
   intro a b k neg X Y h1 h2 h3 h4 h5
   refine⟨fun hA=>?_,h3,h2,h4,h5⟩
   unfold qwv at hA
   simp only at hA
   unfold qo at h1
   cases neg
   ·simp only[Bool.false_eq_true,if_false] at h1;grind
   ·simp only[if_true] at h1;grind
  have hneg:∃neg,0≤(qo a b neg).ax*(X-a.x)+(qo a b neg).ay*(Y-a.y):=by
   obtain⟨e1,e2⟩:=qsf a b
   rcases Rat.le_total (a:=0) (b:=(qo a b false).ax*(X-a.x)+(qo a b false).ay*(Y-a.y)) with h|h
   ·exact⟨false,h⟩
   ·exact⟨true,by rw[e1,e2];grind⟩
  obtain⟨neg,hv⟩:=hneg
  rcases qvC neg hf hab hmx h0 hv with⟨h1,h2⟩|⟨t,k,t0,hk,k1,k2,k3,k4,k5⟩
  ·exact⟨a,ha,b,hb,neg,hf,h1,h2⟩
  ·obtain⟨L,hL⟩:∃L,L=l.flatMap fun a=>l.flatMap fun b=>l.map fun c=>(a,b,c):=⟨_,rfl⟩
   have memL:∀t:DQ×DQ×DQ,t∈L↔t.1∈l∧t.2.1∈l∧t.2.2∈l:=fun t=>by
    obtain⟨a,b,c⟩:=t
    rw[hL];simp only[List.mem_flatMap,List.mem_map,Prod.mk.injEq]
    exact⟨fun⟨a',h1,b',h2,c',h3,e1,e2,e3⟩=>⟨e1▸h1,e2▸h2,e3▸h3⟩,fun⟨h1,h2,h3⟩=>⟨a,h1,b,h2,c,h3,rfl,rfl,rfl⟩⟩
   obtain⟨s,hs,u,v,hV,hmax⟩:=qBg l L ⟨(a,b,k),(memL _).2 ⟨ha,hb,hk⟩,_,_,vtx k1 k2 k3 k4 k5⟩
   obtain⟨a',ha',b',hb',neg',hf',hp',hab',hv',hact⟩:=qB7 ((memL s).1 hs) hV
   rcases qvC neg' hf' hab' (fun d hd=>by rw[hp'];exact hV.2.2.2.1 d hd) (by rw[hp'];exact hV.2.2.2.2) hv' with⟨h1,h2⟩|⟨t,k,t0,hk,k1,k2,k3,k4,k5⟩
   ·exact⟨a',ha',b',hb',neg',hf',h1,h2⟩
   ·exfalso
    have hm':=hmax (a',b',k) ((memL _).2 ⟨ha',hb',hk⟩) _ _ (vtx k1 k2 k3 k4 k5)
    simp only at hm'
    rw[←hp'] at hm'
    obtain⟨f1,-⟩:=qp4 neg' hf'
    have hpos:0<q3E b'.x b'.y a'.x a'.y:=by have:=qBD b'.x b'.y a'.x a'.y;grind
    generalize qo a' b' neg'=p at *
    have t1:0<t:=by
     apply Rat.not_le.1;intro hn
     have:t=0:=by grind
     rw[this] at k2
     have e1:u+0*p.ax=u:=by grind
     have e2:v+0*p.ay=v:=by grind
     rw[e1,e2] at k2
     have:=hact k hk k2
     grind
    have e:pw a' (u+t*p.ax) (v+t*p.ay)=pw a' u v+2*(t*(p.ax*(u-a'.x)+p.ay*(v-a'.y)))+t*t*(p.ax*p.ax+p.ay*p.ay):=by unfold pw;grind
    rw[e,f1] at hm'
    have m1:=Rat.mul_nonneg t0 hv'
    have m2:=Rat.mul_pos (Rat.mul_pos t1 t1) hpos
    grind
end Go.Eng

namespace Go.Eng
def cls(q:Rat):Prop:=(qn q≤12∧q.den=1)∨(qn q≤10∧qd q≤10)
def qFE(q:Rat):Prop:=qn q≤13∧qd q≤10
structure GD (d:DQ):Prop where
 x:cls d.x
 y:cls d.y
 s:qFE d.s
 nn:0≤d.s
theorem Bd.of_nl{m:Int}{k:Nat}(h:nl m≤k):Bd 1 k m:=by
 unfold Bd
 have:=qGl h
 omega
theorem Bd.of_le{C e:Nat}{x y:Int}(h:Bd C e y)(hxy:x.natAbs≤y.natAbs):Bd C e x:=Nat.le_trans hxy h
theorem qsb{q:Rat}(h:cls q):∃u v,Wt u v q∧((u=12∧v=0)∨(u=10∧v=10)):=by
 rcases h with⟨h1,h2⟩|⟨h1,h2⟩
 ·refine⟨12,0,⟨Bd.of_nl h1,?_,?_⟩,.inl ⟨rfl,rfl⟩⟩
  ·unfold Bd;rw[h2];decide
  ·unfold Bd;rw[h2];decide
 ·exact⟨10,10,⟨Bd.of_nl h1,Bd.of_nl (m:=(q.den:Int)) h2,Bd.of_nl (m:=(q.den:Int)) h2⟩,.inr ⟨rfl,rfl⟩⟩
theorem qwI{q:Rat}(h:qFE q):∃u v,Wt u v q∧u=13∧v=10:=
 ⟨13,10,⟨Bd.of_nl h.1,Bd.of_nl (m:=(q.den:Int)) h.2,(Bd.of_nl (m:=(q.den:Int)) h.2).mono (by omega) (by omega)⟩,rfl,rfl⟩
theorem zV{q:Rat}(h:cls q):bnd 12 10 q:=by
 rcases h with⟨h1,h2⟩|⟨h1,h2⟩
 ·exact⟨h1,by unfold qd;rw[h2];decide⟩
 ·exact⟨by omega,h2⟩
theorem q7G{q:Rat}(h:qFE q):bnd 13 10 q:=h
theorem GD.sh{d:DQ}(h:GD d):d.sh:=⟨zV h.x,zV h.y,q7G h.s⟩
theorem qzt{a b d:DQ}(ga:GD a)(gb:GD b)(gd:GD d)(neg:Bool)(hf:(b.x-a.x)*(b.x-a.x)+(b.y-a.y)*(b.y-a.y)≠0)(oa:okQ (kA d (qo a b neg)))(ob:okQ (kB d (qo a b neg)))(oc:okQ (qo a b neg).h) :
  RootOk (kA d (qo a b neg)) (kB d (qo a b neg)) (qo a b neg).h:=by
 obtain⟨f1,f2,f3,f4⟩:=qxB a b d neg hf
 generalize kA d (qo a b neg)=A at *
 generalize kB d (qo a b neg)=B at *
 generalize (qo a b neg).h=H at *
 obtain⟨hx1,vx1,wx1,ex1⟩:=qsb ga.x
 obtain⟨hy1,vy1,wy1,ey1⟩:=qsb ga.y
 obtain⟨hs1,vs1,ws1,es1⟩:=qwI ga.s
 obtain⟨hx2,vx2,wx2,ex2⟩:=qsb gb.x
 obtain⟨hy2,vy2,wy2,ey2⟩:=qsb gb.y
 obtain⟨hs2,vs2,ws2,es2⟩:=qwI gb.s
 obtain⟨hx3,vx3,wx3,ex3⟩:=qsb gd.x
 obtain⟨hy3,vy3,wy3,ey3⟩:=qsb gd.y
 obtain⟨hs3,vs3,ws3,es3⟩:=qwI gd.s
 have k1:8*hx1+vx1≤96∧14*hx1+4*vx1≤180:=by omega
 have k2:8*hy1+vy1≤96∧14*hy1+4*vy1≤180:=by omega
 have k3:7*hx2+vx2≤84∧14*hx2+2*vx2≤168:=by omega
 have k4:7*hy2+vy2≤84∧14*hy2+2*vy2≤168:=by omega
 have k5:2*hx3+vx3≤30∧2*hx3+4*vx3≤60:=by omega
 have k6:2*hy3+vy3≤30∧2*hy3+4*vy3≤60:=by omega
 have k7:hs1+2*vs1≤33∧2*hs1+4*vs1≤66:=by omega
 have k8:hs2+2*vs2≤33∧2*hs2+4*vs2≤66:=by omega
 have k9:hs3≤13∧vs3≤10:=by omega
 clear ex1 ey1 es1 ex2 ey2 es2 ex3 ey3 es3
 have p0:∀q:Rat,(q.den:Int)≠0:=fun q=>by have:=qwx q;omega
 have hM:iM a.x.num a.x.den a.y.num a.y.den a.s.den b.x.num b.x.den b.y.num b.y.den b.s.den d.x.den d.y.den d.s.den≠0:=by
  unfold iM iSq
  have:=p0 a.x;have:=p0 a.y;have:=p0 a.s;have:=p0 b.x;have:=p0 b.y;have:=p0 b.s;have:=p0 d.x;have:=p0 d.y;have:=p0 d.s
  exact Int.mul_ne_zero (Int.mul_ne_zero (Int.mul_ne_zero f4 (Int.mul_ne_zero (Int.mul_ne_zero ‹_› ‹_›) ‹_›)) (Int.mul_ne_zero (Int.mul_ne_zero (Int.mul_ne_zero ‹_› ‹_›) (Int.mul_ne_zero ‹_› ‹_›)) (Int.mul_ne_zero (Int.mul_ne_zero ‹_› ‹_›) (Int.mul_ne_zero ‹_› ‹_›)))) (Int.mul_ne_zero ‹_› ‹_›)
 have hQ:iQ a.x.den a.y.den b.x.den b.y.den d.x.den d.y.den≠0:=by
  unfold iQ
  exact Int.mul_ne_zero (Int.mul_ne_zero (Int.mul_ne_zero (p0 _) (p0 _)) (p0 _)) (Int.mul_ne_zero (Int.mul_ne_zero (p0 _) (p0 _)) (p0 _))
 have hC:iCd a.x.num a.x.den a.y.num a.y.den a.s.den b.x.num b.x.den b.y.num b.y.den b.s.den≠0:=by
  unfold iCd
  exact Int.mul_ne_zero (Int.mul_ne_zero (by omega) (Int.mul_ne_zero f4 f4)) (Int.mul_ne_zero (Int.mul_ne_zero (p0 _) (p0 _)) (Int.mul_ne_zero (p0 _) (p0 _)))
 obtain⟨g1,g2⟩:=qoG hM f1
 obtain⟨g3,g4⟩:=qoG hQ f2
 obtain⟨g5,g6⟩:=qoG hC f3
 have b1:=(bA wx1.n wx1.dh wy1.n wy1.dh wx2.n wx2.dh wy2.n wy2.dh wx3.n wx3.dh wy3.n wy3.dh ws1.n ws1.dh ws2.n ws2.dh ws3.n ws3.dh).of_le (x:=A.num) g1
 have b2:=(bM wx1.n wx1.dh wy1.n wy1.dh wx2.n wx2.dh wy2.n wy2.dh wx1.d wy1.d wx2.d wy2.d wx3.d wy3.d ws1.d ws2.d ws3.d).of_le (x:=(A.den:Int)) g2
 have b3:Bd 16 (hx1+hx2+hx3+hy1+hy2+hy3) B.num:=by
  refine(bK wx1.n wx1.dh wy1.n wy1.dh wx2.n wx2.dh wy2.n wy2.dh wx3.n wx3.dh wy3.n wy3.dh).of_le (Nat.le_trans g3 ?_)
  rw[Int.natAbs_mul]
  cases neg<;>simp
 have b4:=(bQ wx1.d wy1.d wx2.d wy2.d wx3.d wy3.d).of_le (x:=(B.den:Int)) g4
 have b5:=(bCn wx1.n wx1.dh wy1.n wy1.dh wx2.n wx2.dh wy2.n wy2.dh ws1.n ws1.dh ws2.n ws2.dh).of_le (x:=H.num) g5
 have b6:=(bCd wx1.n wx1.dh wy1.n wy1.dh wx2.n wx2.dh wy2.n wy2.dh ws1.d ws2.d).of_le (x:=(H.den:Int)) g6
 have X1:=b1.mul b4
 have X:Bd 40960 500 (rX A B H):=(X1.mul b6).mono (by omega) (by omega)
 have Y:=b3.mul b2
 have R:=b5.mul b6
 have XX:=(X.mul X).mono (C':=1677721600) (e':=1000) (by omega) (by omega)
 have YY:=Y.mul Y
 have YR:=(YY.mul R).mono (C':=553648128) (e':=972) (by omega) (by omega)
 have c10:(1000000000:Nat)≤10^9:=by decide
 exact { oa:=oa,ob:=ob,oc:=oc,x1:=X1.okL (k:=9) (by omega) (by omega) (by omega),x:=X.okL (k:=9) (by omega) (by omega) (by omega),y:=Y.okL (k:=9) (by omega) (by omega) (by omega),r:=R.okL (k:=9) (by omega) (by omega) (by omega),xx:=XX.okL (k:=10) (by decide) (by omega) (by omega),yy:=YY.okL (k:=9) (by omega) (by omega) (by omega),yr:=YR.okL (k:=9) (by omega) (by omega) (by omega),d:=((XX.mono (C':=1677721600) (e':=1000) (by omega) (by omega)).sub (YR.mono (C':=553648128) (e':=1000) (by omega) (by omega))).okL (k:=10) (by decide) (by omega) (by omega) }
end Go.Eng

namespace Go.Eng
theorem qGU{far c:Rat}(h0:far≠0)(hf:bnd 87 80 far)(hc:bnd 24 20 c):bnd 108 108 ((far+c)/(2*far)):=by
 have hn:far.num≠0:=fun h=>h0 (Rat.num_eq_zero.1 h)
 have hm:2*(far.num*(c.den:Int))≠0:=by
  have:=qwx c
  exact Int.mul_ne_zero (by omega) (Int.mul_ne_zero hn (by omega))
 have h2f:2*far≠0:=by grind
 have key:(far+c)/(2*far)*((2*(far.num*(c.den:Int)):Int):Rat)=((far.num*(c.den:Int)+c.num*(far.den:Int):Int):Rat):=by
  have e1:=qg1 far
  have e2:=qg1 c
  have e3:(far+c)/(2*far)*(2*far)=far+c:=Rat.div_mul_cancel h2f
  have f2:((2:Int):Rat)=2:=by simp
  simp only[Rat.intCast_add,Rat.intCast_mul,Rat.intCast_natCast,e1,e2,f2]
  generalize (far+c)/(2*far)=q at *
  generalize (far.den:Rat)=fd at *
  generalize (c.den:Rat)=cd at *
  have e4:q*(2*(far*fd*cd))=q*(2*far)*(fd*cd):=by grind
  rw[e4,e3];grind
 obtain⟨k1,k2⟩:=qoG hm key
 have g1:=qcv k1
 have g2:=qBM k2
 have a1:=qs8 (far.num*(c.den:Int)) (c.num*(far.den:Int))
 have a2:=yJ far.num (c.den:Int)
 have a3:=yJ c.num (far.den:Int)
 have a4:=yJ 2 (far.num*(c.den:Int))
 have a5:nl 2=1:=by decide
 have a6:dl (2*(far.num*(c.den:Int))).natAbs=nl (2*(far.num*(c.den:Int))):=rfl
 have b1:nl far.num≤87:=hf.1
 have b2:nl (far.den:Int)≤80:=hf.2
 have b3:nl c.num≤24:=hc.1
 have b4:nl (c.den:Int)≤20:=hc.2
 refine⟨?_,?_⟩
 ·show nl _≤108
  omega
 ·show dl _≤108
  omega
structure PB (p:SQ):Prop where
 fx:bnd 142 138 p.fx
 fy:bnd 142 138 p.fy
 ax:bnd 23 20 p.ax
 ay:bnd 23 20 p.ay
 h:bnd 314 313 p.h
theorem qGu(a:Rat):0-a=-a:=by grind
theorem qxv{a b:DQ}(ga:GD a)(gb:GD b)(hf:q3E b.x b.y a.x a.y≠0):bnd 108 108 ((q3E b.x b.y a.x a.y+a.s-b.s)/(2*q3E b.x b.y a.x a.y)):=by
 rw[show q3E b.x b.y a.x a.y+a.s-b.s=q3E b.x b.y a.x a.y+(a.s-b.s) by grind]
 exact qGU hf (qqR (zV gb.x) (zV gb.y) (zV ga.x) (zV ga.y)) ((q7G ga.s).sub (q7G gb.s) (by omega) (by omega))
theorem qgW(a b:DQ)(neg:Bool):qo a b neg=⟨a.x+(q3E b.x b.y a.x a.y+a.s-b.s)/(2*q3E b.x b.y a.x a.y)*(b.x-a.x),a.y+(q3E b.x b.y a.x a.y+a.s-b.s)/(2*q3E b.x b.y a.x a.y)*(b.y-a.y),if neg then b.y-a.y else 0-(b.y-a.y),if neg then 0-(b.x-a.x) else b.x-a.x,a.s/q3E b.x b.y a.x a.y-(q3E b.x b.y a.x a.y+a.s-b.s)/(2*q3E b.x b.y a.x a.y)*((q3E b.x b.y a.x a.y+a.s-b.s)/(2*q3E b.x b.y a.x a.y))⟩:=rfl
theorem qll{a b:DQ}(ga:GD a)(gb:GD b)(neg:Bool)(hf:q3E b.x b.y a.x a.y≠0):PB (qo a b neg):=by
 have dx:=q4F (zV gb.x) (zV ga.x)
 have dy:=q4F (zV gb.y) (zV ga.y)
 have far:=qqR (zV gb.x) (zV gb.y) (zV ga.x) (zV ga.y)
 have ht:=qxv ga gb hf
 rw[qgW]
 have nx:bnd 23 20 (0-(b.x-a.x)):=by rw[qGu];exact dx.neg
 have ny:bnd 23 20 (0-(b.y-a.y)):=by rw[qGu];exact dy.neg
 have hh:=((q7G ga.s).div hf far).sub (ht.mul ht) (K:=314) (by omega) (by omega)
 have hx:=(zV ga.x).add (ht.mul dx) (K:=142) (by omega) (by omega)
 have hy:=(zV ga.y).add (ht.mul dy) (K:=142) (by omega) (by omega)
 exact⟨hx,hy,by cases neg<;>assumption,by cases neg<;>assumption,hh⟩
theorem PB.m{p:SQ}{d:DQ}(hp:PB p)(gd:GD d):bnd 153 148 (p.fx-d.x)∧bnd 153 148 (p.fy-d.y):=
 ⟨hp.fx.sub (zV gd.x) (by omega) (by omega),hp.fy.sub (zV gd.y) (by omega) (by omega)⟩
theorem PB.mm{p:SQ}{d:DQ}(hp:PB p)(gd:GD d):bnd 603 592 ((p.fx-d.x)*(p.fx-d.x)+(p.fy-d.y)*(p.fy-d.y)):=
 qty (hp.m gd).1 (hp.m gd).2 (hp.m gd).1 (hp.m gd).2
theorem PB.aa{p:SQ}(hp:PB p):bnd 87 80 (p.ax*p.ax+p.ay*p.ay):=qty hp.ax hp.ay hp.ax hp.ay
theorem PB.ha{p:SQ}(hp:PB p):bnd 401 393 (p.h*(p.ax*p.ax+p.ay*p.ay)):=hp.h.mul hp.aa
theorem PB.x{p:SQ}{d:DQ}(hp:PB p)(gd:GD d):bnd 997 985 ((p.fx-d.x)*(p.fx-d.x)+(p.fy-d.y)*(p.fy-d.y)+p.h*(p.ax*p.ax+p.ay*p.ay)):=
 (hp.mm gd).add hp.ha (by omega) (by omega)
theorem PB.ma{p:SQ}{d:DQ}(hp:PB p)(gd:GD d):bnd 345 336 ((p.fx-d.x)*p.ax+(p.fy-d.y)*p.ay):=
 qty (hp.m gd).1 (hp.m gd).2 hp.ax hp.ay
theorem PB.kA{p:SQ}{d:DQ}(hp:PB p)(gd:GD d):bnd 1008 995 (kA d p):=(hp.x gd).sub (q7G gd.s) (by omega) (by omega)
theorem PB.kB{p:SQ}{d:DQ}(hp:PB p)(gd:GD d):bnd 346 337 (kB d p):=qjx.mul (hp.ma gd)
structure PG (p:SQ):Prop where
 pb:PB p
 nn:0≤p.h
 root:∀d,GD d→RootOk (kA d p) (kB d p) p.h
theorem qDw{a b:DQ}(ga:GD a)(gb:GD b)(neg:Bool)(hf:q3E b.x b.y a.x a.y≠0)(hn:0≤(qo a b neg).h):PG (qo a b neg):=
 ⟨qll ga gb neg hf,hn,fun _ gd=>qzt ga gb gd neg hf (((qll ga gb neg hf).kA gd).ok (by omega) (by omega)) (((qll ga gb neg hf).kB gd).ok (by omega) (by omega)) ((qll ga gb neg hf).h.ok (by omega) (by omega))⟩
theorem qFI{a:DQ}(ga:GD a):PG ⟨a.x,a.y,0,0,0⟩:=by
 refine⟨⟨(zV ga.x).mono (by omega) (by omega),(zV ga.y).mono (by omega) (by omega),qc9.mono (by omega) (by omega),qc9.mono (by omega) (by omega),qc9.mono (by omega) (by omega)⟩,Rat.le_refl,fun d gd=>?_⟩
 have e1:Go.Eng.kA d ⟨a.x,a.y,0,0,0⟩=q3E a.x a.y d.x d.y-d.s:=by unfold Go.Eng.kA q3E;grind
 have e2:Go.Eng.kB d ⟨a.x,a.y,0,0,0⟩=0:=by unfold Go.Eng.kB;grind
 rw[e1,e2]
 have f1:bnd 98 90 (q3E a.x a.y d.x d.y-d.s):=(qqR (zV ga.x) (zV ga.y) (zV gd.x) (zV gd.y)).sub (q7G gd.s) (by omega) (by omega)
 exact RootOk.of f1 qc9 qc9 (by omega) (by omega)
theorem qAO{d:DQ}{p:SQ}(gd:GD d)(hp:PG p) :
  (yg [.s (tQ d.x),.s (tQ d.y),.s (tQ d.s),.s (tQ p.fx),.s (tQ p.fy),.s (tQ p.ax),.s (tQ p.ay),.s (tQ p.h),.i 0]).run=some (0,[.b (decide (yE d p)),.i 0]):=by
 rw[qjs]
 have hr:=qGa (hp.root d gd) hp.nn
 obtain⟨hp,-,-⟩:=hp
 obtain⟨m1,m2⟩:=hp.m gd
 have h0:=qE5 hp.fx hp.fy (zV gd.x) (zV gd.y) (by omega) (by omega) (by omega)
 have h1:=qDb m1 m2 m1 m2 (by omega) (by omega)
 have h2:=qDb hp.ax hp.ay hp.ax hp.ay (by omega) (by omega)
 have h3:=qwi hp.h hp.aa (by omega) (by omega)
 have h4:=qAC (hp.mm gd) hp.ha (by omega) (by omega) (by omega)
 have h5:=qxV (hp.x gd) (q7G gd.s) (by omega) (by omega) (by omega)
 have h6:=qDb m1 m2 hp.ax hp.ay (by omega) (by omega)
 have h7:=qwi qjx (hp.ma gd) (by omega) (by omega)
 rw[qz5] at h7
 have e:yE d p=(qf0 (Go.Eng.kA d p) (Go.Eng.kB d p) p.h≤0):=rfl
 unfold Go.Eng.kA Go.Eng.kB at hr e
 simp only[STD,h0,h1,h2,h3,h4,h5,h6,h7,hr,e]
 rfl
theorem qC7{d:DQ}{p:SQ}(gd:GD d)(hp:PB p) :
  (q3a [.s (tQ d.x),.s (tQ d.y),.s (tQ d.s),.s (tQ p.fx),.s (tQ p.fy),.s (tQ p.ax),.s (tQ p.ay),.s (tQ p.h)]).run=some (0,[.b (decide (yE d p))]):=by
 rw[qrT]
 obtain⟨m1,m2⟩:=hp.m gd
 have s1:=m1.sm (K:=200) (by omega) (by omega)
 have s2:=m2.sm (K:=200) (by omega) (by omega)
 have s3:=hp.ax.sm (K:=200) (by omega) (by omega)
 have s4:=hp.ay.sm (K:=200) (by omega) (by omega)
 have h0:=qCc (hp.fx.sm (by omega) (by omega)) (hp.fy.sm (by omega) (by omega)) ((zV gd.x).sm (by omega) (by omega)) ((zV gd.y).sm (by omega) (by omega))
 have h1:=qDH (by omega) s1 s2 s1 s2
 have h2:=qDH (by omega) s3 s4 s3 s4
 have h3:=vL (hp.h.sm (by omega) (by omega)) (hp.aa.sm (by omega) (by omega))
 have h4:=q8c ((hp.mm gd).sm (by omega) (by omega)) (hp.ha.sm (by omega) (by omega))
 have h5:=q38 ((hp.x gd).sm (by omega) (by omega)) ((q7G gd.s).sm (by omega) (by omega))
 have h6:=qDH (by omega) s1 s2 s3 s4
 have h7:=vL (qjx.sm (by omega) (by omega)) ((hp.ma gd).sm (by omega) (by omega))
 have h8:=quO ((hp.kA gd).sm (by omega) (by omega)) ((hp.kB gd).sm (by omega) (by omega)) (hp.h.sm (by omega) (by omega))
 rw[qz5] at h7
 have e:yE d p=(qf0 (Go.Eng.kA d p) (Go.Eng.kB d p) p.h≤0):=rfl
 unfold Go.Eng.kA Go.Eng.kB at h8 e
 simp only[STD,h0,h1,h2,h3,h4,h5,h6,h7,h8,e]
 rfl
def qgg(d:DQ):List U:=[.s (tQ d.x),.s (tQ d.y),.s (tQ d.s)]
def rD(l:List DQ):R:=l.map qgg
def ix(l:List DQ)(i:Nat):DQ:=l.getD i ⟨0,0,0⟩
theorem qB(l:List DQ):qh (rD l)=(l.length:Int):=by simp[qh,rD]
theorem qgE{l:List DQ}{i:Nat}(h:i<l.length):cS (rD l) (i:Int) 0=tQ (ix l i).x∧cS (rD l) (i:Int) 1=tQ (ix l i).y∧cS (rD l) (i:Int) 2=tQ (ix l i).s:=by
 unfold cS vu rD ix
 simp[List.getD_eq_getElem?_getD,h,qgg,U.toS]
theorem qdV{l:List DQ}{i:Nat}(h:i<l.length):ix l i∈l:=by
 unfold ix
 simp[List.getD_eq_getElem?_getD,h]
def q84(a b:DQ)(same:Bool)(side:Int):Option SQ:=
 if same then (if side=0 then some ⟨a.x,a.y,0,0,0⟩ else none)
 else if q3E b.x b.y a.x a.y=0 then none
 else if 0≤(qo a b (decide (side<0))).h∧((qo a b (decide (side<0))).h=0↔side=0) then some (qo a b (decide (side<0))) else none
theorem qyg{a b:DQ}(ga:GD a)(gb:GD b){same:Bool}{side:Int}{p:SQ}(h:q84 a b same side=some p):PG p:=by
 unfold q84 at h
 split at h
 ·split at h
  ·cases h;exact qFI ga
  ·cases h
 ·split at h
  ·cases h
  ·rename_i hf
   split at h
   ·rename_i hc
    cases h;exact qDw ga gb _ hf hc.1
   ·cases h
def q15(l:List DQ)(i j:Nat)(side:Int):Bool:=
 match q84 (ix l i) (ix l j) (decide (i=j)) side with
 | none=>false
 | some p=>l.all fun d=>decide (yE d p)
def qm9(l:List DQ)(i j:Nat)(side:Int):Option (Nat×Nat×Int):=if q15 l i j side then some (i,j,side) else none
def q7W(l:List DQ)(i j:Nat):Option (Nat×Nat×Int):=
 match qm9 l i j 0 with
 | some w=>some w
 | none=>match qm9 l i j 1 with
  | some w=>some w
  | none=>qm9 l i j (-1)
def jT(l:List DQ):Option (Nat×Nat×Int):=
 match jQ (fun i=>qm9 l i i 0) 0 l.length with
 | some w=>some w
 | none=>jQ (fun i=>jQ (fun k=>q7W l i (i+1+k)) 0 (l.length-(i+1))) 0 l.length
end Go.Eng

namespace Go.Eng
theorem qAx(d a:DQ):yE d ⟨a.x,a.y,0,0,0⟩↔pw d a.x a.y≤0:=by
 have e1:kA d ⟨a.x,a.y,0,0,0⟩=pw d a.x a.y:=by unfold kA pw;grind
 have e2:kB d ⟨a.x,a.y,0,0,0⟩=0:=by unfold kB;grind
 unfold yE
 rw[e1,e2]
 simp only[qzr,qmb]
theorem qvA{d:DQ}{p q:SQ}(hA:kA d p=kA d q)(hB:kB d p=kB d q)(hh:p.h=q.h):yE d p↔yE d q:=by
 unfold yE;rw[hA,hB,hh]
theorem qpw{d:DQ}{p:SQ}(hh:p.h=0):yE d p↔kA d p≤0:=by
 unfold yE
 rw[hh,qum (by grind)]
 constructor
 ·rintro (⟨h,-⟩|⟨h1,h2,h3⟩)
  ·exact h
  ·have:=Rat.mul_pos h1 h1;grind
 ·intro h;exact .inl ⟨h,.inr (.inl rfl)⟩
theorem qzE{a b:DQ}(neg:Bool)(hf:q3E b.x b.y a.x a.y≠0) :
  (qo b a (!neg)).fx=(qo a b neg).fx∧(qo b a (!neg)).fy=(qo a b neg).fy∧(qo b a (!neg)).ax=(qo a b neg).ax∧(qo b a (!neg)).ay=(qo a b neg).ay∧(qo b a (!neg)).h=(qo a b neg).h:=by
 have hsw:q3E a.x a.y b.x b.y=q3E b.x b.y a.x a.y:=by unfold q3E;grind
 rw[qgW,qgW,hsw]
 generalize q3E b.x b.y a.x a.y=far at *
 have h2f:2*far≠0:=by grind
 have h1:(far+b.s-a.s)/(2*far)*(2*far)=far+b.s-a.s:=Rat.div_mul_cancel h2f
 have h2:(far+a.s-b.s)/(2*far)*(2*far)=far+a.s-b.s:=Rat.div_mul_cancel h2f
 have h3:a.s/far*far=a.s:=Rat.div_mul_cancel hf
 have h4:b.s/far*far=b.s:=Rat.div_mul_cancel hf
 generalize (far+b.s-a.s)/(2*far)=u at *
 generalize (far+a.s-b.s)/(2*far)=t at *
 generalize a.s/far=p at *
 generalize b.s/far=q at *
 have cancel:∀z:Rat,z*far=0→z=0:=fun z hz=>by
  rcases Rat.mul_eq_zero.1 hz with h|h
  ·exact h
  ·exact absurd h hf
 have hu:u=1-t:=by
  have:=cancel (u-(1-t)) (by grind)
  grind
 have hpq:q=p-t*t+(1-t)*(1-t):=by
  have:=cancel (q-(p-t*t+(1-t)*(1-t))) (by grind)
  grind
 simp only
 refine⟨by rw[hu];grind,by rw[hu];grind,?_,?_,by rw[hu,hpq];grind⟩
 ·cases neg<;>simp only[Bool.not_false,Bool.not_true,Bool.false_eq_true,if_false,if_true]<;>grind
 ·cases neg<;>simp only[Bool.not_false,Bool.not_true,Bool.false_eq_true,if_false,if_true]<;>grind
theorem qb9{l:List DQ}{d:DQ}(h:d∈l):∃i,i<l.length∧ix l i=d:=by
 obtain⟨i,hi,e⟩:=List.getElem_of_mem h
 exact⟨i,hi,by unfold ix;simp[List.getD_eq_getElem?_getD,hi,e]⟩
def Wit(l:List DQ):Prop:=(∃i,i<l.length∧q15 l i i 0=true)∨∃i j side,i<j∧j<l.length∧(side=0∨side=1∨side=-1)∧q15 l i j side=true
theorem qe2{l:List DQ}{i j:Nat}{side:Int}:q15 l i j side=true↔∃p,q84 (ix l i) (ix l j) (decide (i=j)) side=some p∧∀d∈l,yE d p:=by
 unfold q15
 cases h:q84 (ix l i) (ix l j) (decide (i=j)) side with
 | none=>simp
 | some p=>simp
theorem qCU{a b:DQ}{same:Bool}{side:Int}{p:SQ}(h:q84 a b same side=some p):0≤p.h:=by
 unfold q84 at h
 split at h
 ·split at h
  ·cases h;exact Rat.le_refl
  ·cases h
 ·split at h
  ·cases h
  ·split at h
   ·rename_i hc
    cases h;exact hc.1
   ·cases h
theorem qry{l:List DQ}{i j:Nat}{side:Int}(h:q15 l i j side=true):qkR l:=by
 obtain⟨p,h1,h2⟩:=qe2.1 h
 exact qtW (qCU h1) h2
theorem qwT{l:List DQ}(hl:l≠[])(hs:∀d∈l,0≤d.s)(hm:qkR l):Wit l:=by
 rcases qDk hl hs hm with⟨a,ha,h⟩|⟨a,ha,b,hb,neg,hf,h0,hk⟩
 ·obtain⟨i,hi,rfl⟩:=qb9 ha
  refine .inl ⟨i,hi,qe2.2 ⟨⟨(ix l i).x,(ix l i).y,0,0,0⟩,?_,fun d hd=>(qAx d _).2 (h d hd)⟩⟩
  unfold q84;simp
 ·have main:∀(i j:Nat) (neg:Bool),i<j→j<l.length→q3E (ix l j).x (ix l j).y (ix l i).x (ix l i).y≠0→0≤(qo (ix l i) (ix l j) neg).h→(∀d∈l,yE d (qo (ix l i) (ix l j) neg))→Wit l:=by
   intro i j neg hij hj hf h0 hk
   by_cases hz:(qo (ix l i) (ix l j) neg).h=0
   ·have hz':(qo (ix l i) (ix l j) false).h=0:=hz
    refine .inr ⟨i,j,0,hij,hj,.inl rfl,qe2.2 ⟨qo (ix l i) (ix l j) false,?_,fun d hd=>?_⟩⟩
    ·unfold q84
     rw[if_neg (by simp;omega),if_neg hf]
     simp[hz']
    ·have:=(qpw hz).1 (hk d hd)
     rw[qpw hz']
     have e:kA d (qo (ix l i) (ix l j) false)=kA d (qo (ix l i) (ix l j) neg):=by
      unfold kA;rw[hz,hz']
      have e1:(qo (ix l i) (ix l j) false).fx=(qo (ix l i) (ix l j) neg).fx:=rfl
      have e2:(qo (ix l i) (ix l j) false).fy=(qo (ix l i) (ix l j) neg).fy:=rfl
      rw[e1,e2];grind
     rw[e];exact this
   ·cases neg
    ·refine .inr ⟨i,j,1,hij,hj,.inr (.inl rfl),qe2.2 ⟨qo (ix l i) (ix l j) false,?_,hk⟩⟩
     unfold q84
     rw[if_neg (by simp;omega),if_neg hf]
     simp[hz,h0]
    ·refine .inr ⟨i,j,-1,hij,hj,.inr (.inr rfl),qe2.2 ⟨qo (ix l i) (ix l j) true,?_,hk⟩⟩
     unfold q84
     rw[if_neg (by simp;omega),if_neg hf]
     simp[hz,h0]
  obtain⟨i,hi,rfl⟩:=qb9 ha
  obtain⟨j,hj,rfl⟩:=qb9 hb
  rcases Nat.lt_trichotomy i j with hij|rfl|hij
  ·exact main i j neg hij hj hf h0 hk
  ·exact absurd (by unfold q3E;grind) hf
  ·obtain⟨e1,e2,e3,e4,e5⟩:=qzE neg hf
   refine main j i (!neg) hij hi ?_ (by rw[e5];exact h0) fun d hd=>?_
   ·intro h;apply hf;unfold q3E at *;grind
   ·refine(qvA ?_ ?_ e5).2 (hk d hd)
    ·unfold kA;rw[e1,e2,e3,e4,e5]
    ·unfold kB;rw[e1,e2,e3,e4]
theorem qkV{l:List DQ}{i j:Nat}{side:Int}{w:Nat×Nat×Int}(h:qm9 l i j side=some w):w=(i,j,side)∧q15 l i j side=true:=by
 unfold qm9 at h
 split at h
 ·cases h;exact⟨rfl,by assumption⟩
 ·cases h
theorem qkM{l:List DQ}{i j:Nat}{side:Int}(h:qm9 l i j side=none):q15 l i j side=false:=by
 unfold qm9 at h
 split at h
 ·cases h
 ·simp_all
theorem q3Z{α:Type}{f:Nat→Option α}{a:α}:∀{k i:Nat},jQ f i k=some a→∃j,i≤j∧j<i+k∧f j=some a∧∀m,i≤m→m<j→f m=none
 | 0,i,h=>by cases h
 | k+1,i,h=>by
  simp only[jQ] at h
  cases hf:f i with
  | some b=>rw[hf] at h;exact⟨i,Nat.le_refl _,by omega,by rw[hf];exact h,fun m h1 h2=>by omega⟩
  | none=>
   rw[hf] at h
   obtain⟨j,h1,h2,h3,h4⟩:=q3Z h
   refine⟨j,by omega,by omega,h3,fun m m1 m2=>?_⟩
   rcases Nat.eq_or_lt_of_le m1 with rfl|m1
   ·exact hf
   ·exact h4 m m1 m2
theorem qwL{l:List DQ}{i j:Nat}{w:Nat×Nat×Int}(h:q7W l i j=some w):∃side,w=(i,j,side)∧(side=0∨side=1∨side=-1)∧q15 l i j side=true:=by
 unfold q7W at h
 cases h0:qm9 l i j 0 with
 | some v=>rw[h0] at h;simp only at h;cases h;obtain⟨e1,e2⟩:=qkV h0;exact⟨0,e1,.inl rfl,e2⟩
 | none=>
  rw[h0] at h;simp only at h
  cases h1:qm9 l i j 1 with
  | some v=>rw[h1] at h;simp only at h;cases h;obtain⟨e1,e2⟩:=qkV h1;exact⟨1,e1,.inr (.inl rfl),e2⟩
  | none=>
   rw[h1] at h;simp only at h
   obtain⟨e1,e2⟩:=qkV h;exact⟨-1,e1,.inr (.inr rfl),e2⟩
theorem qxu{l:List DQ}{i j:Nat}(h:q7W l i j=none):∀side:Int,side=0∨side=1∨side=-1→q15 l i j side=false:=by
 unfold q7W at h
 cases h0:qm9 l i j 0 with
 | some v=>rw[h0] at h;cases h
 | none=>
  rw[h0] at h;simp only at h
  cases h1:qm9 l i j 1 with
  | some v=>rw[h1] at h;cases h
  | none=>
   rw[h1] at h;simp only at h
   rintro side (rfl|rfl|rfl)
   ·exact qkM h0
   ·exact qkM h1
   ·exact qkM h
theorem qxZ{l:List DQ}{w:Nat×Nat×Int}(h:jT l=some w):q15 l w.1 w.2.1 w.2.2=true∧w.1≤w.2.1∧w.2.1<l.length∧(w.2.2=0∨w.2.2=1∨w.2.2=-1)∧(w.1=w.2.1→w.2.2=0):=by
 unfold jT at h
 cases h0:jQ (fun i=>qm9 l i i 0) 0 l.length with
 | some v=>
  rw[h0] at h;simp only at h;cases h
  obtain⟨i,-,hi,hf,-⟩:=q3Z h0
  obtain⟨rfl,e⟩:=qkV hf
  exact⟨e,Nat.le_refl _,by simpa using hi,.inl rfl,fun _=>rfl⟩
 | none=>
  rw[h0] at h;simp only at h
  obtain⟨i,-,hi,hf,-⟩:=q3Z h
  obtain⟨k,-,hk,hf,-⟩:=q3Z hf
  obtain⟨side,rfl,h1,h2⟩:=qwL hf
  exact⟨h2,by simp only;omega,by simp only;omega,h1,fun h=>by simp only at h;omega⟩
theorem qxn{l:List DQ}(h:jT l=none):¬Wit l:=by
 unfold jT at h
 cases h0:jQ (fun i=>qm9 l i i 0) 0 l.length with
 | some v=>rw[h0] at h;cases h
 | none=>
  rw[h0] at h;simp only at h
  rintro (⟨i,hi,hp⟩|⟨i,j,side,hij,hj,hs,hp⟩)
  ·have:=qkM (q2Q h0 i (by omega) (by omega));simp_all
  ·have h1:=q2Q h i (by omega) (by omega)
   have h2:=q2Q h1 (j-(i+1)) (by omega) (by omega)
   simp only[show i+1+(j-(i+1))=j by omega] at h2
   have:=qxu h2 side hs;simp_all
theorem qsJ{l:List DQ}(hl:l≠[])(hs:∀d∈l,0≤d.s):(jT l).isSome=true↔qkR l:=by
 constructor
 ·intro h
  cases hf:jT l with
  | none=>rw[hf] at h;cases h
  | some w=>exact qry (qxZ hf).1
 ·intro h
  cases hf:jT l with
  | none=>exact absurd (qwT hl hs h) (qxn hf)
  | some w=>rfl
theorem qDL{d:DQ}(h:0≤d.s):qkR [d]:=⟨d.x,d.y,fun e he=>by simp at he;rw[he];unfold pw;grind⟩
theorem qD4{l:List DQ}(hs:∀d∈l,0≤d.s)(h2:∀i j,i<j→j<l.length→qkR [ix l i,ix l j])(h3:∀i j k,i<j→j<k→k<l.length→qkR [ix l i,ix l j,ix l k]):qkR l:=by
 refine qFZ l.length l (Nat.le_refl _) fun x hx y hy z hz=>?_
 obtain⟨i,hi,rfl⟩:=qb9 hx
 obtain⟨j,hj,rfl⟩:=qb9 hy
 obtain⟨k,hk,rfl⟩:=qb9 hz
 have p2:∀i j,i<l.length→j<l.length→qkR [ix l i,ix l j]:=fun i j hi hj=>by
  rcases Nat.lt_trichotomy i j with h|rfl|h
  ·exact h2 i j h hj
  ·exact(qDL (hs _ (qdV hi))).mono (by simp)
  ·exact(h2 j i h hi).mono (by simp<;>grind)
 rcases Nat.lt_trichotomy i j with h|rfl|h
 ·rcases Nat.lt_trichotomy j k with g|rfl|g
  ·exact h3 i j k h g hk
  ·exact(p2 i j hi hj).mono (by simp)
  ·rcases Nat.lt_trichotomy i k with f|rfl|f
   ·exact(h3 i k j f g hj).mono (by simp<;>grind)
   ·exact(p2 i j hi hj).mono (by simp<;>grind)
   ·exact(h3 k i j f h hj).mono (by simp<;>grind)
 ·exact(p2 i k hi hk).mono (by simp<;>grind)
 ·rcases Nat.lt_trichotomy i k with g|rfl|g
  ·exact(h3 j i k h g hk).mono (by simp<;>grind)
  ·exact(p2 i j hi hj).mono (by simp<;>grind)
  ·rcases Nat.lt_trichotomy j k with f|rfl|f
   ·exact(h3 j k i f g hi).mono (by simp<;>grind)
   ·exact(p2 i j hi hj).mono (by simp<;>grind)
   ·exact(h3 k j i f h hi).mono (by simp<;>grind)
end Go.Eng

namespace Go.Eng
def GDs(l:List DQ):Prop:=∀d∈l,GD d
theorem GDs.ix{l:List DQ}(h:GDs l){i:Nat}(hi:i<l.length):GD (ix l i):=h _ (qdV hi)
theorem qBc(q:Rat):(seq (tQ q) [48]=true)=(q=0):=by rw[zW,qpR]
theorem qmr(q:Rat):(0:Int)<qu (tQ q):=by
 have h1:=qpD q
 have h2:=qqq q
 unfold qu;omega
theorem qGr(i:Nat):((i:Int)=(i:Int))=True:=by simp
def plc(p:SQ):List PV:=[.s (tQ p.fx),.s (tQ p.fy),.s (tQ p.ax),.s (tQ p.ay),.s (tQ p.h)]
theorem qmR(q:Rat):(¬(tQ q).getD 0 0=45)=(0≤q):=by
 by_cases h:0≤q
 ·exact propext ⟨fun _=>h,fun _=>qEP h⟩
 ·have:=qFr (c:=q) (by grind)
  exact propext ⟨fun h'=>absurd this h',fun h'=>absurd h' h⟩
theorem qBn(b:Bool)(p q:Prop)[Decidable p][Decidable q](hb:(b=true)=p):(Go.Eng.beq b (decide q))=decide (p↔q):=by
 subst hb
 by_cases hq:q<;>cases b<;>simp[Go.Eng.beq,hq]<;>rfl
set_option maxHeartbeats 2000000 in
theorem qEp{l:List DQ}(hl:GDs l){i j:Nat}(hi:i<l.length)(hj:j<l.length)(side:Int) :
  (q84 (ix l i) (ix l j) (decide (i=j)) side=none∧∃a b c d e,(vS [.r (rD l),.i (i:Int),.i (j:Int),.i side,.i 0]).run=some (0,[.s a,.s b,.s c,.s d,.s e,.b false,.i 0])) ∨
  ∃p,q84 (ix l i) (ix l j) (decide (i=j)) side=some p∧(vS [.r (rD l),.i (i:Int),.i (j:Int),.i side,.i 0]).run=some (0,plc p++[.b true,.i 0]):=by
 rw[qjE]
 obtain⟨x1,x2,x3⟩:=qgE hi
 obtain⟨y1,y2,y3⟩:=qgE hj
 have ga:=hl.ix hi
 have gb:=hl.ix hj
 have bi:0≤(i:Int)∧(i:Int)<qh (rD l):=by rw[qB];omega
 have bj:0≤(j:Int)∧(j:Int)<qh (rD l):=by rw[qB];omega
 obtain⟨a,ha⟩:∃a,a=ix l i:=⟨_,rfl⟩
 obtain⟨b,hb⟩:∃b,b=ix l j:=⟨_,rfl⟩
 rw[←ha] at x1 x2 x3 ga ⊢
 rw[←hb] at y1 y2 y3 gb ⊢
 simp only[x1,x2,x3,y1,y2,y3]
 clear x1 x2 x3 y1 y2 y3 hb
 unfold q84 plc
 by_cases hij:i=j
 ·subst hij
  have z:tQ 0=[48]:=rfl
  by_cases hs:side=0
  ·subst hs
   right
   refine⟨⟨a.x,a.y,0,0,0⟩,by simp,?_⟩
   have e:ieq 0 0=true:=rfl
   simp only[STD,bi,and_self,z,e]
   rfl
  ·left
   refine⟨by simp[hs],tQ a.x,tQ a.y,[48],[48],[48],?_⟩
   have e:ieq side 0=false:=by simp[ieq,hs]
   simp only[STD,bi,and_self,e]
 ·have hij':¬(i:Int)=(j:Int):=by omega
  obtain⟨a1,a2,a3⟩:=ga.sh
  obtain⟨b1,b2,b3⟩:=gb.sh
  have dx:=q4F b1 a1
  have dy:=q4F b2 a2
  have far:=qqR b1 b2 a1 a2
  have h0:=qE5 b1 b2 a1 a2 (by omega) (by omega) (by omega)
  have h1:=qDb dx dy dx dy (by omega) (by omega)
  have hfd:(b.x-a.x)*(b.x-a.x)+(b.y-a.y)*(b.y-a.y)=q3E b.x b.y a.x a.y:=rfl
  rw[hfd] at h1
  by_cases hf:q3E b.x b.y a.x a.y=0
  ·left
   refine⟨by simp[hij,hf],[],[],[],[],[],?_⟩
   simp only[STD,bi,bj,and_self,hij',h0,h1,qBc,hf]
  ·have hpb:=fun neg=>qll ga gb neg hf
   have ht:=qxv ga gb hf
   have n1:bnd 98 90 (q3E b.x b.y a.x a.y+a.s):=far.add a3 (by omega) (by omega)
   have h2:=qAC far a3 (by omega) (by omega) (by omega)
   have n2:bnd 112 100 (q3E b.x b.y a.x a.y+a.s-b.s):=n1.sub b3 (by omega) (by omega)
   have h3:=qxV n1 b3 (by omega) (by omega) (by omega)
   have h4:=qwi qjx far (by omega) (by omega)
   rw[qz5] at h4
   have n4:=qjx.mul far
   have hf2:2*q3E b.x b.y a.x a.y≠0:=by grind
   have h5:=qFK hf2 n2 n4 (by omega) (by omega)
   have h6:=qwi ht dx (by omega) (by omega)
   have h7:=qAC a1 (ht.mul dx) (by omega) (by omega) (by omega)
   have h8:=qwi ht dy (by omega) (by omega)
   have h9:=qAC a2 (ht.mul dy) (by omega) (by omega) (by omega)
   have h10:=qxV qc9 dy (by omega) (by omega) (by omega)
   have h14:=qxV qc9 dx (by omega) (by omega) (by omega)
   rw[show tQ 0=[48] from rfl] at h10 h14
   have h11:=qFK hf a3 far (by omega) (by omega)
   have h12:=qwi ht ht (by omega) (by omega)
   have h13:=qxV (a3.div hf far) (ht.mul ht) (by omega) (by omega) (by omega)
   have hbd:=fun (q:Rat)=>qBn (seq (tQ q) [48]) (q=0) (side=0) (qBc q)
   have hie:ieq side 0=decide (side=0):=rfl
   rw[if_neg (by simp[hij]),if_neg hf]
   obtain⟨p,hcr'⟩:∃p,p=qo a b (decide (side<0)):=⟨_,rfl⟩
   rw[←hcr']
   have hcr:=hcr'.symm
   clear hcr'
   rw[qgW] at hcr
   obtain⟨t,htt⟩:∃t,t=(q3E b.x b.y a.x a.y+a.s-b.s)/(2*q3E b.x b.y a.x a.y):=⟨_,rfl⟩
   rw[←htt] at hcr h5 h6 h7 h8 h9 h12 h13
   obtain⟨h,hh⟩:∃h,h=a.s/q3E b.x b.y a.x a.y-t*t:=⟨_,rfl⟩
   rw[←hh] at hcr h13
   have hp5:p.h=h:=by rw[←hcr]
   by_cases hs:side<0
   ·simp only[hs,decide_true,if_true] at hcr
    by_cases hn:0≤h
    ·by_cases hz:(h=0↔side=0)
     ·right
      refine⟨p,by rw[if_pos ⟨by rw[hp5];exact hn,by rw[hp5];exact hz⟩],?_⟩
      rw[←hcr]
      simp only[STD,bi,bj,and_self,hij',h0,h1,h2,h3,h4,h5,h6,h7,h8,h9,h10,h11,h12,h13,h14,qBc,hf,hs,Int.le_refl,qmr,qlI,qmR,hn,hie,hbd,hz,decide_true]
      rfl
     ·left
      refine⟨by rw[if_neg (by rw[hp5];exact fun c=>hz c.2)],tQ p.fx,tQ p.fy,tQ p.ax,tQ p.ay,tQ p.h,?_⟩
      rw[←hcr]
      simp only[STD,bi,bj,and_self,hij',h0,h1,h2,h3,h4,h5,h6,h7,h8,h9,h10,h11,h12,h13,h14,qBc,hf,hs,Int.le_refl,qmr,qlI,qmR,hn,hie,hbd,hz,decide_false]
    ·left
     refine⟨by rw[if_neg (by rw[hp5];exact fun c=>hn c.1)],tQ p.fx,tQ p.fy,tQ p.ax,tQ p.ay,tQ p.h,?_⟩
     rw[←hcr]
     simp only[STD,bi,bj,and_self,hij',h0,h1,h2,h3,h4,h5,h6,h7,h8,h9,h10,h11,h12,h13,h14,qBc,hf,hs,Int.le_refl,qmr,qlI,qmR,hn]
   ·simp only[hs,decide_false,Bool.false_eq_true,if_false] at hcr
    by_cases hn:0≤h
    ·by_cases hz:(h=0↔side=0)
     ·right
      refine⟨p,by rw[if_pos ⟨by rw[hp5];exact hn,by rw[hp5];exact hz⟩],?_⟩
      rw[←hcr]
      simp only[STD,bi,bj,and_self,hij',h0,h1,h2,h3,h4,h5,h6,h7,h8,h9,h10,h11,h12,h13,h14,qBc,hf,hs,Int.le_refl,qmr,qlI,qmR,hn,hie,hbd,hz,decide_true]
      rfl
     ·left
      refine⟨by rw[if_neg (by rw[hp5];exact fun c=>hz c.2)],tQ p.fx,tQ p.fy,tQ p.ax,tQ p.ay,tQ p.h,?_⟩
      rw[←hcr]
      simp only[STD,bi,bj,and_self,hij',h0,h1,h2,h3,h4,h5,h6,h7,h8,h9,h10,h11,h12,h13,h14,qBc,hf,hs,Int.le_refl,qmr,qlI,qmR,hn,hie,hbd,hz,decide_false]
    ·left
     refine⟨by rw[if_neg (by rw[hp5];exact fun c=>hn c.1)],tQ p.fx,tQ p.fy,tQ p.ax,tQ p.ay,tQ p.h,?_⟩
     rw[←hcr]
     simp only[STD,bi,bj,and_self,hij',h0,h1,h2,h3,h4,h5,h6,h7,h8,h9,h10,h11,h12,h13,h14,qBc,hf,hs,Int.le_refl,qmr,qlI,qmR,hn]
end Go.Eng

namespace Go.Eng
theorem qAc{a b:DQ}(ga:GD a)(gb:GD b) :
  (q1B [.s (tQ a.x),.s (tQ a.y),.s (tQ a.s),.s (tQ b.x),.s (tQ b.y),.s (tQ b.s)]).run=some (0,if q3E b.x b.y a.x a.y=0 then [.s [],.s [],.s [],.s [],.s [],.b false] else plc (qo a b false)++[.b (decide (0≤(qo a b false).h))]):=by
 rw[qn9]
 obtain⟨a1,a2,a3⟩:=ga.sh
 obtain⟨b1,b2,b3⟩:=gb.sh
 have dx:=q4F b1 a1
 have dy:=q4F b2 a2
 have far:=qqR b1 b2 a1 a2
 have h0:=qCc (b1.sm (by omega) (by omega)) (b2.sm (by omega) (by omega)) (a1.sm (by omega) (by omega)) (a2.sm (by omega) (by omega))
 have s1:=dx.sm (K:=100) (by omega) (by omega)
 have s2:=dy.sm (K:=100) (by omega) (by omega)
 have h1:=qDH (K:=100) (by omega) s1 s2 s1 s2
 have hfd:(b.x-a.x)*(b.x-a.x)+(b.y-a.y)*(b.y-a.y)=q3E b.x b.y a.x a.y:=rfl
 rw[hfd] at h1
 by_cases hf:q3E b.x b.y a.x a.y=0
 ·rw[if_pos hf]
  simp only[STD,h0,h1,qBc,hf]
 ·rw[if_neg hf]
  have ht:=qxv ga gb hf
  have n1:bnd 98 90 (q3E b.x b.y a.x a.y+a.s):=far.add a3 (by omega) (by omega)
  have h2:=q8c (far.sm (by omega) (by omega)) (a3.sm (by omega) (by omega))
  have n2:bnd 112 100 (q3E b.x b.y a.x a.y+a.s-b.s):=n1.sub b3 (by omega) (by omega)
  have h3:=q38 (n1.sm (by omega) (by omega)) (b3.sm (by omega) (by omega))
  have h4:=vL (qjx.sm (by omega) (by omega)) (far.sm (by omega) (by omega))
  rw[qz5] at h4
  have n4:=qjx.mul far
  have hf2:2*q3E b.x b.y a.x a.y≠0:=by grind
  have h5:=qsH hf2 (n2.sm (by omega) (by omega)) (n4.sm (by omega) (by omega))
  have h6:=qsH hf (a3.sm (by omega) (by omega)) (far.sm (by omega) (by omega))
  have h7:=vL (ht.sm (by omega) (by omega)) (ht.sm (by omega) (by omega))
  have h8:=q38 ((a3.div hf far).sm (by omega) (by omega)) ((ht.mul ht).sm (by omega) (by omega))
  have n8:=(a3.div hf far).sub (ht.mul ht) (K:=314) (by omega) (by omega)
  have h9:=vL (ht.sm (by omega) (by omega)) (dx.sm (by omega) (by omega))
  have h10:=q8c (a1.sm (by omega) (by omega)) ((ht.mul dx).sm (by omega) (by omega))
  have h11:=vL (ht.sm (by omega) (by omega)) (dy.sm (by omega) (by omega))
  have h12:=q8c (a2.sm (by omega) (by omega)) ((ht.mul dy).sm (by omega) (by omega))
  have h13:=qd6 (dy.sm (by omega) (by omega))
  have h14:=q7C (n8.sm (by omega) (by omega))
  have hle:∀q:Rat,ile 0 (sgq q)=decide (0≤q):=fun q=>by
   unfold ile
   rcases q8e q with⟨h,e⟩|⟨h,e⟩|⟨h,e⟩<;>rw[e]
   ·simp;grind
   ·simp[h]
   ·simp;grind
  rw[qgW]
  unfold plc
  simp only[STD,h0,h1,h2,h3,h4,h5,h6,h7,h8,h9,h10,h11,h12,h13,h14,qBc,hf,hle,qGu]
  rfl
theorem qt8(a b:DQ)(neg:Bool):(qo a b neg).h=(qo a b false).h:=rfl
theorem qBo{l:List DQ}(hl:GDs l){i j:Nat}(hi:i<l.length)(hj:j<l.length)(side:Int) :
  (q84 (ix l i) (ix l j) (decide (i=j)) side=none∧∃a b c d e,(uy [.r (rD l),.i (i:Int),.i (j:Int),.i side]).run=some (0,[.s a,.s b,.s c,.s d,.s e,.b false])) ∨
  ∃p,q84 (ix l i) (ix l j) (decide (i=j)) side=some p∧(uy [.r (rD l),.i (i:Int),.i (j:Int),.i side]).run=some (0,plc p++[.b true]):=by
 rw[qo2]
 obtain⟨x1,x2,x3⟩:=qgE hi
 obtain⟨y1,y2,y3⟩:=qgE hj
 have ga:=hl.ix hi
 have gb:=hl.ix hj
 have bi:0≤(i:Int)∧(i:Int)<qh (rD l):=by rw[qB];omega
 have bj:0≤(j:Int)∧(j:Int)<qh (rD l):=by rw[qB];omega
 obtain⟨a,ha⟩:∃a,a=ix l i:=⟨_,rfl⟩
 obtain⟨b,hb⟩:∃b,b=ix l j:=⟨_,rfl⟩
 rw[←ha] at x1 x2 x3 ga ⊢
 rw[←hb] at y1 y2 y3 gb ⊢
 have hc:=qAc ga gb
 simp only[x1,x2,x3,y1,y2,y3]
 clear x1 x2 x3 y1 y2 y3 hb
 unfold q84 plc
 by_cases hij:i=j
 ·subst hij
  have z:tQ 0=[48]:=rfl
  by_cases hs:side=0
  ·subst hs
   right
   refine⟨⟨a.x,a.y,0,0,0⟩,by simp,?_⟩
   have e:ieq 0 0=true:=rfl
   simp only[STD,bi,and_self,z,e]
   rfl
  ·left
   refine⟨by simp[hs],tQ a.x,tQ a.y,[48],[48],[48],?_⟩
   have e:ieq side 0=false:=by simp[ieq,hs]
   simp only[STD,bi,and_self,e]
 ·have hij':¬(i:Int)=(j:Int):=by omega
  by_cases hf:q3E b.x b.y a.x a.y=0
  ·left
   rw[if_pos hf] at hc
   refine⟨by simp[hij,hf],[],[],[],[],[],?_⟩
   simp only[STD,bi,bj,and_self,hij',hc]
  ·rw[if_neg hf] at hc
   have hpl:∀(p:SQ) (x:PV),plc p++[x]=[.s (tQ p.fx),.s (tQ p.fy),.s (tQ p.ax),.s (tQ p.ay),.s (tQ p.h),x]:=fun _ _=>rfl
   rw[hpl] at hc
   have hbd:=fun (q:Rat)=>qBn (seq (tQ q) [48]) (q=0) (side=0) (qBc q)
   have hie:ieq side 0=decide (side=0):=rfl
   rw[if_neg (by simp[hij]),if_neg hf,qt8]
   by_cases hn:0≤(qo a b false).h
   ·by_cases hz:((qo a b false).h=0↔side=0)
    ·right
     refine⟨qo a b (decide (side<0)),by rw[if_pos ⟨hn,hz⟩],?_⟩
     by_cases hs:side<0
     ·have dx:=q4F (zV gb.x) (zV ga.x)
      have dy:=q4F (zV gb.y) (zV ga.y)
      have t1:=qd6 (a:=(qo a b false).ax) (by show sm _ (0-(b.y-a.y));rw[qGu];exact dy.neg.sm (by omega) (by omega))
      have t2:=qd6 (a:=(qo a b false).ay) (by show sm _ (b.x-a.x);exact dx.sm (by omega) (by omega))
      obtain⟨f1,f2⟩:=qsf a b
      simp only[STD,bi,bj,and_self,hij',hc,hn,hie,hbd,hz,hs,decide_true,t1,t2,f1,f2]
      rfl
     ·simp only[STD,bi,bj,and_self,hij',hc,hn,hie,hbd,hz,hs,decide_true,decide_false]
      rfl
    ·left
     refine⟨by rw[if_neg (fun c=>hz c.2)],[],[],[],[],[],?_⟩
     simp only[STD,bi,bj,and_self,hij',hc,hn,hie,hbd,hz,decide_true,decide_false]
   ·left
    refine⟨by rw[if_neg (fun c=>hn c.1)],[],[],[],[],[],?_⟩
    simp only[STD,bi,bj,and_self,hij',hc,hn,decide_false]
theorem qAP{α:Type}(p:Nat→Bool)(g:Nat→α)(n:Nat):(jQ (fun i=>if p i=true then none else some (g i)) 0 n=none∧∀i,i<n→p i=true)∨∃i,i<n∧p i=false∧jQ (fun i=>if p i=true then none else some (g i)) 0 n=some (g i):=by
 cases h:jQ (fun i=>if p i=true then none else some (g i)) 0 n with
 | none=>
  refine .inl ⟨rfl,fun i hi=>?_⟩
  have:=q2Q h i (by omega) (by omega)
  cases hp:p i
  ·rw[hp] at this;simp at this
  ·rfl
 | some a=>
  obtain⟨j,-,hj,hf,-⟩:=q3Z h
  cases hp:p j
  ·rw[hp] at hf;simp at hf
   exact .inr ⟨j,by omega,hp,by rw[hf]⟩
  ·rw[hp] at hf;simp at hf
theorem qBd(l:List DQ)(p:DQ→Bool):l.all p=true↔∀i,i<l.length→p (ix l i)=true:=by
 rw[List.all_eq_true]
 constructor
 ·intro h i hi;exact h _ (qdV hi)
 ·intro h d hd
  obtain⟨i,hi,rfl⟩:=qb9 hd
  exact h i hi
theorem qCu{l:List DQ}{p:DQ→Bool}{i:Nat}(hi:i<l.length)(h:p (ix l i)=false):l.all p=false:=by
 cases ha:l.all p
 ·rfl
 ·have:=(qBd l p).1 ha i hi;simp_all
theorem qze{l:List DQ}(hl:GDs l)(hn:l.length<1000000){i j:Nat}(hi:i<l.length)(hj:j<l.length)(side:Int) :
  (zm [.r (rD l),.i (i:Int),.i (j:Int),.i side,.i 0]).run=some (0,[.b (q15 l i j side),.i 0]):=by
 rw[qih]
 unfold q15
 rcases qEp hl hi hj side with⟨h1,a,b,c,d,e,h2⟩|⟨p,h1,h2⟩
 ·rw[h1]
  simp only[STD,h2]
 ·rw[h1]
  have hp:=qyg (hl.ix hi) (hl.ix hj) h1
  unfold plc at h2
  simp only[List.cons_append,List.nil_append] at h2
  have key:=qdM (S:=wQ)
   (fun k=>[.r (rD l),.i (qh (rD l)),.i (k:Int),.r (rD l),.r (rD l),.r (rD l),.i (i:Int),.i (j:Int),.i side,.b true,.s (tQ p.fx),.s (tQ p.fy),.s (tQ p.ax),.s (tQ p.ay),.s (tQ p.h),.b true,.r (rD l),.i (i:Int),.i (j:Int),.i side,.s (tQ p.fx),.s (tQ p.fy),.s (tQ p.ax),.s (tQ p.ay),.s (tQ p.h),.b true,.s (tQ p.fx),.s (tQ p.fy),.s (tQ p.ax),.s (tQ p.ay),.s (tQ p.h),.b true,.b true,.r (rD l),.i 0,.i (i:Int),.i (j:Int),.i side,.s (tQ p.fx),.s (tQ p.fy),.s (tQ p.ax),.s (tQ p.ay),.s (tQ p.h)])
   (fun k=>if decide (yE (ix l k) p)=true then none else some (1,[.i (k:Int),.r (rD l),.r (rD l),.r (rD l),.i (i:Int),.i (j:Int),.i side,.b true,.s (tQ p.fx),.s (tQ p.fy),.s (tQ p.ax),.s (tQ p.ay),.s (tQ p.h),.b true,.r (rD l),.i (i:Int),.i (j:Int),.i side,.s (tQ p.fx),.s (tQ p.fy),.s (tQ p.ax),.s (tQ p.ay),.s (tQ p.h),.b true,.s (tQ p.fx),.s (tQ p.fy),.s (tQ p.ax),.s (tQ p.ay),.s (tQ p.h),.b true,.b true,.r (rD l),.i 0,.i (i:Int),.i (j:Int),.i side,.s (tQ p.fx),.s (tQ p.fy),.s (tQ p.ax),.s (tQ p.ay),.s (tQ p.h)]))
   (0,[.r (rD l),.r (rD l),.r (rD l),.i (i:Int),.i (j:Int),.i side,.b true,.s (tQ p.fx),.s (tQ p.fy),.s (tQ p.ax),.s (tQ p.ay),.s (tQ p.h),.b true,.r (rD l),.i (i:Int),.i (j:Int),.i side,.s (tQ p.fx),.s (tQ p.fy),.s (tQ p.ax),.s (tQ p.ay),.s (tQ p.h),.b true,.s (tQ p.fx),.s (tQ p.fy),.s (tQ p.ax),.s (tQ p.ay),.s (tQ p.h),.b true,.b true,.r (rD l),.i 0,.i (i:Int),.i (j:Int),.i side,.s (tQ p.fx),.s (tQ p.fy),.s (tQ p.ax),.s (tQ p.ay),.s (tQ p.h)])
   l.length (by omega)
   (fun k hk hf=>by
    rw[uL]
    obtain⟨x1,x2,x3⟩:=qgE hk
    have hK:=qAO (hl.ix hk) hp
    by_cases hd:yE (ix l k) p
    ·simp only[x1,x2,x3,STD,hK,hd,qB,kI hk (show l.length<9223372036854775808 by omega),show (k:Int)<(l.length:Int) by omega,show (0:Int)≤(k:Int) by omega,and_self,decide_true]
    ·simp[hd] at hf)
   (fun k r hk hf=>by
    rw[uL]
    obtain⟨x1,x2,x3⟩:=qgE hk
    have hK:=qAO (hl.ix hk) hp
    by_cases hd:yE (ix l k) p
    ·simp[hd] at hf
    ·simp only[hd,decide_false,Bool.false_eq_true,if_false,Option.some.injEq] at hf
     subst hf
     simp only[x1,x2,x3,STD,hK,hd,qB,show (k:Int)<(l.length:Int) by omega,show (0:Int)≤(k:Int) by omega,and_self,decide_false])
   (by rw[uL];simp only[STD,qB,show ¬(l.length:Int)<(l.length:Int) by omega])
  rcases qAP (fun k=>decide (yE (ix l k) p)) (fun k=>((1,[.i (k:Int),.r (rD l),.r (rD l),.r (rD l),.i (i:Int),.i (j:Int),.i side,.b true,.s (tQ p.fx),.s (tQ p.fy),.s (tQ p.ax),.s (tQ p.ay),.s (tQ p.h),.b true,.r (rD l),.i (i:Int),.i (j:Int),.i side,.s (tQ p.fx),.s (tQ p.fy),.s (tQ p.ax),.s (tQ p.ay),.s (tQ p.h),.b true,.s (tQ p.fx),.s (tQ p.fy),.s (tQ p.ax),.s (tQ p.ay),.s (tQ p.h),.b true,.b true,.r (rD l),.i 0,.i (i:Int),.i (j:Int),.i side,.s (tQ p.fx),.s (tQ p.fy),.s (tQ p.ax),.s (tQ p.ay),.s (tQ p.h)]):Nat×List PV)) l.length with⟨s1,s2⟩|⟨k,hk,s2,s1⟩
  ·rw[s1] at key
   have hall:(l.all fun d=>decide (yE d p))=true:=(qBd l _).2 s2
   simp only[Option.getD_none] at key
   simp only[STD,h2,hall]
   have key':=key
   simp only[show ((0:Nat):Int)=0 from rfl] at key'
   simp only[STD,key',qD key',show ieq 0 0=true from rfl]
  ·rw[s1] at key
   have hall:=qCu (p:=fun d=>decide (yE d p)) hk s2
   simp only[Option.getD_some] at key
   simp only[STD,h2,hall]
   have key':=key
   simp only[show ((0:Nat):Int)=0 from rfl] at key'
   simp only[STD,key',qD key',show ¬(1=0) by omega,show (0:Int)≤(k:Int) by omega]
theorem qyj{l:List DQ}(hl:GDs l)(hn:l.length<1000000){i j:Nat}(hi:i<l.length)(hj:j<l.length)(side:Int) :
  (vE [.r (rD l),.i (i:Int),.i (j:Int),.i side]).run=some (0,[.b (q15 l i j side)]):=by
 rw[qpi]
 unfold q15
 rcases qBo hl hi hj side with⟨h1,a,b,c,d,e,h2⟩|⟨p,h1,h2⟩
 ·rw[h1]
  simp only[STD,h2]
 ·rw[h1]
  have hp:=qyg (hl.ix hi) (hl.ix hj) h1
  unfold plc at h2
  simp only[List.cons_append,List.nil_append] at h2
  have key:=qdM (S:=q1O)
   (fun k=>[.r (rD l),.i (k:Int),.s (tQ p.fx),.s (tQ p.fy),.s (tQ p.ax),.s (tQ p.ay),.s (tQ p.h)])
   (fun k=>if decide (yE (ix l k) p)=true then none else some (1,[.b false]))
   (0,[]) l.length (by omega)
   (fun k hk hf=>by
    rw[q7e]
    obtain⟨x1,x2,x3⟩:=qgE hk
    have hK:=qC7 (hl.ix hk) hp.pb
    by_cases hd:yE (ix l k) p
    ·simp only[x1,x2,x3,STD,hK,hd,qB,kI hk (show l.length<9223372036854775808 by omega),show (k:Int)<(l.length:Int) by omega,show (0:Int)≤(k:Int) by omega,and_self,decide_true]
    ·simp[hd] at hf)
   (fun k r hk hf=>by
    rw[q7e]
    obtain⟨x1,x2,x3⟩:=qgE hk
    have hK:=qC7 (hl.ix hk) hp.pb
    by_cases hd:yE (ix l k) p
    ·simp[hd] at hf
    ·simp only[hd,decide_false,Bool.false_eq_true,if_false,Option.some.injEq] at hf
     subst hf
     simp only[x1,x2,x3,STD,hK,hd,qB,show (k:Int)<(l.length:Int) by omega,show (0:Int)≤(k:Int) by omega,and_self,decide_false])
   (by rw[q7e];simp only[STD,qB,show ¬(l.length:Int)<(l.length:Int) by omega])
  rcases qAP (fun k=>decide (yE (ix l k) p)) (fun k=>((1,[.b false]):Nat×List PV)) l.length with⟨s1,s2⟩|⟨k,hk,s2,s1⟩
  ·rw[s1] at key
   have hall:(l.all fun d=>decide (yE d p))=true:=(qBd l _).2 s2
   simp only[Option.getD_none,show ((0:Nat):Int)=0 from rfl] at key
   simp only[STD,h2,hall,key,qD key]
  ·rw[s1] at key
   have hall:=qCu (p:=fun d=>decide (yE d p)) hk s2
   simp only[Option.getD_some,show ((0:Nat):Int)=0 from rfl] at key
   simp only[STD,h2,hall,key,qD key,show ¬(1=0) by omega]
end Go.Eng

namespace Go.Eng
theorem uJ{S:List PV→TR}{α:Type}(st:Nat→List PV)(f:Nat→Option α)(g:α→List PV)(fin:List PV)(n:Nat)(hn:n<9223372036854775808)
  (h:∀i,i<n→(S (st i)).run=(f i).elim (some (0,st (i+1))) (fun a=>some (2,g a))) (h3:(S (st n)).run=some (1,fin)) :
  (qg S (st 0)).run=some ((jQ f 0 n).elim (0,fin) (fun a=>(1,g a))):=by
 have key:=qdM st (fun i=>(f i).map fun a=>(1,g a)) (0,fin) n hn (fun i hi hf=>by
  rw[h i hi]
  cases hfi:f i with
  | none=>rfl
  | some a=>rw[hfi] at hf;cases hf) (fun i r hi hf=>by
  rw[h i hi]
  cases hfi:f i with
  | none=>rw[hfi] at hf;cases hf
  | some a=>rw[hfi] at hf;simp at hf;rw[←hf];rfl) h3
 rw[key,qoC]
 cases jQ f 0 n<;>rfl
def sd(s:Nat):Int:=cI [[.i 0],[.i 1],[.i (-1)]] (s:Int) 0
theorem qs2(l:List DQ)(i j:Nat):jQ (fun s=>qm9 l i j (sd s)) 0 3=q7W l i j:=by
 have e0:sd 0=0:=rfl
 have e1:sd 1=1:=rfl
 have e2:sd 2=-1:=rfl
 simp only[jQ,e0,e1,e2]
 unfold q7W
 cases qm9 l i j 0
 ·cases qm9 l i j 1
  ·cases qm9 l i j (-1)<;>rfl
  ·rfl
 ·rfl
def dex(l:List DQ)(w:Nat×Nat×Int):List PV:=[.i 0,.r (rD l),.i (w.1:Int),.i (w.2.1:Int),.i w.2.2,.b true,.i (l.length:Int)]
def rex(w:Nat×Nat×Int):List PV:=[.b true,.i (w.1:Int),.i (w.2.1:Int),.i w.2.2]
def fW(o:Option (Nat×Nat×Int)):List PV:=o.elim [.i 0,.i 0,.i 0,.b false] (fun w=>[.i (w.1:Int),.i (w.2.1:Int),.i w.2.2,.b true])
theorem n3:qh [[U.i 0],[U.i 1],[U.i (-1)]]=3:=rfl
set_option maxHeartbeats 600000 in
theorem qx0{l:List DQ}(hl:GDs l)(hn:l.length<1000000):(qG [.r (rD l),.i 0]).run=some (0,fW (jT l)++[.i 0]):=by
 rw[qjW]
 have big:l.length<9223372036854775808:=by omega
 have A:=uJ (S:=vk) (fun k=>[.i (l.length:Int),.i (k:Int),.i 0,.r (rD l),.i 0,.i 0,.i 0,.b false,.i (l.length:Int)]) (fun k=>qm9 l k k 0) (dex l)
  [.i 0,.r (rD l),.i 0,.i 0,.i 0,.b false,.i (l.length:Int)] l.length big
  (fun k hk=>by
   rw[q4m]
   have hp:=qze hl hn hk hk 0
   unfold qm9
   by_cases c:q15 l k k 0=true
   ·rw[if_pos c]
    simp only[STD,hp,c,show (k:Int)<(l.length:Int) by omega,dex]
   ·rw[if_neg c]
    simp only[STD,hp,c,show (k:Int)<(l.length:Int) by omega,kI hk big]
    rfl)
  (by rw[q4m];simp only[STD,show ¬(l.length:Int)<(l.length:Int) by omega])
 have B:=fun i j (hi:i<l.length) (hj:j<l.length)=>uJ (S:=wH) (fun s=>[.i (i:Int),.i (j:Int),.i (l.length:Int),.i (i:Int),.i 3,.i (s:Int),.i 0,.r (rD l),.i 0,.i 0,.i 0,.b false,.i (l.length:Int),.r [[.i 0],[.i 1],[.i (-1)]]]) (fun s=>qm9 l i j (sd s)) (dex l)
  [.i (i:Int),.i (j:Int),.i (l.length:Int),.i (i:Int),.i 0,.r (rD l),.i 0,.i 0,.i 0,.b false,.i (l.length:Int)] 3 (by omega)
  (fun s hs=>by
   rw[q3D]
   have hp:=qze hl hn hi hj (sd s)
   have esd:cI [[.i 0],[.i 1],[.i (-1)]] (s:Int) 0=sd s:=rfl
   unfold qm9
   by_cases c:q15 l i j (sd s)=true
   ·rw[if_pos c]
    simp only[STD,hp,c,esd,n3,show (s:Int)<3 by omega,show (0:Int)≤(s:Int) by omega,and_self,dex]
   ·rw[if_neg c]
    simp only[STD,hp,c,esd,n3,show (s:Int)<3 by omega,show (0:Int)≤(s:Int) by omega,and_self,kI hs (show 3<9223372036854775808 by omega)]
    rfl)
  (by rw[q3D];simp only[STD,show ((3:Nat):Int)=3 from rfl,show ¬(3:Int)<3 by omega])
 have C:=fun i (hi:i<l.length)=>uJ (S:=wP) (fun k=>[.i (i:Int),.i ((i+1+k:Nat):Int),.i (l.length:Int),.i (i:Int),.i 0,.r (rD l),.i 0,.i 0,.i 0,.b false,.i (l.length:Int)]) (fun k=>q7W l i (i+1+k)) (dex l)
  [.i (l.length:Int),.i (i:Int),.i 0,.r (rD l),.i 0,.i 0,.i 0,.b false,.i (l.length:Int)] (l.length-(i+1)) (by omega)
  (fun k hk=>by
   rw[q3C]
   have hj:i+1+k<l.length:=by omega
   have b:=B i (i+1+k) hi hj
   rw[qs2] at b
   simp only[show ((0:Nat):Int)=0 from rfl] at b
   have w:=kI hj big
   cases hs:q7W l i (i+1+k) with
   | none=>
    rw[hs] at b
    simp only[Option.elim] at b ⊢
    simp only[STD,b,qD b,n3,show ((i+1+k:Nat):Int)<(l.length:Int) by omega,w]
    rfl
   | some v=>
    rw[hs] at b
    simp only[Option.elim,dex] at b ⊢
    simp only[STD,b,qD b,n3,show ((i+1+k:Nat):Int)<(l.length:Int) by omega,show ¬(1=0) by omega])
  (by rw[q3C];simp only[STD,show ¬((i+1+(l.length-(i+1)):Nat):Int)<(l.length:Int) by omega])
 have D:=uJ (S:=vr) (fun i=>[.i (l.length:Int),.i (i:Int),.i 0,.r (rD l),.i 0,.i 0,.i 0,.b false,.i (l.length:Int)]) (fun i=>jQ (fun k=>q7W l i (i+1+k)) 0 (l.length-(i+1))) (dex l)
  [.i 0,.r (rD l),.i 0,.i 0,.i 0,.b false,.i (l.length:Int)] l.length big
  (fun i hi=>by
   rw[q4h]
   have c:=C i hi
   simp only[Nat.add_zero] at c
   have w:=kI hi big
   cases hs:jQ (fun k=>q7W l i (i+1+k)) 0 (l.length-(i+1)) with
   | none=>
    rw[hs] at c
    simp only[Option.elim] at c ⊢
    simp only[STD,w,c,qD c,show (i:Int)<(l.length:Int) by omega]
   | some v=>
    rw[hs] at c
    simp only[Option.elim,dex] at c ⊢
    simp only[STD,w,c,qD c,show (i:Int)<(l.length:Int) by omega,show ¬(1=0) by omega])
  (by rw[q4h];simp only[STD,show ¬(l.length:Int)<(l.length:Int) by omega])
 simp only[show ((0:Nat):Int)=0 from rfl] at A D
 unfold jT
 cases hs:jQ (fun i=>qm9 l i i 0) 0 l.length with
 | some v=>
  rw[hs] at A
  simp only[Option.elim,dex] at A
  simp only[STD,qB,A,qD A,show ¬(1=0) by omega,fW,Option.elim]
  rfl
 | none=>
  rw[hs] at A
  simp only[Option.elim] at A
  simp only[]
  cases hs':jQ (fun i=>jQ (fun k=>q7W l i (i+1+k)) 0 (l.length-(i+1))) 0 l.length with
  | none=>
   rw[hs'] at D
   simp only[Option.elim] at D
   simp only[STD,qB,A,qD A,D,qD D,fW,Option.elim]
   rfl
  | some v=>
   rw[hs'] at D
   simp only[Option.elim,dex] at D
   simp only[STD,qB,A,qD A,D,qD D,fW,Option.elim,show ¬(1=0) by omega]
   rfl
set_option maxHeartbeats 600000 in
theorem qxm{l:List DQ}(hl:GDs l)(hn:l.length<1000000):(wn [.r (rD l)]).run=some (0,fW (jT l)):=by
 rw[qr8]
 have big:l.length<9223372036854775808:=by omega
 have A:=uJ (S:=q2v) (fun k=>[.r (rD l),.i (k:Int),.i 0,.i 0,.i 0]) (fun k=>qm9 l k k 0) rex
  [.r (rD l),.i 0,.i 0,.i 0] l.length big
  (fun k hk=>by
   rw[qfz]
   have hp:=qyj hl hn hk hk 0
   unfold qm9
   by_cases c:q15 l k k 0=true
   ·rw[if_pos c]
    simp only[STD,hp,c,qB,show (k:Int)<(l.length:Int) by omega,rex]
   ·rw[if_neg c]
    simp only[STD,hp,c,qB,show (k:Int)<(l.length:Int) by omega,kI hk big]
    rfl)
  (by rw[qfz];simp only[STD,qB,show ¬(l.length:Int)<(l.length:Int) by omega])
 have B:=fun i j (hi:i<l.length) (hj:j<l.length)=>uJ (S:=q1t) (fun s=>[.r (rD l),.i (i:Int),.i (j:Int),.i 3,.i (s:Int),.i 0,.i 0,.i 0,.r [[.i 0],[.i 1],[.i (-1)]]]) (fun s=>qm9 l i j (sd s)) rex
  [.r (rD l),.i (i:Int),.i (j:Int),.i 0,.i 0,.i 0] 3 (by omega)
  (fun s hs=>by
   rw[qdz]
   have hp:=qyj hl hn hi hj (sd s)
   have esd:cI [[.i 0],[.i 1],[.i (-1)]] (s:Int) 0=sd s:=rfl
   unfold qm9
   by_cases c:q15 l i j (sd s)=true
   ·rw[if_pos c]
    simp only[STD,hp,c,esd,n3,show (s:Int)<3 by omega,show (0:Int)≤(s:Int) by omega,and_self,rex]
   ·rw[if_neg c]
    simp only[STD,hp,c,esd,n3,show (s:Int)<3 by omega,show (0:Int)≤(s:Int) by omega,and_self,kI hs (show 3<9223372036854775808 by omega)]
    rfl)
  (by rw[qdz];simp only[STD,show ((3:Nat):Int)=3 from rfl,show ¬(3:Int)<3 by omega])
 have C:=fun i (hi:i<l.length)=>uJ (S:=q1u) (fun k=>[.r (rD l),.i (i:Int),.i ((i+1+k:Nat):Int),.i 0,.i 0,.i 0]) (fun k=>q7W l i (i+1+k)) rex
  [.r (rD l),.i (i:Int),.i 0,.i 0,.i 0] (l.length-(i+1)) (by omega)
  (fun k hk=>by
   rw[qdA]
   have hj:i+1+k<l.length:=by omega
   have b:=B i (i+1+k) hi hj
   rw[qs2] at b
   simp only[show ((0:Nat):Int)=0 from rfl] at b
   have w:=kI hj big
   cases hs:q7W l i (i+1+k) with
   | none=>
    rw[hs] at b
    simp only[Option.elim] at b ⊢
    simp only[STD,b,qD b,n3,qB,show ((i+1+k:Nat):Int)<(l.length:Int) by omega,w]
    rfl
   | some v=>
    rw[hs] at b
    simp only[Option.elim,rex] at b ⊢
    simp only[STD,b,qD b,n3,qB,show ((i+1+k:Nat):Int)<(l.length:Int) by omega,show ¬(1=0) by omega])
  (by rw[qdA];simp only[STD,qB,show ¬((i+1+(l.length-(i+1)):Nat):Int)<(l.length:Int) by omega])
 have D:=uJ (S:=q1D) (fun i=>[.r (rD l),.i (i:Int),.i 0,.i 0,.i 0]) (fun i=>jQ (fun k=>q7W l i (i+1+k)) 0 (l.length-(i+1))) rex
  [.i 0,.i 0,.i 0] l.length big
  (fun i hi=>by
   rw[qdU]
   have c:=C i hi
   simp only[Nat.add_zero] at c
   have w:=kI hi big
   cases hs:jQ (fun k=>q7W l i (i+1+k)) 0 (l.length-(i+1)) with
   | none=>
    rw[hs] at c
    simp only[Option.elim] at c ⊢
    simp only[STD,w,c,qD c,qB,show (i:Int)<(l.length:Int) by omega]
   | some v=>
    rw[hs] at c
    simp only[Option.elim,rex] at c ⊢
    simp only[STD,w,c,qD c,qB,show (i:Int)<(l.length:Int) by omega,show ¬(1=0) by omega])
  (by rw[qdU];simp only[STD,qB,show ¬(l.length:Int)<(l.length:Int) by omega])
 simp only[show ((0:Nat):Int)=0 from rfl] at A D
 unfold jT
 cases hs:jQ (fun i=>qm9 l i i 0) 0 l.length with
 | some v=>
  rw[hs] at A
  simp only[Option.elim,rex] at A
  simp only[STD,A,qD A,show ¬(1=0) by omega,fW,Option.elim]
 | none=>
  rw[hs] at A
  simp only[Option.elim] at A
  simp only[]
  cases hs':jQ (fun i=>jQ (fun k=>q7W l i (i+1+k)) 0 (l.length-(i+1))) 0 l.length with
  | none=>
   rw[hs'] at D
   simp only[Option.elim] at D
   simp only[STD,A,qD A,D,qD D,fW,Option.elim]
  | some v=>
   rw[hs'] at D
   simp only[Option.elim,rex] at D
   simp only[STD,A,qD A,D,qD D,fW,Option.elim,show ¬(1=0) by omega]
end Go.Eng

namespace Go.Eng
theorem qG5{d:DQ}(h:GD d):qEO (tQ d.x) (tQ d.y) (tQ d.s)=0:=
 qEH ((zV h.x).ok (by omega) (by omega)) ((zV h.y).ok (by omega) (by omega)) ((q7G h.s).ok (by omega) (by omega)) h.nn
end Go.Eng

namespace Go.Eng
noncomputable def cD(x:R)(i:Nat):Int:=qEO (cS x (i:Int) 0) (cS x (i:Int) 1) (cS x (i:Int) 2)
noncomputable def lE(x:R):Int:=if 64<x.length then 5 else if q5l (cD x) x.length=0 then (if x.length=0 then 13 else 0) else q5l (cD x) x.length
theorem qw9(x:R)(h:64<x.length∨∀i,i<x.length→∀j,(cS x (i:Int) j).length≤1000000):(wc [.r x]).run=some (0,[.i (lE x)]):=by
 rw[qsW]
 unfold lE
 by_cases hn:64<x.length
 ·have:(64:Int)<qh x:=by unfold qh;omega
  simp only[STD,this,hn]
 ·have h':∀i,i<x.length→∀j,(cS x (i:Int) j).length≤1000000:=by
   rcases h with h|h
   ·omega
   ·exact h
  have hn':¬(64:Int)<qh x:=by unfold qh;omega
  have L:=qej (S:=q41) (fun k=>[.r x,.r x,.i (qh x),.i (k:Int)]) (cD x) [] [.r x] x.length (by omega)
   (fun i hi=>by
    rw[qhA]
    have c:=quA _ _ _ (h' i hi 0) (h' i hi 1) (h' i hi 2)
    have w:=kI hi (show x.length<9223372036854775808 by omega)
    by_cases e:qEO (cS x (i:Int) 0) (cS x (i:Int) 1) (cS x (i:Int) 2)=0
    ·simp only[STD,c,e,w,qyX hi,jS,and_self,cD]
    ·simp only[STD,c,e,qyX hi,jS,and_self,cD])
   (by rw[qhA];simp only[STD,qy2])
  simp only[show ((0:Nat):Int)=0 from rfl] at L
  by_cases e:q5l (cD x) x.length=0
  ·rw[if_pos e] at L
   by_cases z:x.length=0
   ·have:qh x=0:=by unfold qh;omega
    rw[if_neg hn,if_pos e,if_pos z]
    have L':=L
    rw[this] at L'
    simp only[STD,this,show ¬(64:Int)<0 by omega,L',qD L']
   ·have:¬qh x=0:=by unfold qh;omega
    simp only[STD,hn',L,qD L,hn,e,z,this]
  ·rw[if_neg e] at L
   simp only[STD,hn',L,qD L,hn,e,show ¬(1=0) by omega]
instance (s:List UInt8):Decidable (shT s):=by unfold shT;infer_instance
theorem qF9(x:R)(i:Nat)(j:Nat):cS x (i:Int) j=((x.getD i []).getD j (.i 0)).toS:=rfl
theorem qGH{l:List DQ}(hl:GDs l)(h0:l≠[])(hn:l.length≤64):lE (rD l)=0:=by
 have hlen:(rD l).length=l.length:=by simp[rD]
 have hz:l.length≠0:=fun h=>h0 (List.length_eq_zero_iff.1 h)
 unfold lE
 rw[hlen,if_neg (by omega),if_neg hz,if_pos]
 refine qBt fun i hi=>?_
 obtain⟨x1,x2,x3⟩:=qgE hi
 unfold cD
 rw[x1,x2,x3]
 exact qG5 (hl.ix hi)
theorem qF5{l:List DQ}(hl:GDs l):∀i,i<(rD l).length→∀j,(cS (rD l) (i:Int) j).length≤1000000:=by
 intro i hi j
 have hi':i<l.length:=by simpa[rD] using hi
 obtain⟨x1,x2,x3⟩:=qgE hi'
 have g:=hl.ix hi'
 match j with
 | 0=>rw[x1];have:=qq4 ((zV g.x).ok (by omega) (by omega));omega
 | 1=>rw[x2];have:=qq4 ((zV g.y).ok (by omega) (by omega));omega
 | 2=>rw[x3];have:=qq4 ((q7G g.s).ok (by omega) (by omega));omega
 | j+3=>
  rw[qF9]
  have e:(rD l).getD i []=qgg (ix l i):=by
   unfold rD ix
   simp[List.getD_eq_getElem?_getD,hi']
  rw[e];simp[qgg,List.getD_eq_getElem?_getD,U.toS]
theorem quH{l:List DQ}(hl:GDs l)(h0:l≠[])(hn:l.length≤64):(wc [.r (rD l)]).run=some (0,[.i 0]):=by
 rw[qw9 _ (.inr (qF5 hl)),qGH hl h0 hn]
def cW(o:Option (Nat×Nat×Int)):List PV:=o.elim [.b false,.i 0,.i 0,.i 0,.i 0] (fun w=>[.b true,.i (w.1:Int),.i (w.2.1:Int),.i w.2.2,.i 0])
theorem qwV{l:List DQ}(hl:GDs l)(h0:l≠[])(hn:l.length≤64):(q4j [.r (rD l)]).run=some (0,cW (jT l)):=by
 rw[qpo]
 have a:=quH hl h0 hn
 have b:=qx0 hl (by omega)
 cases hf:jT l with
 | none=>
  rw[hf] at b
  simp only[fW,Option.elim,List.cons_append,List.nil_append] at b
  simp only[STD,a,b,cW,Option.elim]
 | some w=>
  rw[hf] at b
  simp only[fW,Option.elim,List.cons_append,List.nil_append] at b
  simp only[STD,a,b,cW,Option.elim]
end Go.Eng

namespace Go.Eng
theorem q4W(l:R)(h:l.length<9223372036854775808):(qZ [.r l,.r l]).run=some (0,[.b true]):=by
 have e:(qg vd [.r l,.r l,.i (qh l),.i 0]).run=some (0,[]):=by
  refine v8 (fun i=>[.r l,.r l,.i (qh l),.i (i:Int)]) (0,[]) l.length h (fun i hi=>?_) ?_
  ·have h1:(i:Int)<qh l:=by unfold qh;omega
   rw[q44]
   simp only[STD,h1,kI hi h,show (0:Int)≤(i:Int) by omega,and_self]
  ·rw[q44]
   simp only[STD,show ¬((l.length:Int)<qh l) by unfold qh;omega]
 rw[qf7]
 simp only[STD,e,qD e]
end Go.Eng

namespace Go.Eng
def two(i j:Nat):R:=[[.i (i:Int)],[.i (j:Int)]]
def qo4(i j k:Nat):R:=[[.i (i:Int)],[.i (j:Int)],[.i (k:Int)]]
def q6I(l:List DQ)(i j:Nat):Option R:=if (jT [ix l i,ix l j]).isSome=true then none else some (two i j)
def q5a(l:List DQ)(i j k:Nat):Option R:=if (jT [ix l i,ix l j,ix l k]).isSome=true then none else some (qo4 i j k)
def qxA(l:List DQ):Option R:=jQ (fun i=>jQ (fun k=>q6I l i (i+1+k)) 0 (l.length-(i+1))) 0 l.length
def qzV(l:List DQ):Option R:=jQ (fun i=>jQ (fun k=>jQ (fun m=>q5a l i (i+1+k) (i+1+k+1+m)) 0 (l.length-(i+1+k+1))) 0 (l.length-(i+1))) 0 l.length
def q4V(l:List DQ):R:=(qxA l).elim ((qzV l).getD []) id
theorem qGX{a b:DQ}(ga:GD a)(gb:GD b):GDs [a,b]:=fun d hd=>by
 simp only[List.mem_cons,List.not_mem_nil,or_false] at hd
 rcases hd with rfl|rfl<;>assumption
theorem qGZ{a b c:DQ}(ga:GD a)(gb:GD b)(gc:GD c):GDs [a,b,c]:=fun d hd=>by
 simp only[List.mem_cons,List.not_mem_nil,or_false] at hd
 rcases hd with rfl|rfl|rfl<;>assumption
theorem qtt(o:Option (Nat×Nat×Int)):∃a b c,fW o=[.i a,.i b,.i c,.b o.isSome]:=by
 cases o with
 | none=>exact⟨_,_,_,rfl⟩
 | some w=>exact⟨_,_,_,rfl⟩
theorem qGD(l:List DQ)(i j k:Nat)(hk:k<2):∃m,(m=i∨m=j)∧cI (two i j) (k:Int) 0=(m:Int)∧[qgg (ix l i),qgg (ix l j)].take (k+1)=[qgg (ix l i),qgg (ix l j)].take k++[qgg (ix l m)]:=by
 rcases (show k=0∨k=1 by omega) with rfl|rfl
 ·exact⟨i,.inl rfl,rfl,rfl⟩
 ·exact⟨j,.inr rfl,rfl,rfl⟩
theorem qGB(l:List DQ)(i j o k:Nat)(hk:k<3):∃m,(m=i∨m=j∨m=o)∧cI (qo4 i j o) (k:Int) 0=(m:Int)∧[qgg (ix l i),qgg (ix l j),qgg (ix l o)].take (k+1)=[qgg (ix l i),qgg (ix l j),qgg (ix l o)].take k++[qgg (ix l m)]:=by
 rcases (show k=0∨k=1∨k=2 by omega) with rfl|rfl|rfl
 ·exact⟨i,.inl rfl,rfl,rfl⟩
 ·exact⟨j,.inr (.inl rfl),rfl,rfl⟩
 ·exact⟨o,.inr (.inr rfl),rfl,rfl⟩
theorem qw2{x:R}{k:Nat}:qh (x.take k)≤qh x:=by unfold qh;rw[List.length_take];omega
theorem qza(i j:Nat):qh (two i j)=2:=rfl
theorem qsN(i j k:Nat):qh (qo4 i j k)=3:=rfl
theorem qBL{l:List DQ}(_:l.length<1000000){i j:Nat}(hi:i<l.length)(hj:j<l.length)(a b c d e f g h:Int) :
  (qg z8 [.i (qh (two i j)),.i 0,.i a,.i b,.i c,.i d,.i e,.r (rD l),.i f,.i g,.i h,.r (rD l),.i 0,.r (two i j),.r []]).run=some (0,[.i a,.i b,.i c,.i d,.i e,.r (rD l),.i f,.i g,.i h,.r (rD l),.i 0,.r (two i j),.r (rD [ix l i,ix l j])]):=by
 have key:=v8 (S:=z8) (fun k=>[.i (qh (two i j)),.i (k:Int),.i a,.i b,.i c,.i d,.i e,.r (rD l),.i f,.i g,.i h,.r (rD l),.i 0,.r (two i j),.r ([qgg (ix l i),qgg (ix l j)].take k)])
  (0,[.i a,.i b,.i c,.i d,.i e,.r (rD l),.i f,.i g,.i h,.r (rD l),.i 0,.r (two i j),.r (rD [ix l i,ix l j])]) 2 (by omega)
  (fun k hk=>by
   rw[q0W]
   obtain⟨m,hm,e1,e2⟩:=qGD l i j k hk
   have hml:m<l.length:=by rcases hm with rfl|rfl<;>assumption
   obtain⟨x1,x2,x3⟩:=qgE hml
   have w:=kI hk (show 2<9223372036854775808 by omega)
   have t:=qw2 (x:=[qgg (ix l i),qgg (ix l j)]) (k:=k)
   have t2:qh [qgg (ix l i),qgg (ix l j)]=2:=rfl
   have t1:qh [[U.s (tQ (ix l m).x),U.s (tQ (ix l m).y),U.s (tQ (ix l m).s)]]=1:=rfl
   rw[e1,x1,x2,x3,e2]
   simp only[STD,qza,show (k:Int)<2 by omega,jS,qB,show (m:Int)<(l.length:Int) by omega,and_self,w,show qh ([qgg (ix l i),qgg (ix l j)].take k)+qh [[U.s (tQ (ix l m).x),U.s (tQ (ix l m).y),U.s (tQ (ix l m).s)]]≤2932031007402 by omega]
   rfl)
  (by rw[q0W];simp only[STD,qza,show ¬((2:Nat):Int)<2 by omega];rfl)
 exact key
theorem qAE{l:List DQ}(_:l.length<1000000){i j o:Nat}(hi:i<l.length)(hj:j<l.length)(ho:o<l.length)(a b c d e f g h p q:Int) :
  (qg ze [.i (qh (qo4 i j o)),.i 0,.i a,.i b,.i c,.i d,.i e,.i f,.r (rD l),.i g,.i h,.i p,.i q,.r (rD l),.i 0,.r (qo4 i j o),.r []]).run=some (0,[.i a,.i b,.i c,.i d,.i e,.i f,.r (rD l),.i g,.i h,.i p,.i q,.r (rD l),.i 0,.r (qo4 i j o),.r (rD [ix l i,ix l j,ix l o])]):=by
 have key:=v8 (S:=ze) (fun k=>[.i (qh (qo4 i j o)),.i (k:Int),.i a,.i b,.i c,.i d,.i e,.i f,.r (rD l),.i g,.i h,.i p,.i q,.r (rD l),.i 0,.r (qo4 i j o),.r ([qgg (ix l i),qgg (ix l j),qgg (ix l o)].take k)])
  (0,[.i a,.i b,.i c,.i d,.i e,.i f,.r (rD l),.i g,.i h,.i p,.i q,.r (rD l),.i 0,.r (qo4 i j o),.r (rD [ix l i,ix l j,ix l o])]) 3 (by omega)
  (fun k hk=>by
   rw[q0U]
   obtain⟨m,hm,e1,e2⟩:=qGB l i j o k hk
   have hml:m<l.length:=by rcases hm with rfl|rfl|rfl<;>assumption
   obtain⟨x1,x2,x3⟩:=qgE hml
   have w:=kI hk (show 3<9223372036854775808 by omega)
   have t:=qw2 (x:=[qgg (ix l i),qgg (ix l j),qgg (ix l o)]) (k:=k)
   have t2:qh [qgg (ix l i),qgg (ix l j),qgg (ix l o)]=3:=rfl
   have t1:qh [[U.s (tQ (ix l m).x),U.s (tQ (ix l m).y),U.s (tQ (ix l m).s)]]=1:=rfl
   rw[e1,x1,x2,x3,e2]
   simp only[STD,qsN,show (k:Int)<3 by omega,jS,qB,show (m:Int)<(l.length:Int) by omega,and_self,w,show qh ([qgg (ix l i),qgg (ix l j),qgg (ix l o)].take k)+qh [[U.s (tQ (ix l m).x),U.s (tQ (ix l m).y),U.s (tQ (ix l m).s)]]≤2932031007402 by omega]
   rfl)
  (by rw[q0U];simp only[STD,qsN,show ¬((3:Nat):Int)<3 by omega];rfl)
 exact key
theorem qxg{l:List DQ}(hl:GDs l)(h0:l≠[])(hn:l.length≤64):(jI [.r (rD l)]).run=some (0,[.r (q4V l),.i 0]):=by
 rw[qge]
 have a:=quH hl h0 hn
 have big:l.length<9223372036854775808:=by omega
 have A:=fun i (hi:i<l.length)=>uJ (S:=vt) (fun k=>[.i (i:Int),.i ((i+1+k:Nat):Int),.i (l.length:Int),.i (i:Int),.r (rD l),.i 0]) (fun k=>q6I l i (i+1+k)) (fun r=>[.i 0,.r r])
  [.i (l.length:Int),.i (i:Int),.r (rD l),.i 0] (l.length-(i+1)) (by omega)
  (fun k hk=>by
   rw[q4k]
   have hj:i+1+k<l.length:=by omega
   have g:=qBL (l:=l) (by omega) hi hj (i:Int) ((i+1+k:Nat):Int) (l.length:Int) (i:Int) ((i+1+k:Nat):Int) (l.length:Int) (i:Int) ((i+1+k:Nat):Int)
   have f:=qx0 (qGX (hl.ix hi) (hl.ix hj)) (by simp)
   obtain⟨u,v,w,hfw⟩:=qtt (jT [ix l i,ix l (i+1+k)])
   rw[hfw] at f
   simp only[List.cons_append,List.nil_append] at f
   have ws:=kI hj big
   have tw:[[U.i (i:Int)],[U.i ((i+1+k:Nat):Int)]]=two i (i+1+k):=rfl
   rw[tw]
   unfold q6I
   cases hs:(jT [ix l i,ix l (i+1+k)]).isSome
   ·rw[hs] at f
    simp only[STD,qB,g,f,show ((i+1+k:Nat):Int)<(l.length:Int) by omega,show ieq 0 0=true from rfl,Option.elim,tw]
   ·rw[hs] at f
    simp only[STD,qB,g,f,show ((i+1+k:Nat):Int)<(l.length:Int) by omega,Option.elim,ws]
    rfl)
  (by rw[q4k];simp only[STD,qB,show ¬((i+1+(l.length-(i+1)):Nat):Int)<(l.length:Int) by omega])
 have B:=uJ (S:=vN) (fun i=>[.i (l.length:Int),.i (i:Int),.r (rD l),.i 0]) (fun i=>jQ (fun k=>q6I l i (i+1+k)) 0 (l.length-(i+1))) (fun r=>[.i 0,.r r])
  [.r (rD l),.i 0] l.length big
  (fun i hi=>by
   rw[q5c]
   have c:=A i hi
   simp only[Nat.add_zero] at c
   have w:=kI hi big
   cases hs:jQ (fun k=>q6I l i (i+1+k)) 0 (l.length-(i+1)) with
   | none=>
    rw[hs] at c
    simp only[Option.elim] at c ⊢
    simp only[STD,w,c,qD c,show (i:Int)<(l.length:Int) by omega]
   | some v=>
    rw[hs] at c
    simp only[Option.elim] at c ⊢
    simp only[STD,w,c,qD c,show (i:Int)<(l.length:Int) by omega,show ¬(1=0) by omega])
  (by rw[q5c];simp only[STD,show ¬(l.length:Int)<(l.length:Int) by omega])
 have C:=fun i j (hi:i<l.length) (hj:j<l.length)=>uJ (S:=vw) (fun k=>[.i (i:Int),.i (j:Int),.i ((j+1+k:Nat):Int),.i (l.length:Int),.i (i:Int),.r (rD l),.i 0]) (fun k=>q5a l i j (j+1+k)) (fun r=>[.i 0,.r r])
  [.i (i:Int),.i (j:Int),.i (l.length:Int),.i (i:Int),.r (rD l),.i 0] (l.length-(j+1)) (by omega)
  (fun k hk=>by
   rw[q47]
   have ho:j+1+k<l.length:=by omega
   have g:=qAE (l:=l) (by omega) hi hj ho (i:Int) (j:Int) ((j+1+k:Nat):Int) (l.length:Int) (i:Int) ((j+1+k:Nat):Int) (l.length:Int) (i:Int) (j:Int) ((j+1+k:Nat):Int)
   have f:=qx0 (qGZ (hl.ix hi) (hl.ix hj) (hl.ix ho)) (by simp)
   obtain⟨u,v,w,hfw⟩:=qtt (jT [ix l i,ix l j,ix l (j+1+k)])
   rw[hfw] at f
   simp only[List.cons_append,List.nil_append] at f
   have ws:=kI ho big
   have tw:[[U.i (i:Int)],[U.i (j:Int)],[U.i ((j+1+k:Nat):Int)]]=qo4 i j (j+1+k):=rfl
   rw[tw]
   unfold q5a
   cases hs:(jT [ix l i,ix l j,ix l (j+1+k)]).isSome
   ·rw[hs] at f
    simp only[STD,qB,g,f,show ((j+1+k:Nat):Int)<(l.length:Int) by omega,show ieq 0 0=true from rfl,Option.elim,tw]
   ·rw[hs] at f
    simp only[STD,qB,g,f,show ((j+1+k:Nat):Int)<(l.length:Int) by omega,Option.elim,ws]
    rfl)
  (by rw[q47];simp only[STD,qB,show ¬((j+1+(l.length-(j+1)):Nat):Int)<(l.length:Int) by omega])
 have D:=fun i (hi:i<l.length)=>uJ (S:=vq) (fun k=>[.i (i:Int),.i ((i+1+k:Nat):Int),.i (l.length:Int),.i (i:Int),.r (rD l),.i 0]) (fun k=>jQ (fun m=>q5a l i (i+1+k) (i+1+k+1+m)) 0 (l.length-(i+1+k+1))) (fun r=>[.i 0,.r r])
  [.i (l.length:Int),.i (i:Int),.r (rD l),.i 0] (l.length-(i+1)) (by omega)
  (fun k hk=>by
   rw[q43]
   have hj:i+1+k<l.length:=by omega
   have c:=C i (i+1+k) hi hj
   simp only[Nat.add_zero] at c
   have w:=kI hj big
   cases hs:jQ (fun m=>q5a l i (i+1+k) (i+1+k+1+m)) 0 (l.length-(i+1+k+1)) with
   | none=>
    rw[hs] at c
    simp only[Option.elim] at c ⊢
    simp only[STD,w,c,qD c,qB,show ((i+1+k:Nat):Int)<(l.length:Int) by omega]
    rfl
   | some v=>
    rw[hs] at c
    simp only[Option.elim] at c ⊢
    simp only[STD,w,c,qD c,qB,show ((i+1+k:Nat):Int)<(l.length:Int) by omega,show ¬(1=0) by omega])
  (by rw[q43];simp only[STD,qB,show ¬((i+1+(l.length-(i+1)):Nat):Int)<(l.length:Int) by omega])
 have E:=uJ (S:=vj) (fun i=>[.i (l.length:Int),.i (i:Int),.r (rD l),.i 0]) (fun i=>jQ (fun k=>jQ (fun m=>q5a l i (i+1+k) (i+1+k+1+m)) 0 (l.length-(i+1+k+1))) 0 (l.length-(i+1))) (fun r=>[.i 0,.r r])
  [.i 0] l.length big
  (fun i hi=>by
   rw[q48]
   have c:=D i hi
   simp only[Nat.add_zero] at c
   have w:=kI hi big
   cases hs:jQ (fun k=>jQ (fun m=>q5a l i (i+1+k) (i+1+k+1+m)) 0 (l.length-(i+1+k+1))) 0 (l.length-(i+1)) with
   | none=>
    rw[hs] at c
    simp only[Option.elim] at c ⊢
    simp only[STD,w,c,qD c,show (i:Int)<(l.length:Int) by omega]
   | some v=>
    rw[hs] at c
    simp only[Option.elim] at c ⊢
    simp only[STD,w,c,qD c,show (i:Int)<(l.length:Int) by omega,show ¬(1=0) by omega])
  (by rw[q48];simp only[STD,show ¬(l.length:Int)<(l.length:Int) by omega])
 simp only[show ((0:Nat):Int)=0 from rfl] at B E
 unfold q4V
 cases hp:qxA l with
 | some r=>
  rw[show jQ (fun i=>jQ (fun k=>q6I l i (i+1+k)) 0 (l.length-(i+1))) 0 l.length=some r from hp] at B
  simp only[Option.elim] at B
  simp only[STD,a,qB,B,qD B,Option.elim,id,show ¬(1=0) by omega]
 | none=>
  rw[show jQ (fun i=>jQ (fun k=>q6I l i (i+1+k)) 0 (l.length-(i+1))) 0 l.length=none from hp] at B
  simp only[Option.elim] at B
  cases ht:qzV l with
  | some r=>
   rw[show jQ (fun i=>jQ (fun k=>jQ (fun m=>q5a l i (i+1+k) (i+1+k+1+m)) 0 (l.length-(i+1+k+1))) 0 (l.length-(i+1))) 0 l.length=some r from ht] at E
   simp only[Option.elim] at E
   simp only[STD,a,qB,B,qD B,E,qD E,Option.elim,Option.getD_some,show ¬(1=0) by omega]
  | none=>
   rw[show jQ (fun i=>jQ (fun k=>jQ (fun m=>q5a l i (i+1+k) (i+1+k+1+m)) 0 (l.length-(i+1+k+1))) 0 (l.length-(i+1))) 0 l.length=none from ht] at E
   simp only[Option.elim] at E
   simp only[STD,a,qB,B,qD B,E,qD E,Option.elim,Option.getD_none]
theorem qEy{l:List DQ}(hl:GDs l)(hn:l.length<1000000):(q6r [.r (rD l)]).run=some (0,[.r (q4V l)]):=by
 rw[qrq]
 have big:l.length<9223372036854775808:=by omega
 have A:=fun i (hi:i<l.length)=>uJ (S:=q2I) (fun k=>[.r (rD l),.i (i:Int),.i ((i+1+k:Nat):Int)]) (fun k=>q6I l i (i+1+k)) (fun r=>[.r r])
  [.r (rD l),.i (i:Int)] (l.length-(i+1)) (by omega)
  (fun k hk=>by
   rw[qfP]
   have hj:i+1+k<l.length:=by omega
   obtain⟨x1,x2,x3⟩:=qgE hi
   obtain⟨y1,y2,y3⟩:=qgE hj
   have f:=qxm (qGX (hl.ix hi) (hl.ix hj)) (by simp)
   rw[show rD [ix l i,ix l (i+1+k)]=[[.s (tQ (ix l i).x),.s (tQ (ix l i).y),.s (tQ (ix l i).s)],[.s (tQ (ix l (i+1+k)).x),.s (tQ (ix l (i+1+k)).y),.s (tQ (ix l (i+1+k)).s)]] from rfl] at f
   obtain⟨u,v,w,hfw⟩:=qtt (jT [ix l i,ix l (i+1+k)])
   rw[hfw] at f
   have ws:=kI hj big
   rw[x1,x2,x3,y1,y2,y3]
   unfold q6I
   cases hs:(jT [ix l i,ix l (i+1+k)]).isSome
   ·rw[hs] at f
    simp only[STD,qB,f,show ((i+1+k:Nat):Int)<(l.length:Int) by omega,show (i:Int)<(l.length:Int) by omega,jS,and_self,Option.elim]
    rfl
   ·rw[hs] at f
    simp only[STD,qB,f,show ((i+1+k:Nat):Int)<(l.length:Int) by omega,show (i:Int)<(l.length:Int) by omega,jS,and_self,Option.elim,ws]
    rfl)
  (by rw[qfP];simp only[STD,qB,show ¬((i+1+(l.length-(i+1)):Nat):Int)<(l.length:Int) by omega])
 have B:=uJ (S:=q2E) (fun i=>[.r (rD l),.i (i:Int)]) (fun i=>jQ (fun k=>q6I l i (i+1+k)) 0 (l.length-(i+1))) (fun r=>[.r r])
  [.r (rD l)] l.length big
  (fun i hi=>by
   rw[qfx]
   have c:=A i hi
   simp only[Nat.add_zero] at c
   have w:=kI hi big
   cases hs:jQ (fun k=>q6I l i (i+1+k)) 0 (l.length-(i+1)) with
   | none=>
    rw[hs] at c
    simp only[Option.elim] at c ⊢
    simp only[STD,w,c,qD c,qB,show (i:Int)<(l.length:Int) by omega]
   | some v=>
    rw[hs] at c
    simp only[Option.elim] at c ⊢
    simp only[STD,w,c,qD c,qB,show (i:Int)<(l.length:Int) by omega,show ¬(1=0) by omega])
  (by rw[qfx];simp only[STD,qB,show ¬(l.length:Int)<(l.length:Int) by omega])
 have C:=fun i j (hi:i<l.length) (hj:j<l.length)=>uJ (S:=q1v) (fun k=>[.r (rD l),.i (i:Int),.i (j:Int),.i ((j+1+k:Nat):Int)]) (fun k=>q5a l i j (j+1+k)) (fun r=>[.r r])
  [.r (rD l),.i (i:Int),.i (j:Int)] (l.length-(j+1)) (by omega)
  (fun k hk=>by
   rw[qe3]
   have ho:j+1+k<l.length:=by omega
   obtain⟨x1,x2,x3⟩:=qgE hi
   obtain⟨y1,y2,y3⟩:=qgE hj
   obtain⟨z1,z2,z3⟩:=qgE ho
   have f:=qxm (qGZ (hl.ix hi) (hl.ix hj) (hl.ix ho)) (by simp)
   rw[show rD [ix l i,ix l j,ix l (j+1+k)]=[[.s (tQ (ix l i).x),.s (tQ (ix l i).y),.s (tQ (ix l i).s)],[.s (tQ (ix l j).x),.s (tQ (ix l j).y),.s (tQ (ix l j).s)],[.s (tQ (ix l (j+1+k)).x),.s (tQ (ix l (j+1+k)).y),.s (tQ (ix l (j+1+k)).s)]] from rfl] at f
   obtain⟨u,v,w,hfw⟩:=qtt (jT [ix l i,ix l j,ix l (j+1+k)])
   rw[hfw] at f
   have ws:=kI ho big
   rw[x1,x2,x3,y1,y2,y3,z1,z2,z3]
   unfold q5a
   cases hs:(jT [ix l i,ix l j,ix l (j+1+k)]).isSome
   ·rw[hs] at f
    simp only[STD,qB,f,show ((j+1+k:Nat):Int)<(l.length:Int) by omega,show (i:Int)<(l.length:Int) by omega,show (j:Int)<(l.length:Int) by omega,jS,and_self,Option.elim]
    rfl
   ·rw[hs] at f
    simp only[STD,qB,f,show ((j+1+k:Nat):Int)<(l.length:Int) by omega,show (i:Int)<(l.length:Int) by omega,show (j:Int)<(l.length:Int) by omega,jS,and_self,Option.elim,ws]
    rfl)
  (by rw[qe3];simp only[STD,qB,show ¬((j+1+(l.length-(j+1)):Nat):Int)<(l.length:Int) by omega])
 have D:=fun i (hi:i<l.length)=>uJ (S:=q1M) (fun k=>[.r (rD l),.i (i:Int),.i ((i+1+k:Nat):Int)]) (fun k=>jQ (fun m=>q5a l i (i+1+k) (i+1+k+1+m)) 0 (l.length-(i+1+k+1))) (fun r=>[.r r])
  [.r (rD l),.i (i:Int)] (l.length-(i+1)) (by omega)
  (fun k hk=>by
   rw[qdP]
   have hj:i+1+k<l.length:=by omega
   have c:=C i (i+1+k) hi hj
   simp only[Nat.add_zero] at c
   have w:=kI hj big
   cases hs:jQ (fun m=>q5a l i (i+1+k) (i+1+k+1+m)) 0 (l.length-(i+1+k+1)) with
   | none=>
    rw[hs] at c
    simp only[Option.elim] at c ⊢
    simp only[STD,w,c,qD c,qB,show ((i+1+k:Nat):Int)<(l.length:Int) by omega]
    rfl
   | some v=>
    rw[hs] at c
    simp only[Option.elim] at c ⊢
    simp only[STD,w,c,qD c,qB,show ((i+1+k:Nat):Int)<(l.length:Int) by omega,show ¬(1=0) by omega])
  (by rw[qdP];simp only[STD,qB,show ¬((i+1+(l.length-(i+1)):Nat):Int)<(l.length:Int) by omega])
 have E:=uJ (S:=q1G) (fun i=>[.r (rD l),.i (i:Int)]) (fun i=>jQ (fun k=>jQ (fun m=>q5a l i (i+1+k) (i+1+k+1+m)) 0 (l.length-(i+1+k+1))) 0 (l.length-(i+1))) (fun r=>[.r r])
  [] l.length big
  (fun i hi=>by
   rw[qdY]
   have c:=D i hi
   simp only[Nat.add_zero] at c
   have w:=kI hi big
   cases hs:jQ (fun k=>jQ (fun m=>q5a l i (i+1+k) (i+1+k+1+m)) 0 (l.length-(i+1+k+1))) 0 (l.length-(i+1)) with
   | none=>
    rw[hs] at c
    simp only[Option.elim] at c ⊢
    simp only[STD,w,c,qD c,qB,show (i:Int)<(l.length:Int) by omega]
   | some v=>
    rw[hs] at c
    simp only[Option.elim] at c ⊢
    simp only[STD,w,c,qD c,qB,show (i:Int)<(l.length:Int) by omega,show ¬(1=0) by omega])
  (by rw[qdY];simp only[STD,qB,show ¬(l.length:Int)<(l.length:Int) by omega])
 simp only[show ((0:Nat):Int)=0 from rfl] at B E
 unfold q4V
 cases hp:qxA l with
 | some r=>
  rw[show jQ (fun i=>jQ (fun k=>q6I l i (i+1+k)) 0 (l.length-(i+1))) 0 l.length=some r from hp] at B
  simp only[Option.elim] at B
  simp only[STD,B,qD B,Option.elim,id,show ¬(1=0) by omega]
 | none=>
  rw[show jQ (fun i=>jQ (fun k=>q6I l i (i+1+k)) 0 (l.length-(i+1))) 0 l.length=none from hp] at B
  simp only[Option.elim] at B
  cases ht:qzV l with
  | some r=>
   rw[show jQ (fun i=>jQ (fun k=>jQ (fun m=>q5a l i (i+1+k) (i+1+k+1+m)) 0 (l.length-(i+1+k+1))) 0 (l.length-(i+1))) 0 l.length=some r from ht] at E
   simp only[Option.elim] at E
   simp only[STD,B,qD B,E,qD E,Option.elim,Option.getD_some,show ¬(1=0) by omega]
  | none=>
   rw[show jQ (fun i=>jQ (fun k=>jQ (fun m=>q5a l i (i+1+k) (i+1+k+1+m)) 0 (l.length-(i+1+k+1))) 0 (l.length-(i+1))) 0 l.length=none from ht] at E
   simp only[Option.elim] at E
   simp only[STD,B,qD B,E,qD E,Option.elim,Option.getD_none]
end Go.Eng

namespace Go.Eng
theorem qp8{l:List DQ}(hs:∀d∈l,0≤d.s){i j:Nat}(hi:i<l.length)(hj:j<l.length):q6I l i j=none↔qkR [ix l i,ix l j]:=by
 have:=qsJ (l:=[ix l i,ix l j]) (by simp) (fun d hd=>by
  simp only[List.mem_cons,List.not_mem_nil,or_false] at hd
  rcases hd with rfl|rfl
  ·exact hs _ (qdV hi)
  ·exact hs _ (qdV hj))
 rw[←this];unfold q6I
 split<;>simp_all
theorem qqf{l:List DQ}(hs:∀d∈l,0≤d.s){i j k:Nat}(hi:i<l.length)(hj:j<l.length)(hk:k<l.length):q5a l i j k=none↔qkR [ix l i,ix l j,ix l k]:=by
 have:=qsJ (l:=[ix l i,ix l j,ix l k]) (by simp) (fun d hd=>by
  simp only[List.mem_cons,List.not_mem_nil,or_false] at hd
  rcases hd with rfl|rfl|rfl
  ·exact hs _ (qdV hi)
  ·exact hs _ (qdV hj)
  ·exact hs _ (qdV hk))
 rw[←this];unfold q5a
 split<;>simp_all
theorem qzN{l:List DQ}(hs:∀d∈l,0≤d.s):(qxA l=none∧∀i j,i<j→j<l.length→qkR [ix l i,ix l j]) ∨
  ∃i j,i<j∧j<l.length∧qxA l=some (two i j)∧¬qkR [ix l i,ix l j]:=by
 cases h:qxA l with
 | none=>
  refine .inl ⟨rfl,fun i j hij hj=>?_⟩
  have h1:=q2Q h i (by omega) (by omega)
  have h2:=q2Q h1 (j-(i+1)) (by omega) (by omega)
  simp only[show i+1+(j-(i+1))=j by omega] at h2
  exact(qp8 hs (by omega) hj).1 h2
 | some a=>
  obtain⟨i,_,hi,h1,_⟩:=q3Z h
  obtain⟨k,_,hk,h2,_⟩:=q3Z h1
  refine .inr ⟨i,i+1+k,by omega,by omega,?_,?_⟩
  ·unfold q6I at h2
   split at h2
   ·cases h2
   ·exact h2.symm
  ·rw[←qp8 hs (by omega) (by omega),h2];simp
theorem qzL{l:List DQ}(hs:∀d∈l,0≤d.s):(qzV l=none∧∀i j k,i<j→j<k→k<l.length→qkR [ix l i,ix l j,ix l k]) ∨
  ∃i j k,i<j∧j<k∧k<l.length∧qzV l=some (qo4 i j k)∧¬qkR [ix l i,ix l j,ix l k]:=by
 cases h:qzV l with
 | none=>
  refine .inl ⟨rfl,fun i j k hij hjk hk=>?_⟩
  have h1:=q2Q h i (by omega) (by omega)
  have h2:=q2Q h1 (j-(i+1)) (by omega) (by omega)
  simp only[show i+1+(j-(i+1))=j by omega] at h2
  have h3:=q2Q h2 (k-(j+1)) (by omega) (by omega)
  simp only[show j+1+(k-(j+1))=k by omega] at h3
  exact(qqf hs (by omega) (by omega) hk).1 h3
 | some a=>
  obtain⟨i,_,hi,h1,_⟩:=q3Z h
  obtain⟨k,_,hk,h2,_⟩:=q3Z h1
  obtain⟨m,_,hm,h3,_⟩:=q3Z h2
  refine .inr ⟨i,i+1+k,i+1+k+1+m,by omega,by omega,by omega,?_,?_⟩
  ·unfold q5a at h3
   split at h3
   ·cases h3
   ·exact h3.symm
  ·rw[←qqf hs (by omega) (by omega) (by omega),h3];simp
theorem qGT{l:List DQ}{i j:Nat}(hi:i<l.length)(hj:j<l.length):∀d∈[ix l i,ix l j],d∈l:=fun d hd=>by
 simp only[List.mem_cons,List.not_mem_nil,or_false] at hd
 rcases hd with rfl|rfl
 ·exact qdV hi
 ·exact qdV hj
theorem qGL{l:List DQ}{i j k:Nat}(hi:i<l.length)(hj:j<l.length)(hk:k<l.length):∀d∈[ix l i,ix l j,ix l k],d∈l:=fun d hd=>by
 simp only[List.mem_cons,List.not_mem_nil,or_false] at hd
 rcases hd with rfl|rfl|rfl
 ·exact qdV hi
 ·exact qdV hj
 ·exact qdV hk
theorem qwu{l:List DQ}(hs:∀d∈l,0≤d.s):(qkR l∧q4V l=[]) ∨
  (¬qkR l∧∃i j,i<j∧j<l.length∧q4V l=two i j∧¬qkR [ix l i,ix l j]) ∨
  (¬qkR l∧(∀i j,i<j→j<l.length→qkR [ix l i,ix l j])∧∃i j k,i<j∧j<k∧k<l.length∧q4V l=qo4 i j k∧¬qkR [ix l i,ix l j,ix l k]):=by
 rcases qzN hs with⟨h1,h2⟩|⟨i,j,hij,hj,h1,h2⟩
 ·rcases qzL hs with⟨h3,h4⟩|⟨i,j,k,hij,hjk,hk,h3,h4⟩
  ·refine .inl ⟨qD4 hs h2 h4,?_⟩
   unfold q4V;rw[h1,h3];rfl
  ·refine .inr (.inr ⟨fun h=>h4 (h.mono (qGL (by omega) (by omega) hk)),h2,i,j,k,hij,hjk,hk,?_,h4⟩)
   unfold q4V;rw[h1,h3];rfl
 ·refine .inr (.inl ⟨fun h=>h2 (h.mono (qGT (by omega) hj)),i,j,hij,hj,?_,h2⟩)
  unfold q4V;rw[h1];rfl
end Go.Eng

namespace Go.Eng
def chk(x0 x1 x2 x3 x4 x5:Int)(x6:Bool):Int:=
 if ¬(-100000≤x0∧x0≤100000∧-100000≤x1∧x1≤100000∧1≤x2∧x2≤100000∧1≤x3∧x3≤100000) then 2
 else if x3<x2 then 9
 else if x4<0∨100000<x4∨(x6=false∧x2≤x4) then 2
 else if x5<0∨2<x5 then 1 else 0
theorem qn4(x:Int):(uo [.i x]).run=some (0,[.b (decide (-100000≤x∧x≤100000))]):=by
 rw[qxN];simp only[qh3,q5J,qcT];by_cases h:-100000≤x<;>simp[h,ile]
theorem qsm(x:Int):(q5b [.i x]).run=some (0,[.b (decide (-100000≤x∧x≤100000))]):=by
 rw[qxQ];simp only[qh3,q5J,qcT];by_cases h:-100000≤x<;>simp[h,ile]
theorem qhB(x:Int):(jF [.i x]).run=some (0,[.b (decide (1≤x∧x≤100000))]):=by
 rw[qt9];simp only[qh3,q5J,qcT];by_cases h:1≤x<;>simp[h,ile]
theorem qhJ(x:Int):(jK [.i x]).run=some (0,[.b (decide (1≤x∧x≤100000))]):=by
 rw[qt4];simp only[qh3,q5J,qcT];by_cases h:1≤x<;>simp[h,ile]
theorem qfd(x y:Int):(yS [.i x,.i y]).run=some (0,[.b (decide (-100000≤x∧x≤100000∧-100000≤y∧y≤100000))]):=by
 rw[qr7];simp only[qh3,q5J,qnj (qsm _),gB,quR (qsm _),List.getD_cons_zero,PV.toB,if_true,decide_eq_true_eq]
 by_cases h:-100000≤x<;>by_cases h2:x≤100000<;>simp[h,h2]
theorem q9x(x0 x1 x2 x3 x4 x5:Int)(x6:Bool):(jm [.i x0,.i x1,.i x2,.i x3,.i x4,.i x5,.b x6]).run=some (0,[.i (chk x0 x1 x2 x3 x4 x5 x6)]):=by
 rw[qrG]
 simp only[qh3,q5J,qnj (qn4 _),gB,quR (qn4 _),qnj (qhB _),quR (qhB _),List.getD_cons_zero,PV.toB,if_true,Bool.not_eq_true',decide_eq_false_iff_not,qnd,qcT]
 unfold chk
 cases x6<;>simp only[reduceCtorEq,if_true,if_false,false_and,true_and,or_false]<;>repeat' split
 all_goals first|rfl|omega
theorem qf9(x0 x1 x2 x3 x4 x5:Int)(x6:Bool):(q2V [.i x0,.i x1,.i x2,.i x3,.i x4,.i x5,.b x6]).run=some (0,[.i (chk x0 x1 x2 x3 x4 x5 x6)]):=by
 rw[qru]
 simp only[qh3,q5J,qnj (qfd _ _),gB,quR (qfd _ _),qnj (qhJ _),quR (qhJ _),List.getD_cons_zero,PV.toB,if_true,Bool.not_eq_true',decide_eq_false_iff_not,qnd,qcT]
 unfold chk
 cases x6<;>simp only[reduceCtorEq,if_true,if_false,false_and,true_and,or_false]<;>repeat' split
 all_goals first|rfl|omega
theorem qoJ{x0 x1 x2 x3 x4 x5:Int}{x6:Bool}(h:chk x0 x1 x2 x3 x4 x5 x6=0):-100000≤x0∧x0≤100000∧-100000≤x1∧x1≤100000∧1≤x2∧x2≤100000∧1≤x3∧x3≤100000∧x2≤x3∧0≤x4∧x4≤100000∧(x6=false→x4<x2)∧0≤x5∧x5≤2:=by
 unfold chk at h
 repeat' split at h
 all_goals first|omega|skip
 rename_i h1 h2 h3 h4
 cases x6<;>simp at h3 ⊢<;>omega
def side(x5:Int)(x6:Bool):Int:=if (x5=2)=(x6=true) then -1 else 1
theorem qzZ(x0 x1 x2 x3 x4 x5:Int)(x6:Bool)(h:0≤x5∧x5≤2):(qdo [.i x0,.i x1,.i x2,.i x3,.i x4,.i x5,.b x6]).run=some (0,[.i x0,.i x1,.i x2,.i x3,.i x4,.i x5,.b x6,.i (side x5 x6)]):=by
 rw[qxK]
 have h012:x5=0∨x5=1∨x5=2:=by omega
 cases x6<;>rcases h012 with rfl|rfl|rfl<;>rfl
theorem q7P(x0 x1 x2 x3 x4 x5:Int)(x6:Bool)(x7 x8:Int):(jM [.i x0,.i x1,.i x2,.i x3,.i x4,.i x5,.b x6,.i x7,.i x8]).run=some (0,[.i (if x8<0 then x2 else x3)]):=by
 rw[qgc]
 simp only[qh3,q5J,qnd]
 split<;>rfl
theorem qqz(x0 x1 x2 x3 x4 x5:Int)(x6:Bool):(jO [.i x0,.i x1,.i x2,.i x3,.i x4,.i x5,.b x6]).run=some (0,if chk x0 x1 x2 x3 x4 x5 x6=0 then [.i (if (x5=2)=(x6=true) then x2-x4 else x3+x4),.i 0] else [.i 0,.i (chk x0 x1 x2 x3 x4 x5 x6)]):=by
 rw[qo9]
 simp only[qh3,q5J,gB,gI,List.getD_cons_zero,PV.toB,PV.toI,if_true,qsV,qnj (q9x _ _ _ _ _ _ _),quR (q9x _ _ _ _ _ _ _)]
 by_cases hc:chk x0 x1 x2 x3 x4 x5 x6=0
 ·obtain⟨h1,h2,h3,h4,h5,h6,h7,h8,h9,h10,h11,h12,h13,h14⟩:=qoJ hc
  have e:=qzZ x0 x1 x2 x3 x4 x5 x6 ⟨h13,h14⟩
  simp only[hc,ne_eq,not_true_eq_false,if_false,qnj e,quR e,List.getD_cons_zero,List.getD_cons_succ,if_true,qnj (q7P _ _ _ _ _ _ _ _ _),quR (q7P _ _ _ _ _ _ _ _ _)]
  clear e hc
  congr 4
  unfold side
  split
  ·have e1:yM .i64 (-1) x4=-1*x4:=q17 (by omega)
   have e2:ql .i64 x2 (-1*x4)=x2+-1*x4:=z7 (by omega)
   rw[if_pos (show (-1:Int)<0 by decide),e1,e2];omega
  ·have e1:yM .i64 1 x4=1*x4:=q17 (by omega)
   have e2:ql .i64 x3 (1*x4)=x3+1*x4:=z7 (by omega)
   rw[if_neg (show ¬(1:Int)<0 by decide),e1,e2];omega
 ·simp[hc]
end Go.Eng

namespace Go.Eng
def ext(x2 x3 x5:Int)(x6:Bool)(n:Int):Int:=if x5=0 then 0 else if (x5=1)=(x6=true) then x3-n else n-x2
theorem qrH(x0 x1 x2 x3 x4 x5:Int)(x6:Bool)(n:Int):(q00 [.i x0,.i x1,.i x2,.i x3,.i x4,.i x5,.b x6,.i n]).run=some (0,[.b (decide (x2≤n∧n≤x3))]):=by
 rw[qqm];simp only[STD];by_cases h:x2≤n<;>simp[h,ile]
end Go.Eng

namespace Go.Eng
def qpG(a b c:Int):Int:=if -100000≤a∧a≤100000∧-100000≤b∧b≤100000∧1≤c∧c≤100000 then 0 else 2
theorem qmy{a b c:Int}(h:qpG a b c=0):-100000≤a∧a≤100000∧-100000≤b∧b≤100000∧1≤c∧c≤100000:=by
 unfold qpG at h;split at h
 ·assumption
 ·omega
theorem qv1(a b c:Int):(q7N [.i a,.i b,.i c]).run=some (0,[.i (qpG a b c)]):=by
 rw[qsU];simp only[STD,qn4,qhB];unfold qpG
 repeat' split
 all_goals first|rfl|omega
theorem qvg(a b c:Int):(q2L [.i a,.i b,.i c]).run=some (0,[.i (qpG a b c)]):=by
 rw[quy];simp only[STD,qfd,qhJ];unfold qpG
 repeat' split
 all_goals first|rfl|omega
def qsX(x0 x1 x2 x3 x4 x5:Int)(x6:Bool)(a b c:Int):Int:=if chk x0 x1 x2 x3 x4 x5 x6=0 then qpG a b c else chk x0 x1 x2 x3 x4 x5 x6
theorem qAo{x0 x1 x2 x3 x4 x5:Int}{x6:Bool}{a b c:Int}(h:qsX x0 x1 x2 x3 x4 x5 x6 a b c=0):chk x0 x1 x2 x3 x4 x5 x6=0∧qpG a b c=0:=by
 unfold qsX at h;split at h
 ·exact⟨by assumption,h⟩
 ·exact absurd h (by assumption)
theorem qnp(x0 x1 x2 x3 x4 x5:Int)(x6:Bool)(a b c:Int):(q85 [.i x0,.i x1,.i x2,.i x3,.i x4,.i x5,.b x6,.i a,.i b,.i c]).run=some (0,[.i (qsX x0 x1 x2 x3 x4 x5 x6 a b c)]):=by
 rw[qsY];simp only[STD,q9x,qv1];unfold qsX
 by_cases hc:chk x0 x1 x2 x3 x4 x5 x6=0<;>simp[hc]
def sq2(u v:Int):Int:=u*u+v*v
theorem qo8(x0 x1 x2 x3 x4 x5:Int)(x6:Bool)(a b c:Int):(j4 [.i x0,.i x1,.i x2,.i x3,.i x4,.i x5,.b x6,.i a,.i b,.i c]).run =
  some (0,if qsX x0 x1 x2 x3 x4 x5 x6 a b c=0 then [.i (sq2 (a-x0) (b-x1)),.i 0] else [.i 0,.i (qsX x0 x1 x2 x3 x4 x5 x6 a b c)]):=by
 rw[qmc]
 by_cases hc:qsX x0 x1 x2 x3 x4 x5 x6 a b c=0
 ·obtain⟨c1,c2⟩:=qAo hc
  obtain⟨h1,h2,h3,h4,_⟩:=qoJ c1
  obtain⟨k1,k2,k3,k4,_⟩:=qmy c2
  have e1:qv .i64 a x0=a-x0:=zT (by omega)
  have e2:qv .i64 b x1=b-x1:=zT (by omega)
  have b1:=qCT (a:=a-x0) (b:=a-x0) (A:=200000) (B:=200000) (by omega) (by omega) (by omega) (by omega)
  have b2:=qCT (a:=b-x1) (b:=b-x1) (A:=200000) (B:=200000) (by omega) (by omega) (by omega) (by omega)
  have e3:yM .i64 (a-x0) (a-x0)=(a-x0)*(a-x0):=q17 (by omega)
  have e4:yM .i64 (b-x1) (b-x1)=(b-x1)*(b-x1):=q17 (by omega)
  have e5:ql .i64 ((a-x0)*(a-x0)) ((b-x1)*(b-x1))=sq2 (a-x0) (b-x1):=z7 (by omega)
  simp only[STD,qnp,hc,qw5,e1,e2,e3,e4,e5]
 ·simp[qnp,hc,STD]
end Go.Eng

namespace Go.Eng
def qCI(l:R)(i:Nat):Int:=chk (cI l i 0) (cI l i 1) (cI l i 2) (cI l i 3) (cI l i 4) (cI l i 5) (cB l i 6)
def qzC(l:R)(i:Nat):Int:=qpG (cI l i 0) (cI l i 1) (cI l i 2)
end Go.Eng

namespace Go.Eng
def zD(x y n:Int):DQ:=⟨(x:Rat),(y:Rat),Rat.divInt n 2*Rat.divInt n 2⟩
theorem qGo(n:Int):Rat.divInt (n*n) 4=Rat.divInt n 2*Rat.divInt n 2:=by
 rw[Rat.divInt_mul_divInt];rfl
theorem qyS{x:Int}(h:-999999≤x∧x≤999999):nl x≤6:=by
 have:=qcv (m:=x) (n:=999999) (by omega)
 have e:nl 999999=6:=by decide
 omega
theorem qFC{x:Int}(h:-999999999999≤x∧x≤999999999999):nl x≤12:=by
 have:=qcv (m:=x) (n:=999999999999) (by omega)
 have e:nl 999999999999=12:=by decide
 omega
theorem qz1{n:Int}(h:-999999≤n∧n≤999999):0≤n*n∧n*n≤999998000001:=by
 have b:=qCT (a:=n) (b:=n) (A:=999999) (B:=999999) (by omega) (by omega) (by omega) (by omega)
 refine⟨?_,by omega⟩
 rcases Int.le_total 0 n with h0|h0
 ·exact Int.mul_nonneg h0 h0
 ·exact Int.mul_nonneg_of_nonpos_of_nonpos h0 h0
theorem qBR{x:Int}(h:-999999≤x∧x≤999999):cls (x:Rat):=by
 refine .inl ⟨?_,by simp⟩
 have:=qyS h
 unfold qn;simp;omega
theorem qwa{n:Int}(h:-999999≤n∧n≤999999):qFE (Rat.divInt n 2*Rat.divInt n 2):=by
 rw[←qGo]
 have r:=qz1 h
 have e:Rat.divInt (n*n) 4=mkRat (n*n) 4:=rfl
 rw[e]
 have m:=qc6 (n*n) 4
 have l:=qFC (x:=n*n) (by omega)
 have d:dl 4=1:=by decide
 unfold qFE qn qd
 omega
theorem qGz{x y n:Int}(hx:-999999≤x∧x≤999999)(hy:-999999≤y∧y≤999999)(hn:-999999≤n∧n≤999999):GD (zD x y n):=
 ⟨qBR hx,qBR hy,qwa hn,qbs _⟩
end Go.Eng

namespace Go.Eng
theorem qvi{m n:Int}(hn0:n≠0)(hm:okL m)(hn:okL n):(q7I [.s (tI m),.s (tI n)]).run=some (0,[.s (tQ (Rat.divInt m n)),.i 0]):=by
 rw[quh]
 have key:=v8 (S:=q1Q) (fun i=>[.s (tI m),.s (tI n),.i 2,.i (i:Int),.r [[.s (tI m)],[.s (tI n)]]]) (0,[.s (tI m),.s (tI n)]) 2 (by omega) (fun i hi=>by
  rw[qgL]
  rcases (show i=0∨i=1 by omega) with rfl|rfl
  ·have e:cS [[.s (tI m)],[.s (tI n)]] ((0:Nat):Int) 0=tI m:=rfl
   simp only[e,STD,qee hm,show qh [[U.s (tI m)],[.s (tI n)]]=2 from rfl]
   rfl
  ·have e:cS [[.s (tI m)],[.s (tI n)]] ((1:Nat):Int) 0=tI n:=rfl
   simp only[e,STD,qee hn,show qh [[U.s (tI m)],[.s (tI n)]]=2 from rfl]
   rfl) (by rw[qgL];simp only[STD,show ((2:Nat):Int)=2 from rfl,show ¬(2:Int)<2 by omega])
 have key':(qg q1Q [.s (tI m),.s (tI n),.i (qh [[U.s (tI m)],[.s (tI n)]]),.i 0,.r [[.s (tI m)],[.s (tI n)]]]).run=some (0,[.s (tI m),.s (tI n)]):=key
 have z:(seq (tI n) [48]=true)=False:=by rw[zW,q6R];exact eq_false hn0
 simp only[STD,key',qD key',z,(qlR hn0 hm hn).1]
theorem qAA{m n:Int}(hn0:n≠0)(hm:-999999999999999≤m∧m≤999999999999999)(hn:-999999999999999≤n∧n≤999999999999999):(qac [.i m,.i n]).run=some (0,[.s (tQ (Rat.divInt m n)),.i 0]):=by
 have ok:∀k:Int,-999999999999999≤k∧k≤999999999999999→okL k:=fun k hk=>by
  have:=qcv (m:=k) (n:=999999999999999) (by omega)
  have e:nl 999999999999999=15:=by decide
  unfold okL;omega
 rw[qwW]
 simp only[STD,q70 m (by omega),q70 n (by omega),qvi hn0 (ok m hm) (ok n hn)]
theorem qks{m:Int}(hm:-999999999999999≤m∧m≤999999999999999):(q1k [.i m]).run=some (0,[.s (tQ (m:Rat))]):=by
 rw[qrS,qwM]
 simp only[STD,q70 m (by omega)]
theorem qkT{m:Int}(hm:-999999999999999≤m∧m≤999999999999999):(q1l [.i m]).run=some (0,[.s (tQ (m:Rat))]):=by
 rw[qrL,qwM]
 simp only[STD,uR m (by omega) (by omega)]
theorem qvO{m n:Int}(hn0:n≠0)(hm:-999999999999999≤m∧m≤999999999999999)(hn:-999999999999999≤n∧n≤999999999999999):(q5j [.i m,.i n]).run=some (0,[.s (tQ (Rat.divInt m n))]):=by
 have ok:∀k:Int,-999999999999999≤k∧k≤999999999999999→nl k≤400000:=fun k hk=>by
  have:=qcv (m:=k) (n:=999999999999999) (by omega)
  have e:nl 999999999999999=15:=by decide
  omega
 rw[qtp]
 simp only[STD,uR m (by omega) (by omega),uR n (by omega) (by omega),qlX m n hn0 (ok m hm) (ok n hn)]
def inR(x:Int):Prop:=-999999≤x∧x≤999999
theorem qGG{n:Int}(h:inR n):-999999999999999≤n*n∧n*n≤999999999999999:=by have:=qz1 h;omega
theorem ko(l:R):(qh l=0)=(l.length=0):=by unfold qh;exact propext ⟨fun h=>by omega,fun h=>by omega⟩
structure Rt (x0 x1:R):Prop where
 n:x0.length≤16
 e:x1.length=x0.length
 ne:x0.length≠0
 t:∀i,i<x0.length→qCI x0 i=0
 r:∀i,i<x0.length→qzC x1 i=0
 i:∀i:Nat,i<x0.length→cI x0 i 2≤cI x1 i 2∧cI x1 i 2≤cI x0 i 3
end Go.Eng

namespace Go.Eng
theorem qAb{l:List DQ}(hs:∀d∈l,0≤d.s):(q4V l).length≤3∧((q4V l).length=0↔qkR l):=by
 rcases qwu hs with⟨h,e⟩|⟨h,i,j,_,_,e,_⟩|⟨h,_,i,j,k,_,_,_,e,_⟩<;>rw[e]
 ·exact⟨by simp,⟨fun _=>h,fun _=>rfl⟩⟩
 ·exact⟨by show 2≤3;omega,⟨fun z=>(by cases z),fun z=>absurd z h⟩⟩
 ·exact⟨Nat.le_refl 3,⟨fun z=>(by cases z),fun z=>absurd z h⟩⟩
end Go.Eng

namespace Go.Eng
def qkp(x0 x1:R)(i:Nat):Int:=
 if qCI x0 i=0 then (if qCI x1 i=0 then (if cI x0 i 5=1∧cI x1 i 5=1 then (if (cI x0 i 0=cI x1 i 0∧cI x0 i 1=cI x1 i 1)∧cB x0 i 6≠cB x1 i 6 then 0 else 16) else 14) else qCI x1 i) else qCI x0 i
theorem qzx{x0 x1:R}{i:Nat}(h:qkp x0 x1 i=0):qCI x0 i=0∧qCI x1 i=0∧(cI x0 i 5=1∧cI x1 i 5=1)∧(cI x0 i 0=cI x1 i 0∧cI x0 i 1=cI x1 i 1)∧cB x0 i 6≠cB x1 i 6:=by
 unfold qkp at h
 split at h
 ·rename_i h1
  split at h
  ·rename_i h2
   split at h
   ·rename_i h3
    split at h
    ·rename_i h4;exact⟨h1,h2,h3,h4.1,h4.2⟩
    ·omega
   ·omega
  ·rename_i h2;exact absurd h h2
 ·rename_i h1;exact absurd h h1
def q87(x0 x1:R):Int:=if x0.length=0 then 13 else if 16<x0.length then 5 else if x1.length=x0.length then q5l (qkp x0 x1) x0.length else 8
structure Jt (x0 x1:R):Prop where
 n:x0.length≤16
 ne:x0.length≠0
 e:x1.length=x0.length
 p:∀i,i<x0.length→qkp x0 x1 i=0
theorem qaj{x0 x1:R}(h:q87 x0 x1=0):Jt x0 x1:=by
 unfold q87 at h
 split at h
 ·omega
 ·rename_i h1
  split at h
  ·omega
  ·rename_i h2
   split at h
   ·rename_i h3;exact⟨by omega,h1,h3,fun i hi=>qpx h i hi⟩
   ·omega
def gau(l:R)(i:Nat):Int:=if cB l i 6=true then cI l i 3+cI l i 4 else cI l i 2-cI l i 4
theorem qFp{l:R}{i:Nat}(h:cI l i 5=1):(if (cI l i 5=2)=(cB l i 6=true) then cI l i 2-cI l i 4 else cI l i 3+cI l i 4)=gau l i:=by
 unfold gau
 rw[h]
 cases cB l i 6<;>simp
def mgA(x0 x1:R)(i:Nat):Int:=if cB x0 i 6=true then gau x1 i-gau x0 i else gau x0 i-gau x1 i
def mgL(x0 x1:R)(n:Nat):R:=qCk (fun i=>[.i (mgA x0 x1 i)]) n
def qDg(x0 x1:R):Bool:=decide (∀i,i<x0.length→0≤mgA x0 x1 i)
def qCR(l c:R)(i:Nat):Prop:=cI l i 2≤cI c i 2∧cI c i 2≤cI l i 3
instance (l c:R) (i:Nat):Decidable (qCR l c i):=inferInstanceAs (Decidable (_∧_))
def qCS(x0 x1 x2 x3:R)(i:Nat):Int:=if qzC x2 i=0 then (if qzC x3 i=0 then (if qCR x0 x2 i∧qCR x1 x3 i then 0 else 14) else qzC x3 i) else qzC x2 i
theorem qBu{x0 x1 x2 x3:R}{i:Nat}(h:qCS x0 x1 x2 x3 i=0):qzC x2 i=0∧qzC x3 i=0∧qCR x0 x2 i∧qCR x1 x3 i:=by
 unfold qCS at h
 split at h
 ·rename_i h1
  split at h
  ·rename_i h2
   split at h
   ·rename_i h3;exact⟨h1,h2,h3⟩
   ·omega
  ·rename_i h2;exact absurd h h2
 ·rename_i h1;exact absurd h h1
def qt1(x0 x1 x2 x3:R):Int:=if q87 x0 x1=0 then (if x2.length=x0.length∧x3.length=x1.length then q5l (qCS x0 x1 x2 x3) x0.length else 8) else q87 x0 x1
structure Gv (x0 x1 x2 x3:R):Prop where
 j:Jt x0 x1
 e2:x2.length=x0.length
 e3:x3.length=x0.length
 g:∀i,i<x0.length→qCS x0 x1 x2 x3 i=0
theorem qdB{x0 x1 x2 x3:R}(h:qt1 x0 x1 x2 x3=0):Gv x0 x1 x2 x3:=by
 unfold qt1 at h
 split at h
 ·rename_i h1
  have j:=qaj h1
  split at h
  ·rename_i h2;exact⟨j,h2.1,h2.2.trans j.e,fun i hi=>qpx h i hi⟩
  ·omega
 ·rename_i h1;exact absurd h h1
def q2x(x0 x2 x3:R)(i:Nat):Int:=if cB x0 i 6=true then cI x3 i 2-cI x2 i 2 else cI x2 i 2-cI x3 i 2
def qGY(x0 x2 x3:R)(i:Nat):Bool:=decide (0≤q2x x0 x2 x3 i∧4*sq2 (cI x2 i 0-cI x3 i 0) (cI x2 i 1-cI x3 i 1)≤q2x x0 x2 x3 i*q2x x0 x2 x3 i)
def zA(x0 x2 x3:R)(i:Nat):DQ:=zD (cI x3 i 0-cI x2 i 0) (cI x3 i 1-cI x2 i 1) (q2x x0 x2 x3 i)
def zAT(x0 x2 x3:R)(k:Nat):List DQ:=(List.range k).map (zA x0 x2 x3)
theorem qz2(x0 x2 x3:R)(k:Nat):zAT x0 x2 x3 (k+1)=zAT x0 x2 x3 k++[zA x0 x2 x3 k]:=by unfold zAT;rw[List.range_succ,List.map_append];rfl
theorem qk4(x0 x2 x3:R)(k:Nat):(zAT x0 x2 x3 k).length=k:=by simp[zAT]
def qcg(x0 x2 x3:R):Option Nat:=jQ (fun i=>if q2x x0 x2 x3 i<0 then some i else none) 0 x0.length
structure GvN (x0 x2 x3:R) (i:Nat):Prop where
 ax:-100000≤cI x2 i 0∧cI x2 i 0≤100000
 ay:-100000≤cI x2 i 1∧cI x2 i 1≤100000
 sa:1≤cI x2 i 2∧cI x2 i 2≤100000
 bx:-100000≤cI x3 i 0∧cI x3 i 0≤100000
 by_:-100000≤cI x3 i 1∧cI x3 i 1≤100000
 sb:1≤cI x3 i 2∧cI x3 i 2≤100000
 pl:-100000≤q2x x0 x2 x3 i∧q2x x0 x2 x3 i≤100000
theorem Gv.num{x0 x1 x2 x3:R}(h:Gv x0 x1 x2 x3){i:Nat}(hi:i<x0.length):GvN x0 x2 x3 i:=by
 obtain⟨h1,h2,_,_⟩:=qBu (h.g i hi)
 obtain⟨a1,a2,a3,a4,a5,a6⟩:=qmy h1
 obtain⟨b1,b2,b3,b4,b5,b6⟩:=qmy h2
 refine⟨⟨a1,a2⟩,⟨a3,a4⟩,⟨a5,a6⟩,⟨b1,b2⟩,⟨b3,b4⟩,⟨b5,b6⟩,?_⟩
 unfold q2x;split<;>omega
theorem Gv.gd{x0 x1 x2 x3:R}(h:Gv x0 x1 x2 x3){i:Nat}(hi:i<x0.length):GD (zA x0 x2 x3 i):=by
 have n:=h.num hi
 obtain⟨n1,n2,n3,n4,n5,n6,n7⟩:=n
 exact qGz (by omega) (by omega) (by omega)
theorem Gv.gds{x0 x1 x2 x3:R}(h:Gv x0 x1 x2 x3):GDs (zAT x0 x2 x3 x0.length):=fun d hd=>by
 obtain⟨i,hi,rfl⟩:=List.mem_map.1 hd
 exact h.gd (List.mem_range.1 hi)
theorem Gv.nez{x0 x1 x2 x3:R}(h:Gv x0 x1 x2 x3):zAT x0 x2 x3 x0.length≠[]:=by
 intro e
 have:=congrArg List.length e
 rw[qk4] at this
 exact h.j.ne this
theorem Gv.nn{x0 x1 x2 x3:R}(h:Gv x0 x1 x2 x3):∀d∈zAT x0 x2 x3 x0.length,0≤d.s:=fun d hd=>(h.gds d hd).nn
end Go.Eng

namespace Go.Eng
theorem qvB{p:Nat→Bool}:∀{n:Nat},(qh (pick p n)=0)↔∀i,i<n→p i=false
 | 0=>by simp[pick,qh]
 | n+1=>by
  have ih:=qvB (p:=p) (n:=n)
  unfold pick
  by_cases hp:p n=true
  ·rw[if_pos hp]
   constructor
   ·intro h;unfold qh q6B at h;simp at h;omega
   ·intro h;rw[h n (by omega)] at hp;cases hp
  ·have hp':p n=false:=by simpa using hp
   rw[if_neg hp,ih]
   constructor
   ·intro h i hi
    rcases Nat.lt_or_ge i n with h'|h'
    ·exact h i h'
    ·obtain rfl:i=n:=by omega
     exact hp'
   ·intro h i hi;exact h i (by omega)
def qD1(a0 a1 a2 a3 a4 a5:Int)(a6:Bool)(b0 b1 b2 b3 b4 b5:Int)(b6:Bool):Int:=
 if chk a0 a1 a2 a3 a4 a5 a6=0 then (if chk b0 b1 b2 b3 b4 b5 b6=0 then (if a5=1∧b5=1 then (if (a0=b0∧a1=b1)∧a6≠b6 then 0 else 16) else 14) else chk b0 b1 b2 b3 b4 b5 b6) else chk a0 a1 a2 a3 a4 a5 a6
theorem qzq(e:Nat→Int):q5l e 2=if e 0=0 then e 1 else e 0:=by
 unfold q5l jQ jQ jQ qo0
 by_cases h0:e 0=0
 ·by_cases h1:e 1=0<;>simp[h0,h1]
 ·simp[h0]
theorem qqu(a0 a1 a2 a3 a4 a5:Int)(a6:Bool)(b0 b1 b2 b3 b4 b5:Int)(b6:Bool) :
  (q0C [.i a0,.i a1,.i a2,.i a3,.i a4,.i a5,.b a6,.i b0,.i b1,.i b2,.i b3,.i b4,.i b5,.b b6]).run=some (0,[.i (qD1 a0 a1 a2 a3 a4 a5 a6 b0 b1 b2 b3 b4 b5 b6)]):=by
 rw[qnX]
 have key:=qej (S:=ug) (fun i=>[.i 2,.i (i:Int),.i a0,.i a1,.i a2,.i a3,.i a4,.i a5,.b a6,.i b0,.i b1,.i b2,.i b3,.i b4,.i b5,.b b6,.r [[.i a0,.i a1,.i a2,.i a3,.i a4,.i a5,.b a6],[.i b0,.i b1,.i b2,.i b3,.i b4,.i b5,.b b6]]])
  (fun i=>if i=0 then chk a0 a1 a2 a3 a4 a5 a6 else chk b0 b1 b2 b3 b4 b5 b6) [] [.i a0,.i a1,.i a2,.i a3,.i a4,.i a5,.b a6,.i b0,.i b1,.i b2,.i b3,.i b4,.i b5,.b b6] 2 (by omega) (fun i hi=>by
  rw[qbW]
  simp only[q9x,STD]
  rcases (show i=0∨i=1 by omega) with rfl|rfl
  ·rw[if_pos (show ((0:Nat):Int)<2 by omega),if_pos (show (0:Int)≤((0:Nat):Int)∧((0:Nat):Int)<qh [[U.i a0,.i a1,.i a2,.i a3,.i a4,.i a5,.b a6],[.i b0,.i b1,.i b2,.i b3,.i b4,.i b5,.b b6]] from⟨by omega,by show (0:Int)<2;omega⟩)]
   by_cases hc:chk a0 a1 a2 a3 a4 a5 a6=0
   ·rw[if_pos (show (if (0:Nat)=0 then chk a0 a1 a2 a3 a4 a5 a6 else chk b0 b1 b2 b3 b4 b5 b6)=0 from hc)]
    exact if_neg (fun h=>h hc)
   ·rw[if_neg (show ¬(if (0:Nat)=0 then chk a0 a1 a2 a3 a4 a5 a6 else chk b0 b1 b2 b3 b4 b5 b6)=0 from hc)]
    exact if_pos hc
  ·rw[if_pos (show ((1:Nat):Int)<2 by omega),if_pos (show (0:Int)≤((1:Nat):Int)∧((1:Nat):Int)<qh [[U.i a0,.i a1,.i a2,.i a3,.i a4,.i a5,.b a6],[.i b0,.i b1,.i b2,.i b3,.i b4,.i b5,.b b6]] from⟨by omega,by show (1:Int)<2;omega⟩)]
   by_cases hc:chk b0 b1 b2 b3 b4 b5 b6=0
   ·rw[if_pos (show (if (1:Nat)=0 then chk a0 a1 a2 a3 a4 a5 a6 else chk b0 b1 b2 b3 b4 b5 b6)=0 from hc)]
    exact if_neg (fun h=>h hc)
   ·rw[if_neg (show ¬(if (1:Nat)=0 then chk a0 a1 a2 a3 a4 a5 a6 else chk b0 b1 b2 b3 b4 b5 b6)=0 from hc)]
    exact if_pos hc) (by rw[qbW];simp only[STD,show ¬(((2:Nat):Int)<2) by omega])
 rw[qzq] at key
 simp only[show ((1:Nat)=0)=False by simp,if_true,if_false] at key
 have key':(qg ug [.i (qh [[U.i a0,.i a1,.i a2,.i a3,.i a4,.i a5,.b a6],[.i b0,.i b1,.i b2,.i b3,.i b4,.i b5,.b b6]]),.i 0,.i a0,.i a1,.i a2,.i a3,.i a4,.i a5,.b a6,.i b0,.i b1,.i b2,.i b3,.i b4,.i b5,.b b6,.r [[.i a0,.i a1,.i a2,.i a3,.i a4,.i a5,.b a6],[.i b0,.i b1,.i b2,.i b3,.i b4,.i b5,.b b6]]]).run=_:=key
 unfold qD1
 by_cases ha:chk a0 a1 a2 a3 a4 a5 a6=0
 ·by_cases hb:chk b0 b1 b2 b3 b4 b5 b6=0
  ·simp only[ha,hb,if_true] at key'
   simp only[STD,key',qD key',ha,hb]
   by_cases c1:a5=1<;>by_cases c2:b5=1<;>by_cases c3:a0=b0<;>by_cases c4:a1=b1<;>by_cases c5:a6=b6<;>simp[c1,c2,c3,c4,c5]
  ·simp only[ha,hb,if_true,if_false] at key'
   simp only[STD,key',qD key',ha,hb]
   rfl
 ·simp only[ha,if_false] at key'
  simp only[STD,key',qD key',ha]
  rfl
theorem quG(a0 a1 a2 a3 a4 a5:Int)(a6:Bool)(b0 b1 b2 b3 b4 b5:Int)(b6:Bool) :
  (q5n [.i a0,.i a1,.i a2,.i a3,.i a4,.i a5,.b a6,.i b0,.i b1,.i b2,.i b3,.i b4,.i b5,.b b6]).run=some (0,[.i (qD1 a0 a1 a2 a3 a4 a5 a6 b0 b1 b2 b3 b4 b5 b6)]):=by
 rw[qtY]
 unfold qD1
 by_cases ha:chk a0 a1 a2 a3 a4 a5 a6=0
 ·by_cases hb:chk b0 b1 b2 b3 b4 b5 b6=0
  ·simp only[STD,qf9,ha,hb]
   by_cases c1:a5=1<;>by_cases c2:b5=1<;>by_cases c3:a0=b0<;>by_cases c4:a1=b1<;>by_cases c5:a6=b6<;>simp[c1,c2,c3,c4,c5]
  ·simp only[STD,qf9,ha,hb]
 ·simp only[STD,qf9,ha]
theorem q6g(l m:R):(qh l=qh m)=(l.length=m.length):=by unfold qh;exact propext ⟨fun h=>by omega,fun h=>by omega⟩
theorem qy7(l:R)(n:Nat):((n:Int)<qh l)=(n<l.length):=by unfold qh;exact propext ⟨fun h=>by omega,fun h=>by omega⟩
theorem yt(x0 x1:R)(h:x0.length<9223372036854775808):(wX [.r x0,.r x1]).run=some (0,[.i (q87 x0 x1)]):=by
 rw[qna]
 unfold q87
 have g:=qy7 x0 16
 simp only[show ((16:Nat):Int)=16 from rfl] at g
 by_cases h0:x0.length=0
 ·simp only[STD,ko,h0]
 by_cases h1:16<x0.length
 ·simp only[STD,ko,h0,g,h1]
 by_cases h2:x1.length=x0.length
 ·have key:=qej (S:=ur) (fun i=>[.i (qh x0),.i (i:Int),.r x0,.r x1]) (qkp x0 x1) [] [] x0.length h (fun i hi=>by
   rw[q90]
   have a1:(i:Int)<qh x0:=by unfold qh;omega
   have a2:(i:Int)<qh x1:=by unfold qh;omega
   simp only[STD,a1,a2,jS,and_self,kI hi h,qqu]
   show (if ¬qkp x0 x1 i=0 then some (2,[PV.i (qkp x0 x1 i)]) else _)=_
   by_cases c:qkp x0 x1 i=0
   ·rw[if_neg (fun z=>z c),if_pos c]
   ·rw[if_pos c,if_neg c]) (by
   rw[q90]
   simp only[STD,show ¬((x0.length:Int)<qh x0) by unfold qh;omega])
  simp only[show (((0:Nat)):Int)=0 from rfl] at key
  by_cases c:q5l (qkp x0 x1) x0.length=0
  ·rw[if_pos c] at key
   simp only[STD,ko,h0,g,h1,q6g,h2,key,qD key,c]
  ·rw[if_neg c] at key
   simp only[STD,ko,h0,g,h1,q6g,h2,key,qD key]
   rfl
 ·simp only[STD,ko,h0,g,h1,q6g,h2,show ¬(x0.length=x1.length) from fun e=>h2 e.symm]
theorem q5M(x0 x1:R)(h:x0.length<9223372036854775808):(q31 [.r x0,.r x1]).run=some (0,[.i (q87 x0 x1)]):=by
 rw[qrP]
 unfold q87
 have g:=qy7 x0 16
 simp only[show ((16:Nat):Int)=16 from rfl] at g
 by_cases h0:x0.length=0
 ·simp only[STD,ko,h0]
 by_cases h1:16<x0.length
 ·simp only[STD,ko,h0,g,h1]
 by_cases h2:x1.length=x0.length
 ·have key:=qej (S:=q1A) (fun i=>[.i (i:Int),.r x0,.r x1]) (qkp x0 x1) [] [] x0.length h (fun i hi=>by
   rw[qe1]
   have a1:(i:Int)<qh x0:=by unfold qh;omega
   have a2:(i:Int)<qh x1:=by unfold qh;omega
   simp only[STD,a1,a2,jS,and_self,kI hi h,quG]
   show (if ¬qkp x0 x1 i=0 then some (2,[PV.i (qkp x0 x1 i)]) else _)=_
   by_cases c:qkp x0 x1 i=0
   ·rw[if_neg (fun z=>z c),if_pos c]
   ·rw[if_pos c,if_neg c]) (by
   rw[qe1]
   simp only[STD,show ¬((x0.length:Int)<qh x0) by unfold qh;omega])
  simp only[show (((0:Nat)):Int)=0 from rfl] at key
  by_cases c:q5l (qkp x0 x1) x0.length=0
  ·rw[if_pos c] at key
   simp only[STD,ko,h0,g,h1,q6g,h2,key,qD key,c]
  ·rw[if_neg c] at key
   simp only[STD,ko,h0,g,h1,q6g,h2,key,qD key]
   rfl
 ·simp only[STD,ko,h0,g,h1,q6g,h2]
structure JtN (x0 x1:R) (i:Nat):Prop where
 ga:-100000≤gau x0 i∧gau x0 i≤200000
 gb:-100000≤gau x1 i∧gau x1 i≤200000
 t0:qCI x0 i=0
 t1:qCI x1 i=0
 m0:cI x0 i 5=1
 m1:cI x1 i 5=1
theorem Jt.num{x0 x1:R}(h:Jt x0 x1){i:Nat}(hi:i<x0.length):JtN x0 x1 i:=by
 obtain⟨t0,t1,⟨m0,m1⟩,_,_⟩:=qzx (h.p i hi)
 obtain⟨a1,a2,a3,a4,a5,a6,a7,a8,a9,a10,a11,_⟩:=qoJ t0
 obtain⟨b1,b2,b3,b4,b5,b6,b7,b8,b9,b10,b11,_⟩:=qoJ t1
 refine⟨?_,?_,t0,t1,m0,m1⟩<;>unfold gau<;>split<;>omega
def qyU(x0 x1:R):List PV:=if q87 x0 x1=0 then [.r (mgL x0 x1 x0.length),.i 0] else [.r [],.i (q87 x0 x1)]
theorem qvx{l:R}{i:Nat}(ht:qCI l i=0)(hm:cI l i 5=1):(jO [.i (cI l i 0),.i (cI l i 1),.i (cI l i 2),.i (cI l i 3),.i (cI l i 4),.i (cI l i 5),.b (cB l i 6)]).run=some (0,[.i (gau l i),.i 0]):=by
 rw[qqz]
 have t:chk (cI l i 0) (cI l i 1) (cI l i 2) (cI l i 3) (cI l i 4) (cI l i 5) (cB l i 6)=0:=ht
 rw[if_pos t,qFp hm]
theorem qoD{l:R}{n:Nat}(h:l.length≤n)(hn:n≤1000000)(x:U):qh l+qh [[x]]≤17592186044416:=by
 rw[qDr];unfold qh;omega
theorem qc0(x0 x1:R)(h:x0.length<9223372036854775808):(vP [.r x0,.r x1]).run=some (0,qyU x0 x1):=by
 rw[qjQ]
 unfold qyU
 by_cases hc:q87 x0 x1=0
 ·have j:=qaj hc
  have hn:=j.n
  have key:=v8 (S:=vX) (fun i=>[.r x0,.i (qh x0),.i (i:Int),.r x0,.r x1,.r (mgL x0 x1 i)]) (0,[.r (mgL x0 x1 x0.length)]) x0.length h (fun i hi=>by
   rw[q7V]
   have a1:(i:Int)<qh x0:=by unfold qh;omega
   have a2:(i:Int)<qh x1:=by unfold qh;have:=j.e;omega
   have n:=j.num hi
   obtain⟨n1,n2,n3,n4,n5,n6⟩:=n
   have v0:=qvx n3 n5
   have v1:=qvx n4 n6
   have w0:ql .i64 0 0=0:=by decide
   have w1:qv .i64 (gau x0 i) (gau x1 i)=gau x0 i-gau x1 i:=zT (by omega)
   have w2:qv .i64 (gau x1 i) (gau x0 i)=gau x1 i-gau x0 i:=zT (by omega)
   have room:=fun x=>qoD (l:=mgL x0 x1 i) (n:=16) (by unfold mgL;rw[quu];omega) (by omega) x
   simp only[STD,a1,a2,jS,and_self,v0,v1,w0,w1,w2,kI hi h,room]
   have m:q6B (mgL x0 x1 i) [[.i (mgA x0 x1 i)]]=mgL x0 x1 (i+1):=qvU _ i
   rw[←m]
   unfold mgA
   cases cB x0 i 6<;>rfl) (by
   rw[q7V]
   simp only[STD,show ¬((x0.length:Int)<qh x0) by unfold qh;omega])
  have key':(qg vX [.r x0,.i (qh x0),.i 0,.r x0,.r x1,.r []]).run=some (0,[.r (mgL x0 x1 x0.length)]):=key
  simp only[STD,yt x0 x1 h,hc,key',qD key']
 ·simp only[STD,yt x0 x1 h,hc]
theorem qj8(l:R)(h:l.length≤1000000):(qk [.r l]).run=some (0,[.r (pick (fun i=>decide (cI l i 0<0)) l.length)]):=by
 rw[q1K]
 have key:=v8 (S:=qy) (fun i=>[.r l,.i (qh l),.i (i:Int),.r (pick (fun i=>decide (cI l i 0<0)) i)]) (0,[.r (pick (fun i=>decide (cI l i 0<0)) l.length)]) l.length (by omega) (fun i hi=>by
  rw[vC]
  have a1:(i:Int)<qh l:=by unfold qh;omega
  have pl:=qtf (fun i=>decide (cI l i 0<0)) i
  have room:=qoD (l:=pick (fun i=>decide (cI l i 0<0)) i) (n:=i) pl (by omega) (.i (i:Int))
  simp only[STD,a1,jS,and_self,qia,kI hi (by omega),room,pick]
  by_cases c:cI l i 0<0
  ·simp only[c,if_true]
  ·simp only[c,if_false]) (by
  rw[vC]
  simp only[STD,show ¬((l.length:Int)<qh l) by unfold qh;omega])
 have key':(qg qy [.r l,.i (qh l),.i 0,.r []]).run=some (0,[.r (pick (fun i=>decide (cI l i 0<0)) l.length)]):=key
 simp only[STD,key']
def qEA(x0 x1:R):List PV:=if q87 x0 x1=0 then [.b (qDg x0 x1),.i 0] else [.b false,.i (q87 x0 x1)]
theorem qBW(x0 x1:R)(n:Nat):(mgL x0 x1 n).length=n:=by unfold mgL;exact quu _ _
theorem qEd(x0 x1:R){n i:Nat}(h:i<n):cI (mgL x0 x1 n) i 0=mgA x0 x1 i:=by unfold mgL;rw[qC1 _ h];rfl
theorem qCr(x0 x1:R):ieq (qh (pick (fun i=>decide (cI (mgL x0 x1 x0.length) i 0<0)) x0.length)) 0=qDg x0 x1:=by
 unfold ieq qDg
 rw[Bool.eq_iff_iff,beq_iff_eq,qvB,decide_eq_true_iff]
 constructor
 ·intro hh i hi
  have:=hh i hi
  rw[decide_eq_false_iff_not,qEd x0 x1 hi] at this
  omega
 ·intro hh i hi
  have:=hh i hi
  rw[decide_eq_false_iff_not,qEd x0 x1 hi]
  omega
theorem qq1(x0 x1:R)(h:x0.length<9223372036854775808):(q2C [.r x0,.r x1]).run=some (0,qEA x0 x1):=by
 rw[qoo]
 unfold qEA
 have m:=qc0 x0 x1 h
 unfold qyU at m
 by_cases hc:q87 x0 x1=0
 ·have j:=qaj hc
  rw[if_pos hc] at m
  have f:=qj8 (mgL x0 x1 x0.length) (by rw[qBW];have:=j.n;omega)
  rw[qBW] at f
  simp only[STD,m,hc,f]
  rw[qCr]
 ·rw[if_neg hc] at m
  simp only[STD,m,hc]
end Go.Eng

namespace Go.Eng
theorem qDD(l c:R)(i:Nat)(x y:Int):(jf [.i (cI l i 0),.i (cI l i 1),.i (cI l i 2),.i (cI l i 3),.i (cI l i 4),.i (cI l i 5),.b (cB l i 6),.i x,.i y,.i (cI c i 2)]).run=some (0,[.b (decide (qCR l c i))]):=by
 rw[qkw]
 unfold qCR
 by_cases h1:cI l i 2≤cI c i 2
 ·by_cases h2:cI c i 2≤cI l i 3
  ·simp only[STD,h1,h2,and_self,decide_true]
   rw[show ile (cI c i 2) (cI l i 3)=true from by simp[ile,h2]]
  ·simp only[STD,h1,h2,and_false,decide_false]
   rw[show ile (cI c i 2) (cI l i 3)=false from by simp[ile];omega]
 ·simp only[STD,h1,false_and,decide_false]
theorem qDX{l c:R}{i:Nat}(ht:qCI l i=0):∃d,(j4 [.i (cI l i 0),.i (cI l i 1),.i (cI l i 2),.i (cI l i 3),.i (cI l i 4),.i (cI l i 5),.b (cB l i 6),.i (cI c i 0),.i (cI c i 1),.i (cI c i 2)]).run=some (0,[.i d,.i (qzC c i)]):=by
 rw[qo8]
 have t:chk (cI l i 0) (cI l i 1) (cI l i 2) (cI l i 3) (cI l i 4) (cI l i 5) (cB l i 6)=0:=ht
 have e:qsX (cI l i 0) (cI l i 1) (cI l i 2) (cI l i 3) (cI l i 4) (cI l i 5) (cB l i 6) (cI c i 0) (cI c i 1) (cI c i 2)=qzC c i:=by unfold qsX;rw[if_pos t];rfl
 rw[e]
 by_cases hr:qzC c i=0
 ·rw[if_pos hr];exact⟨_,by rw[hr]⟩
 ·rw[if_neg hr];exact⟨_,rfl⟩
theorem vz(x0 x1 x2 x3 : R)(h : x0.length < 9223372036854775808) : (wi [.r x0, .r x1, .r x2, .r x3]).run = some (0, [.i (qt1 x0 x1 x2 x3)]) := by
  rw[qlm]
  unfold qt1
  by_cases hc:q87 x0 x1=0
  · have j:=qaj hc
    have je:=j.e
    by_cases h2:x2.length=x0.length
    · by_cases h3:x3.length=x1.length
      · have key:=qej (S:=yB) (fun i=>[.i (qh x0),.i (i:Int),.r x0,.r x1,.r x2,.r x3]) (qCS x0 x1 x2 x3) [] [] x0.length h (fun i hi=>by
          rw[q7K]
          have a0:(i:Int)<qh x0:=by unfold qh;omega
          have a1:(i:Int)<qh x1:=by unfold qh;omega
          have a2:(i:Int)<qh x2:=by unfold qh;omega
          have a3:(i:Int)<qh x3:=by unfold qh;omega
          have n:=j.num hi
          obtain⟨d0,v0⟩:=qDX (c:=x2) n.t0
          obtain⟨d1,v1⟩:=qDX (c:=x3) n.t1
          simp only[STD,a0,a1,a2,a3,jS,and_self,v0,v1,qDD,kI hi h]
          unfold qCS
          by_cases c1:qzC x2 i=0
          · by_cases c2:qzC x3 i=0
            · by_cases c3:qCR x0 x2 i
              · by_cases c4:qCR x1 x3 i<;>simp[c1,c2,c3,c4]
              · simp[c1,c2,c3]
            · simp[c1,c2]
          · simp[c1]) (by
          rw[q7K]
          simp only[STD,show ¬((x0.length:Int)<qh x0) by unfold qh;omega])
        simp only[show (((0:Nat)):Int)=0 from rfl] at key
        by_cases c:q5l (qCS x0 x1 x2 x3) x0.length=0
        · rw[if_pos c] at key
          simp only[STD,yt x0 x1 h,hc,q6g,h2,h3,key,qD key,c,and_self]
        · rw[if_neg c] at key
          simp only[STD,yt x0 x1 h,hc,q6g,h2,h3,key,qD key,and_self]
          rfl
      · simp only[STD,yt x0 x1 h,hc,q6g,h2,h3,and_false]
    · simp only[STD,yt x0 x1 h,hc,q6g,h2,false_and]
  · simp only[STD,yt x0 x1 h,hc]
theorem q1g(x0 x1 x2 x3:R)(h:x0.length<9223372036854775808):(yX [.r x0,.r x1,.r x2,.r x3]).run=some (0,[.i (qt1 x0 x1 x2 x3)]):=by
 rw[qrx]
 unfold qt1
 by_cases hc:q87 x0 x1=0
 ·have j:=qaj hc
  have je:=j.e
  by_cases h2:x2.length=x0.length
  ·by_cases h3:x3.length=x1.length
   ·have key:=qej (S:=q1r) (fun i=>[.i (i:Int),.r x0,.r x1,.r x2,.r x3]) (qCS x0 x1 x2 x3) [] [] x0.length h (fun i hi=>by
     rw[qdE]
     have a0:(i:Int)<qh x0:=by unfold qh;omega
     have a1:(i:Int)<qh x1:=by unfold qh;omega
     have a2:(i:Int)<qh x2:=by unfold qh;omega
     have a3:(i:Int)<qh x3:=by unfold qh;omega
     simp only[STD,a0,a1,a2,a3,jS,and_self,qvg,qrH,kI hi h]
     unfold qCS qCR qzC
     by_cases c1:qpG (cI x2 i 0) (cI x2 i 1) (cI x2 i 2)=0
     ·by_cases c2:qpG (cI x3 i 0) (cI x3 i 1) (cI x3 i 2)=0
      ·by_cases c3:cI x0 i 2≤cI x2 i 2∧cI x2 i 2≤cI x0 i 3
       ·by_cases c4:cI x1 i 2≤cI x3 i 2∧cI x3 i 2≤cI x1 i 3
        ·simp only[c1,c2,c3,c4,and_self,not_true_eq_false,if_false,if_true]
        ·simp only[c1,c2,c3,c4,and_self,and_false,not_true_eq_false,not_false_eq_true,if_false,if_true];rfl
       ·simp only[c1,c2,c3,false_and,not_true_eq_false,not_false_eq_true,if_false,if_true];rfl
      ·simp only[c1,c2,not_true_eq_false,not_false_eq_true,if_false,if_true]
     ·simp only[c1,not_false_eq_true,if_false,if_true]) (by
     rw[qdE]
     simp only[STD,show ¬((x0.length:Int)<qh x2) by unfold qh;omega])
    simp only[show (((0:Nat)):Int)=0 from rfl] at key
    by_cases c:q5l (qCS x0 x1 x2 x3) x0.length=0
    ·rw[if_pos c] at key
     simp only[STD,q5M x0 x1 h,hc,q6g,h2,h3,key,qD key,c,and_self]
    ·rw[if_neg c] at key
     simp only[STD,q5M x0 x1 h,hc,q6g,h2,h3,key,qD key,and_self]
     rfl
   ·simp only[STD,q5M x0 x1 h,hc,q6g,h2,h3,and_false]
  ·simp only[STD,q5M x0 x1 h,hc,q6g,h2,false_and]
 ·simp only[STD,q5M x0 x1 h,hc]
def plL(x0 x2 x3:R)(n:Nat):R:=qCk (fun i=>[.i (q2x x0 x2 x3 i)]) n
theorem qka(x0 x2 x3:R)(n:Nat):(plL x0 x2 x3 n).length=n:=by unfold plL;exact quu _ _
theorem qAB(x0 x2 x3:R){n i:Nat}(h:i<n):cI (plL x0 x2 x3 n) i 0=q2x x0 x2 x3 i:=by unfold plL;rw[qC1 _ h];rfl
theorem qmP{x0 x1 x2 x3:R}(g:Gv x0 x1 x2 x3):(zq [.r x0,.r x1,.r x2,.r x3]).run=some (0,[.r (plL x0 x2 x3 x0.length)]):=by
 rw[qmG]
 have hn:=g.j.n
 have key:=v8 (S:=yb) (fun i=>[.r x0,.i (qh x0),.i (i:Int),.r x2,.r x3,.r (plL x0 x2 x3 i)]) (0,[.r (plL x0 x2 x3 x0.length)]) x0.length (by omega) (fun i hi=>by
  rw[qaz]
  have a0:(i:Int)<qh x0:=by unfold qh;omega
  have a2:(i:Int)<qh x2:=by unfold qh;have:=g.e2;omega
  have a3:(i:Int)<qh x3:=by unfold qh;have:=g.e3;omega
  obtain⟨_,_,n3,_,_,n6,_⟩:=g.num hi
  have w1:qv .i64 (cI x2 i 2) (cI x3 i 2)=cI x2 i 2-cI x3 i 2:=zT (by omega)
  have w2:qv .i64 0 (cI x2 i 2-cI x3 i 2)=cI x3 i 2-cI x2 i 2:=by rw[qul (by omega)];omega
  have room:=fun x=>qoD (l:=plL x0 x2 x3 i) (n:=16) (by rw[qka];omega) (by omega) x
  simp only[STD,a0,a2,a3,jS,and_self,w1,w2,kI hi (show x0.length<9223372036854775808 by omega),room]
  have m:q6B (plL x0 x2 x3 i) [[.i (q2x x0 x2 x3 i)]]=plL x0 x2 x3 (i+1):=qvU _ i
  rw[←m]
  unfold q2x
  cases cB x0 i 6<;>rfl) (by
  rw[qaz]
  simp only[STD,show ¬((x0.length:Int)<qh x0) by unfold qh;omega])
 have key':(qg yb [.r x0,.i (qh x0),.i 0,.r x2,.r x3,.r []]).run=some (0,[.r (plL x0 x2 x3 x0.length)]):=key
 simp only[STD,key']
theorem qC8{x0 x2 x3:R}{i:Nat}(n:GvN x0 x2 x3 i):ql .i64 (yM .i64 (qv .i64 (cI x2 i 0) (cI x3 i 0)) (qv .i64 (cI x2 i 0) (cI x3 i 0))) (yM .i64 (qv .i64 (cI x2 i 1) (cI x3 i 1)) (qv .i64 (cI x2 i 1) (cI x3 i 1)))=sq2 (cI x2 i 0-cI x3 i 0) (cI x2 i 1-cI x3 i 1) ∧
  yM .i64 4 (sq2 (cI x2 i 0-cI x3 i 0) (cI x2 i 1-cI x3 i 1))=4*sq2 (cI x2 i 0-cI x3 i 0) (cI x2 i 1-cI x3 i 1) ∧
  yM .i64 (q2x x0 x2 x3 i) (q2x x0 x2 x3 i)=q2x x0 x2 x3 i*q2x x0 x2 x3 i:=by
 obtain⟨n1,n2,n3,n4,n5,n6,n7⟩:=n
 have e1:qv .i64 (cI x2 i 0) (cI x3 i 0)=cI x2 i 0-cI x3 i 0:=zT (by omega)
 have e2:qv .i64 (cI x2 i 1) (cI x3 i 1)=cI x2 i 1-cI x3 i 1:=zT (by omega)
 have b1:=qCT (a:=cI x2 i 0-cI x3 i 0) (b:=cI x2 i 0-cI x3 i 0) (A:=200000) (B:=200000) (by omega) (by omega) (by omega) (by omega)
 have b2:=qCT (a:=cI x2 i 1-cI x3 i 1) (b:=cI x2 i 1-cI x3 i 1) (A:=200000) (B:=200000) (by omega) (by omega) (by omega) (by omega)
 have b3:=qCT (a:=q2x x0 x2 x3 i) (b:=q2x x0 x2 x3 i) (A:=100000) (B:=100000) (by omega) (by omega) (by omega) (by omega)
 unfold sq2
 rw[e1,e2]
 refine⟨?_,q17 (by omega),q17 (by omega)⟩
 rw[q17 (x:=cI x2 i 0-cI x3 i 0) (by omega),q17 (x:=cI x2 i 1-cI x3 i 1) (by omega),z7 (by omega)]
def qyE(x0 x2 x3:R)(i:Nat):Bool:=!qGY x0 x2 x3 i
theorem qAn{x0 x1 x2 x3:R}(g:Gv x0 x1 x2 x3){i:Nat}(hi:i<x0.length):(wx [.i (i:Int),.i (q2x x0 x2 x3 i),.r x2,.r x3]).run=some (0,[.b (qyE x0 x2 x3 i),.r x2,.r x3]):=by
 rw[qgo]
 have a2:(i:Int)<qh x2:=by unfold qh;have:=g.e2;omega
 have a3:(i:Int)<qh x3:=by unfold qh;have:=g.e3;omega
 obtain⟨v1,v2,v3⟩:=qC8 (g.num hi)
 unfold qyE qGY
 by_cases c:q2x x0 x2 x3 i<0
 ·simp only[STD,a2,a3,jS,and_self,c,show ¬(0≤q2x x0 x2 x3 i) by omega,false_and,decide_false,Bool.not_false]
 ·simp only[STD,a2,a3,jS,and_self,c,v1,v2,v3,show (0≤q2x x0 x2 x3 i) by omega,true_and]
  congr 4
  unfold ilt
  by_cases d:4*sq2 (cI x2 i 0-cI x3 i 0) (cI x2 i 1-cI x3 i 1)≤q2x x0 x2 x3 i*q2x x0 x2 x3 i
  ·rw[decide_eq_true d,decide_eq_false (by omega)];rfl
  ·rw[decide_eq_false d,decide_eq_true (by omega)];rfl
theorem qtL{x0 x1 x2 x3:R}(g:Gv x0 x1 x2 x3):(qH [.r (plL x0 x2 x3 x0.length),.r x2,.r x3]).run=some (0,[.r (pick (qyE x0 x2 x3) x0.length),.r x2,.r x3]):=by
 rw[q13]
 have hn:=g.j.n
 have key:=v8 (S:=qw) (fun i=>[.r (plL x0 x2 x3 x0.length),.i (qh (plL x0 x2 x3 x0.length)),.i (i:Int),.r x2,.r x3,.r (pick (qyE x0 x2 x3) i)]) (0,[.r x2,.r x3,.r (pick (qyE x0 x2 x3) x0.length)]) x0.length (by omega) (fun i hi=>by
  rw[va]
  have a1:(i:Int)<qh (plL x0 x2 x3 x0.length):=by unfold qh;rw[qka];omega
  have pl:=qtf (qyE x0 x2 x3) i
  have room:=qoD (l:=pick (qyE x0 x2 x3) i) (n:=i) pl (by omega) (.i (i:Int))
  simp only[STD,a1,jS,and_self,qAB x0 x2 x3 hi,qAn g hi,kI hi (show x0.length<9223372036854775808 by omega),room,pick]
  cases qyE x0 x2 x3 i<;>rfl) (by
  rw[va]
  simp only[STD,show ¬((x0.length:Int)<qh (plL x0 x2 x3 x0.length)) by unfold qh;rw[qka];omega])
 have key':(qg qw [.r (plL x0 x2 x3 x0.length),.i (qh (plL x0 x2 x3 x0.length)),.i 0,.r x2,.r x3,.r []]).run=some (0,[.r x2,.r x3,.r (pick (qyE x0 x2 x3) x0.length)]):=key
 simp only[STD,key']
def qGE(x0 x1 x2 x3:R):List PV:=if qt1 x0 x1 x2 x3=0 then [.r (pick (qyE x0 x2 x3) x0.length),.i 0] else [.r [],.i (qt1 x0 x1 x2 x3)]
theorem qca(x0 x1 x2 x3:R)(h:x0.length<9223372036854775808):(ye [.r x0,.r x1,.r x2,.r x3]).run=some (0,qGE x0 x1 x2 x3):=by
 rw[qk2]
 unfold qGE
 by_cases hc:qt1 x0 x1 x2 x3=0
 ·have g:=qdB hc
  simp only[STD,vz x0 x1 x2 x3 h,hc,qmP g,qtL g]
 ·simp only[STD,vz x0 x1 x2 x3 h,hc]
theorem qgw{x0 x1 x2 x3:R}(g:Gv x0 x1 x2 x3){i:Nat}(hi:i<x0.length):(kd [.r x0,.r x1,.r x2,.r x3,.i (i:Int)]).run=some (0,[.i (q2x x0 x2 x3 i)]):=by
 rw[qtn]
 have a0:(i:Int)<qh x0:=by unfold qh;omega
 have a2:(i:Int)<qh x2:=by unfold qh;have:=g.e2;omega
 have a3:(i:Int)<qh x3:=by unfold qh;have:=g.e3;omega
 obtain⟨_,_,n3,_,_,n6,_⟩:=g.num hi
 have w1:qv .i64 (cI x2 i 2) (cI x3 i 2)=cI x2 i 2-cI x3 i 2:=zT (by omega)
 have w2:qv .i64 (cI x3 i 2) (cI x2 i 2)=cI x3 i 2-cI x2 i 2:=zT (by omega)
 simp only[STD,a0,a2,a3,jS,and_self,w1,w2]
 unfold q2x
 cases cB x0 i 6<;>rfl
end Go.Eng

namespace Go.Eng
theorem qEF(l m:List DQ):rD (l++m)=rD l++rD m:=List.map_append
theorem qvL(l:List DQ)(d:DQ):q6B (rD l) [[.s (tQ d.x),.s (tQ d.y),.s (tQ d.s)]]=rD (l++[d]):=by
 rw[qEF];rfl
theorem qBi(x0 x2 x3:R){i n:Nat}(hi:i<n)(hn:n≤16)(x:List U):qh (rD (zAT x0 x2 x3 i))+qh [x]≤2932031007402:=by
 rw[qB,qk4];unfold qh;simp;omega
theorem qD9{n:Int}(h:inR n):bnd 10 10 (Rat.divInt n 2):=by
 have m:=qc6 n 2
 have l:=qyS (x:=n) h
 have d:dl 2=1:=by decide
 have e:Rat.divInt n 2=mkRat n 2:=rfl
 rw[e];unfold bnd qn qd;omega
theorem qg8{x0 x1 x2 x3:R}(g:Gv x0 x1 x2 x3):(yx [.r x0,.r x1,.r x2,.r x3]).run=some (0,[.r (rD (zAT x0 x2 x3 x0.length))]):=by
 rw[qmg]
 have hn:=g.j.n
 have key:=v8 (S:=yk) (fun i=>[.r (plL x0 x2 x3 x0.length),.i (qh (plL x0 x2 x3 x0.length)),.i (i:Int),.r x2,.r x3,.r (rD (zAT x0 x2 x3 i))]) (0,[.r (rD (zAT x0 x2 x3 x0.length))]) x0.length (by omega) (fun i hi=>by
  rw[qaL]
  have a1:(i:Int)<qh (plL x0 x2 x3 x0.length):=by unfold qh;rw[qka];omega
  have a2:(i:Int)<qh x2:=by unfold qh;have:=g.e2;omega
  have a3:(i:Int)<qh x3:=by unfold qh;have:=g.e3;omega
  obtain⟨n1,n2,n3,n4,n5,n6,n7⟩:=g.num hi
  have w1:qv .i64 (cI x3 i 0) (cI x2 i 0)=cI x3 i 0-cI x2 i 0:=zT (by omega)
  have w2:qv .i64 (cI x3 i 1) (cI x2 i 1)=cI x3 i 1-cI x2 i 1:=zT (by omega)
  have o:=qAA (m:=q2x x0 x2 x3 i) (n:=2) (by omega) (by omega) (by omega)
  have hb:=qD9 (n:=q2x x0 x2 x3 i) (by unfold inR;omega)
  have m:=qqD hb hb (by omega) (by omega)
  have u1:=qks (m:=cI x3 i 0-cI x2 i 0) (by omega)
  have u2:=qks (m:=cI x3 i 1-cI x2 i 1) (by omega)
  have room:=fun x=>qBi x0 x2 x3 hi hn x
  simp only[STD,a1,a2,a3,jS,and_self,qAB x0 x2 x3 hi,w1,w2,o,m,u1,u2,room,kI hi (show x0.length<9223372036854775808 by omega)]
  have row:=qvL (zAT x0 x2 x3 i) (zA x0 x2 x3 i)
  rw[←qz2] at row
  rw[←row]
  rfl) (by
  rw[qaL]
  simp only[STD,show ¬((x0.length:Int)<qh (plL x0 x2 x3 x0.length)) by unfold qh;rw[qka];omega])
 have key':(qg yk [.r (plL x0 x2 x3 x0.length),.i (qh (plL x0 x2 x3 x0.length)),.i 0,.r x2,.r x3,.r []]).run=some (0,[.r (rD (zAT x0 x2 x3 x0.length))]):=key
 simp only[STD,qmP g,key']
theorem qlV{x0 x1 x2 x3:R}(g:Gv x0 x1 x2 x3):(q1p [.r x0,.r x1,.r x2,.r x3]).run=some (0,[.r (rD (zAT x0 x2 x3 x0.length))]):=by
 rw[qri]
 have hn:=g.j.n
 have key:=v8 (S:=q0F) (fun i=>[.i (i:Int),.r x0,.r x1,.r x2,.r x3,.r (rD (zAT x0 x2 x3 i))]) (0,[.r (rD (zAT x0 x2 x3 x0.length))]) x0.length (by omega) (fun i hi=>by
  rw[qfR]
  have a2:(i:Int)<qh x2:=by unfold qh;have:=g.e2;omega
  have a3:(i:Int)<qh x3:=by unfold qh;have:=g.e3;omega
  have n:=g.num hi
  obtain⟨v1,v2,v3⟩:=qC8 n
  obtain⟨n1,n2,n3,n4,n5,n6,n7⟩:=n
  have w1:qv .i64 (cI x3 i 0) (cI x2 i 0)=cI x3 i 0-cI x2 i 0:=zT (by omega)
  have w2:qv .i64 (cI x3 i 1) (cI x2 i 1)=cI x3 i 1-cI x2 i 1:=zT (by omega)
  have hp:inR (q2x x0 x2 x3 i):=by unfold inR;omega
  have o:=qvO (m:=q2x x0 x2 x3 i*q2x x0 x2 x3 i) (n:=4) (by omega) (qGG hp) (by omega)
  have u1:=qkT (m:=cI x3 i 0-cI x2 i 0) (by omega)
  have u2:=qkT (m:=cI x3 i 1-cI x2 i 1) (by omega)
  have room:=fun x=>qBi x0 x2 x3 hi hn x
  simp only[STD,a2,a3,jS,and_self,qr2,qgw g hi,w1,w2,v3,o,u1,u2,room,qGo,kI hi (show x0.length<9223372036854775808 by omega)]
  have row:=qvL (zAT x0 x2 x3 i) (zA x0 x2 x3 i)
  rw[←qz2] at row
  rw[←row]
  rfl) (by
  rw[qfR]
  simp only[STD,show ¬((x0.length:Int)<qh x2) by unfold qh;have:=g.e2;omega])
 have key':(qg q0F [.i 0,.r x0,.r x1,.r x2,.r x3,.r []]).run=some (0,[.r (rD (zAT x0 x2 x3 x0.length))]):=key
 simp only[STD,key']
theorem q9E{x0 x1 x2 x3:R}(g:Gv x0 x1 x2 x3):(q1f [.r x0,.r x1,.r x2,.r x3]).run=some (0,[.i ((qcg x0 x2 x3).elim (-1) (fun i=>(i:Int)))]):=by
 rw[qrQ]
 have hn:=g.j.n
 have L:=qdM (S:=uu) (fun i=>[.i (i:Int),.r x0,.r x1,.r x2,.r x3]) (fun i=>(if q2x x0 x2 x3 i<0 then some i else none:Option Nat).map fun (k:Nat)=>((1:Nat),[PV.i (k:Int)])) (0,[]) x0.length (by omega) (fun i hi hf=>by
  rw[q8O]
  have a2:(i:Int)<qh x2:=by unfold qh;have:=g.e2;omega
  by_cases c:q2x x0 x2 x3 i<0
  ·rw[if_pos c] at hf;cases hf
  ·simp only[STD,a2,qgw g hi,c,kI hi (show x0.length<9223372036854775808 by omega)]) (fun i r hi hf=>by
  rw[q8O]
  have a2:(i:Int)<qh x2:=by unfold qh;have:=g.e2;omega
  by_cases c:q2x x0 x2 x3 i<0
  ·rw[if_pos c] at hf
   cases hf
   simp only[STD,a2,qgw g hi,c]
  ·rw[if_neg c] at hf;cases hf) (by
  rw[q8O]
  simp only[STD,show ¬((x0.length:Int)<qh x2) by unfold qh;have:=g.e2;omega])
 simp only[show (((0:Nat)):Int)=0 from rfl,qoC] at L
 unfold qcg
 cases hs:jQ (fun i=>if q2x x0 x2 x3 i<0 then some i else none) 0 x0.length with
 | none=>
  rw[hs] at L
  have L':(qg uu [.i 0,.r x0,.r x1,.r x2,.r x3]).run=some (0,[]):=L
  simp only[STD,L',qD L']
  rfl
 | some i=>
  rw[hs] at L
  have L':(qg uu [.i 0,.r x0,.r x1,.r x2,.r x3]).run=some (1,[.i (i:Int)]):=L
  simp only[STD,L',qD L']
  rfl
theorem qsF{p:Nat→Bool}:∀{n:Nat},(jQ (fun i=>if p i=true then some i else none) 0 n=none∧pick p n=[])∨∃i r,jQ (fun i=>if p i=true then some i else none) 0 n=some i∧pick p n=[.i (i:Int)]::r
 | 0=>.inl ⟨rfl,rfl⟩
 | n+1=>by
  have split:jQ (fun i=>if p i=true then some i else none) 0 (n+1)=(jQ (fun i=>if p i=true then some i else none) 0 n).or (if p n=true then some n else none):=by
   have key:∀k i,jQ (fun i=>if p i=true then some i else none) i (k+1)=(jQ (fun i=>if p i=true then some i else none) i k).or (if p (i+k)=true then some (i+k) else none):=by
    intro k
    induction k with
    | zero=>intro i;simp only[jQ,Nat.add_zero];by_cases c:p i=true<;>simp[c]
    | succ k ih=>
     intro i
     rw[jQ]
     by_cases c:p i=true
     ·simp[jQ,c]
     ·have c':p i=false:=by simpa using c
      simp only[c',Bool.false_eq_true,if_false]
      rw[ih (i+1)]
      simp only[jQ,c',Bool.false_eq_true,if_false]
      rw[show i+1+k=i+(k+1) by omega]
   have:=key n 0
   rwa [Nat.zero_add] at this
  rcases qsF (p:=p) (n:=n) with⟨h1,h2⟩|⟨i,r,h1,h2⟩
  ·rw[split,h1]
   unfold pick
   by_cases c:p n=true
   ·rw[if_pos c,if_pos c,h2];exact .inr ⟨n,[],rfl,rfl⟩
   ·rw[if_neg c,if_neg c,h2];exact .inl ⟨rfl,rfl⟩
  ·rw[split,h1]
   unfold pick
   by_cases c:p n=true
   ·rw[if_pos c,if_pos c,h2];exact .inr ⟨i,r++[[.i (n:Int)]],rfl,rfl⟩
   ·rw[if_neg c,if_neg c,h2];exact .inr ⟨i,r,rfl,rfl⟩
theorem qsy(x0 x2 x3:R):(qcg x0 x2 x3=none∧pick (fun i=>decide (cI (plL x0 x2 x3 x0.length) i 0<0)) x0.length=[])∨∃i r,qcg x0 x2 x3=some i∧pick (fun i=>decide (cI (plL x0 x2 x3 x0.length) i 0<0)) x0.length=[.i (i:Int)]::r:=by
 have e:qcg x0 x2 x3=jQ (fun i=>if decide (cI (plL x0 x2 x3 x0.length) (i:Int) 0<0)=true then some i else none) 0 x0.length:=by
  unfold qcg
  refine qml fun j _ hj=>?_
  rw[qAB x0 x2 x3 (show j<x0.length by omega)]
  simp only[decide_eq_true_eq]
 rw[e]
 exact qsF
def qFf(x0 x1 x2 x3:R):List PV:=if qt1 x0 x1 x2 x3=0 then (qcg x0 x2 x3).elim (cW (jT (zAT x0 x2 x3 x0.length))) (fun _=>[.b false,.i 0,.i 0,.i 0,.i 0]) else [.b false,.i 0,.i 0,.i 0,.i (qt1 x0 x1 x2 x3)]
def qFe(x0 x1 x2 x3:R):List PV:=if qt1 x0 x1 x2 x3=0 then (qcg x0 x2 x3).elim [.r (q4V (zAT x0 x2 x3 x0.length)),.i 0] (fun i=>[.r [[.i (i:Int)]],.i 0]) else [.r [],.i (qt1 x0 x1 x2 x3)]
theorem qeP{x0 x1 x2 x3:R}(g:Gv x0 x1 x2 x3):(qk [.r (plL x0 x2 x3 x0.length)]).run=some (0,[.r (pick (fun i=>decide (cI (plL x0 x2 x3 x0.length) i 0<0)) x0.length)]):=by
 have f:=qj8 (plL x0 x2 x3 x0.length) (by rw[qka];have:=g.j.n;omega)
 rwa [qka] at f
theorem q59(x0 x1 x2 x3:R)(h:x0.length<9223372036854775808):(zl [.r x0,.r x1,.r x2,.r x3]).run=some (0,qFf x0 x1 x2 x3):=by
 rw[qil]
 unfold qFf
 by_cases hc:qt1 x0 x1 x2 x3=0
 ·have g:=qdB hc
  have hn:=g.j.n
  have c:=qwV g.gds g.nez (by rw[qk4];omega)
  rcases qsy x0 x2 x3 with⟨t1,t2⟩|⟨i,r,t1,t2⟩
  ·simp only[STD,vz x0 x1 x2 x3 h,hc,qmP g,qeP g,t1,t2,show ¬((0:Int)<qh []) by unfold qh;simp,qg8 g,c]
   cases jT (zAT x0 x2 x3 x0.length)<;>rfl
  ·simp only[STD,vz x0 x1 x2 x3 h,hc,qmP g,qeP g,t1,t2,show ((0:Int)<qh ([U.i (i:Int)]::r)) by unfold qh;simp<;>omega]
 ·simp only[STD,vz x0 x1 x2 x3 h,hc]
theorem qfy(x0 x1 x2 x3:R)(h:x0.length<9223372036854775808):(j6 [.r x0,.r x1,.r x2,.r x3]).run=some (0,qFe x0 x1 x2 x3):=by
 rw[qn6]
 unfold qFe
 by_cases hc:qt1 x0 x1 x2 x3=0
 ·have g:=qdB hc
  have hn:=g.j.n
  have c:=qxg g.gds g.nez (by rw[qk4];omega)
  rcases qsy x0 x2 x3 with⟨t1,t2⟩|⟨i,r,t1,t2⟩
  ·simp only[STD,vz x0 x1 x2 x3 h,hc,qmP g,qeP g,t1,t2,show ¬((0:Int)<qh []) by unfold qh;simp,qg8 g,c]
   rfl
  ·have b1:q6A 1 (qh ([U.i (i:Int)]::r))=true:=by unfold q6A qh;simp;omega
   simp only[STD,vz x0 x1 x2 x3 h,hc,qmP g,qeP g,t1,t2,show ((0:Int)<qh ([U.i (i:Int)]::r)) by unfold qh;simp<;>omega,
    show (0:Int)≤1 by omega,show (1:Int)≤qh ([U.i (i:Int)]::r) by unfold qh;simp<;>omega,show (0:Int)≤0 by omega,and_self]
   rfl
 ·simp only[STD,vz x0 x1 x2 x3 h,hc]
theorem qoh(x0 x1 x2 x3:R)(h:x0.length<9223372036854775808):(q1x [.r x0,.r x1,.r x2,.r x3]).run=some (0,qFf x0 x1 x2 x3):=by
 rw[qmF]
 unfold qFf
 by_cases hc:qt1 x0 x1 x2 x3=0
 ·have g:=qdB hc
  have hn:=g.j.n
  have c:=qxm g.gds (by rw[qk4];omega)
  cases t:qcg x0 x2 x3 with
  | none=>
   have tt:=q9E g
   rw[t] at tt
   simp only[STD,q1g x0 x1 x2 x3 h,hc,tt,Option.elim,show ¬((0:Int)≤-1) by omega,qlV g,c]
   cases jT (zAT x0 x2 x3 x0.length)<;>rfl
  | some i=>
   have tt:=q9E g
   rw[t] at tt
   simp only[STD,q1g x0 x1 x2 x3 h,hc,tt,Option.elim,jS]
 ·simp only[STD,q1g x0 x1 x2 x3 h,hc]
theorem qtb(x0 x1 x2 x3:R)(h:x0.length<9223372036854775808):(q5K [.r x0,.r x1,.r x2,.r x3]).run=some (0,qFe x0 x1 x2 x3):=by
 rw[qre]
 unfold qFe
 by_cases hc:qt1 x0 x1 x2 x3=0
 ·have g:=qdB hc
  have hn:=g.j.n
  have c:=qEy g.gds (by rw[qk4];omega)
  cases t:qcg x0 x2 x3 with
  | none=>
   have tt:=q9E g
   rw[t] at tt
   simp only[STD,q1g x0 x1 x2 x3 h,hc,tt,Option.elim,show ¬((0:Int)≤-1) by omega,qlV g,c]
  | some i=>
   have tt:=q9E g
   rw[t] at tt
   simp only[STD,q1g x0 x1 x2 x3 h,hc,tt,Option.elim,jS]
 ·simp only[STD,q1g x0 x1 x2 x3 h,hc]
end Go.Eng

namespace Go.Eng
def qEx(lo hi:Int):Int:=if (-100000≤lo∧lo≤100000)∧(-100000≤hi∧hi≤100000) then (if hi<lo then 9 else 0) else 2
def thE(l:R)(i:Nat):Int:=if qEx (cI l i 0) (cI l i 1)=0 then (if cI l i 0<1 then 2 else 0) else qEx (cI l i 0) (cI l i 1)
def thC(l:R):Int:=if l.length=0 then 13 else if 16<l.length then 5 else q5l (thE l) l.length
theorem qou(x:Int):(wA [.i x]).run=some (0,[.b (decide (-100000≤x∧x≤100000))]):=by
 rw[qjo]
 by_cases h1:-100000≤x
 ·by_cases h2:x≤100000
  ·simp only[STD,h1,h2,and_self,decide_true]
   rw[show ile x 100000=true from by simp[ile,h2]]
  ·simp only[STD,h1,h2,and_false,decide_false]
   rw[show ile x 100000=false from by simp[ile];omega]
 ·simp only[STD,h1,false_and,decide_false]
theorem qmB(lo hi:Int):(uf [.i lo,.i hi]).run=some (0,[.i (qEx lo hi)]):=by
 rw[qkI]
 unfold qEx
 by_cases h1:-100000≤lo∧lo≤100000
 ·by_cases h2:-100000≤hi∧hi≤100000
  ·by_cases h3:hi<lo
   ·simp only[STD,qou,h1,h2,h3,and_self]
   ·simp only[STD,qou,h1,h2,h3,and_self]
  ·simp only[STD,qou,h1,h2,and_self,and_false]
 ·simp only[STD,qou,h1,false_and]
def qFi(f:Nat→Int):Nat→Int
 | 0=>0
 | n+1=>ql .i64 (qFi f n) (f n)
theorem qEE(l:R)(i:Nat):thE l i=if qEx (cI l i 0) (cI l i 1)=0 then (if cI l i 0<1 then 2 else 0) else qEx (cI l i 0) (cI l i 1):=rfl
theorem qB8(l:R)(h:l.length<9223372036854775808):(wE [.r l]).run=some (0,[.i (thC l)]):=by
 rw[qfl]
 unfold thC
 have g:=qy7 l 16
 simp only[show ((16:Nat):Int)=16 from rfl] at g
 by_cases h0:l.length=0
 ·simp only[STD,ko,h0]
 by_cases h1:16<l.length
 ·simp only[STD,ko,h0,g,h1]
 have key:=qej (S:=vg) (fun i=>[.r l,.i (qh l),.i (i:Int)]) (thE l) [] [] l.length h (fun i hi=>by
  rw[q4n]
  have a1:(i:Int)<qh l:=qyX hi
  simp only[STD,a1,jS,and_self,qmB,kI hi h,qEE]
  by_cases c:qEx (cI l i 0) (cI l i 1)=0
  ·by_cases d:cI l i 0<1
   ·simp[c,d]
   ·simp[c,d]
  ·simp[c]) (by
  rw[q4n]
  simp only[STD,qy2])
 simp only[show (((0:Nat)):Int)=0 from rfl] at key
 by_cases c:q5l (thE l) l.length=0
 ·rw[if_pos c] at key
  simp only[STD,ko,h0,g,h1,key,qD key,c]
 ·rw[if_neg c] at key
  simp only[STD,ko,h0,g,h1,key,qD key,show ¬((1:Nat)=0) by omega]
def qFl(l:R)(n:Nat):Int:=qFi (fun i=>cI l i 0) n
def qA3(l:R)(n:Nat):Int:=qFi (fun i=>cI l i 1) n
def qoL(l:R):List PV:=if thC l=0 then [.i (qFl l l.length),.i (qA3 l l.length),.i 0] else [.i 0,.i 0,.i (thC l)]
theorem qkJ(l:R)(h:l.length<9223372036854775808):(ke [.r l]).run=some (0,qoL l):=by
 rw[qk5]
 unfold qoL
 by_cases hc:thC l=0
 ·have key:=v8 (S:=vW) (fun i=>[.r l,.i (qh l),.i (i:Int),.i 0,.i 0,.i (qFl l i),.i (qA3 l i)]) (0,[.i 0,.i 0,.i (qFl l l.length),.i (qA3 l l.length)]) l.length h (fun i hi=>by
   rw[q7Z]
   have a1:(i:Int)<qh l:=qyX hi
   simp only[STD,a1,jS,and_self,kI hi h]
   rfl) (by
   rw[q7Z]
   simp only[STD,qy2])
  have key':(qg vW [.r l,.i (qh l),.i 0,.i 0,.i 0,.i 0,.i 0]).run=some (0,[.i 0,.i 0,.i (qFl l l.length),.i (qA3 l l.length)]):=key
  simp only[STD,qB8 l h,hc,key']
 ·simp only[STD,qB8 l h,hc]
def qH1(l m:R)(i:Nat):Bool:=decide (cI m i 0<cI l i 0∨cI l i 1<cI m i 0)
def qH2(l m:R):Prop:=∀i,i<l.length→qH1 l m i=false
instance (l m:R):Decidable (qH2 l m):=inferInstanceAs (Decidable (∀i,i<l.length→_))
end Go.Eng

