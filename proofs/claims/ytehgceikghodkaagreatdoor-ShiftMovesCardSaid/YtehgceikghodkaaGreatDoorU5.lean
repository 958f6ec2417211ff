/- Texts of the proof, merged: what the code computes, and plain laws. No statement stands here. -/
import Derived.Test.YtehgceikghodkaaGreatDoorU4
namespace Go.Eng
theorem qah(l:List Int)(j:Nat)(h:j≤l.length):mv l=mv (l.take j)+pB j*mv (l.drop j):=by
 have:=qwy (l.take j) (l.drop j)
 rw[List.take_append_drop,List.length_take,Nat.min_eq_left h] at this
 exact this
theorem qBC{l:List Int}(h:dgs l)(j:Nat):dgs (l.take j):=fun x hx=>h x (List.mem_of_mem_take hx)
theorem q8J{l:List Int}(h:dgs l)(j:Nat):0≤mv (l.take j)∧mv (l.take j)<pB j:=
 qxI (l.take j) j (qBC h j) fun i hi=>by
  rw[List.getD_eq_getElem?_getD,List.getElem?_eq_none (by simp;omega)];rfl
theorem qlL{l:List Int}{i:Nat}(h:i<l.length):mv (l.take (i+1))=mv (l.take i)+l[i]*pB i:=by
 rw[List.take_succ_eq_append_getElem h,qwy,List.length_take,Nat.min_eq_left (by omega)]
 simp only[mv]
 grind
theorem WOK.mono{n m:Nat}{l:List Int}(h:WOK n l)(hm:n≤m)(h2:m≤232):WOK m l:=⟨h.len,h2,h.dig,fun i hi=>h.z i (by omega)⟩
theorem qjh{n:Nat}{l:List Int}(h:WOK n l)(hn:nrm n l):(n=0)=(mv l=0):=by
 apply propext
 constructor
 ·intro h0
  have:=h.bd
  rw[h0,q5c] at this;omega
 ·intro h0
  rcases Nat.eq_zero_or_pos n with h1|h1
  ·exact h1
  ·have:=h.lo hn (by omega)
   have:=qaE (n-1)
   omega
theorem qEI{n m:Nat}{l k:List Int}(h:WOK n l)(hn:nrm n l)(h2:WOK m k)(hle:mv l≤mv k):n≤m:=by
 rcases Nat.lt_or_ge m n with h3|h3
 ·exfalso
  have h4:=h.lo hn (by omega)
  have h5:=h2.bd.2
  have h6:=qbf (show m≤n-1 by omega)
  omega
 ·exact h3
theorem qwq{nx ny:Nat}{lx ly:List Int}(hx:WOK nx lx)(hnx:nrm nx lx)(hy:WOK ny ly)(hny:nrm ny ly)(bx b2:Bool) :
  ∃r:Int,(zt [.b bx,.i (nx:Int),.r (rI lx),.b b2,.i (ny:Int),.r (rI ly)]).run=some (0,[.i r,.b bx,.i (nx:Int),.r (rI lx),.b b2,.i (ny:Int),.r (rI ly)])∧((0≤r)=(mv ly≤mv lx)):=by
 rw[qgt]
 have h1:=hx.le
 have h2:=hy.le
 by_cases hne:nx=ny
 ·subst hne
  have hs:qv .i64 (nx:Int) 1=(nx:Int)-1:=wO (by omega)
  obtain⟨j,qs,g1,g2⟩:=vr (S:=je) (fun k ps=>ps=[.i ((k:Int)-1),.b bx,.i (nx:Int),.r (rI lx),.b b2,.i (nx:Int),.r (rI ly)]∧k≤nx∧mv (lx.drop k)=mv (ly.drop k))
   (fun j qs=>(j=0∧qs=[.b bx,.i (nx:Int),.r (rI lx),.b b2,.i (nx:Int),.r (rI ly)]∧mv lx=mv ly)∨(j=1∧∃r:Int,qs=[.i r,.b bx,.i (nx:Int),.r (rI lx),.b b2,.i (nx:Int),.r (rI ly)]∧((0≤r)=(mv ly≤mv lx)))) (n:=nx) (by omega) (fun k ps hk ⟨hps,hkn,hd⟩=>by
   subst hps
   rw[qev]
   by_cases h0:k=0
   ·right
    refine⟨0,_,?_,.inl ⟨rfl,rfl,?_⟩⟩
    ·have a:¬(0:Int)≤(k:Int)-1:=by omega
     simp only[STD,a]
    ·rw[h0] at hd;simpa using hd
   ·obtain⟨i,rfl⟩:∃i,k=i+1:=⟨k-1,by omega⟩
    have e:(((i+1:Nat):Int)-1)=(i:Int):=by omega
    rw[e]
    have a1:(0:Int)≤(i:Int):=by omega
    have a2:(i:Int)<232:=by omega
    have gx:=hx.get i
    have gy:=hy.get i
    have hxl:i<lx.length:=by rw[hx.len];omega
    have hyl:i<ly.length:=by rw[hy.len];omega
    by_cases hc:lx.getD i 0=ly.getD i 0
    ·left
     refine⟨i,[.i ((i:Int)-1),.b bx,.i (nx:Int),.r (rI lx),.b b2,.i (nx:Int),.r (rI ly)],by omega,?_,rfl,by omega,?_⟩
     ·have w:qv .i64 (i:Int) 1=(i:Int)-1:=wO (by omega)
      simp only[STD,a1,a2,and_self,q4A,hc,w]
     ·rw[qbi hxl,qbi hyl,hd]
      rw[vX hxl,vX hyl] at hc
      rw[hc]
    ·right
     have w:qv .i64 (lx.getD i 0) (ly.getD i 0)=lx.getD i 0-ly.getD i 0:=wO (by omega)
     refine⟨1,[.i (lx.getD i 0-ly.getD i 0),.b bx,.i (nx:Int),.r (rI lx),.b b2,.i (nx:Int),.r (rI ly)],?_,.inr ⟨rfl,_,rfl,?_⟩⟩
     ·simp only[STD,a1,a2,and_self,q4A,hc,w]
     ·have sx:=qah lx i (by omega)
      have sy:=qah ly i (by omega)
      rw[qbi hxl] at sx
      rw[qbi hyl] at sy
      have tx:=q8J hx.dig i
      have ty:=q8J hy.dig i
      rw[vX hxl,vX hyl] at hc ⊢
      rw[hd] at sx
      have hp:=qaE i
      generalize pB i=P at *
      generalize lx[i]=u at *
      generalize ly[i]=v at *
      generalize mv (ly.drop (i+1))=w at *
      have e1:P*(u+1000000000*w)=P*u+P*(1000000000*w):=Int.mul_add _ _ _
      have e2:P*(v+1000000000*w)=P*v+P*(1000000000*w):=Int.mul_add _ _ _
      have e3:P*(u-v)=P*u-P*v:=Int.mul_sub _ _ _
      apply propext
      rcases Int.lt_or_lt_of_ne (show u-v≠0 by omega) with h|h
      ·have:P*(u-v)≤P*(-1):=Int.mul_le_mul_of_nonneg_left (by omega) (by omega)
       constructor
       ·intro;omega
       ·intro;omega
      ·have:P*1≤P*(u-v):=Int.mul_le_mul_of_nonneg_left (by omega) (by omega)
       constructor
       ·intro;omega
       ·intro;omega) (ps:=[.i ((nx:Int)-1),.b bx,.i (nx:Int),.r (rI lx),.b b2,.i (nx:Int),.r (rI ly)])
   ⟨rfl,Nat.le_refl _,by rw[wY hx.dig hx.z (Nat.le_refl _),wY hy.dig hy.z (Nat.le_refl _)]⟩
  rcases g2 with⟨rfl,rfl,g2⟩|⟨rfl,r,rfl,g2⟩
  ·refine⟨0,?_,?_⟩
   ·simp only[STD,hs,g1,qw g1]
   ·apply propext;simp;omega
  ·refine⟨r,?_,g2⟩
   simp only[STD,hs,g1,qw g1,show ¬(1=0) by omega]
 ·have hs:qv .i64 (nx:Int) (ny:Int)=(nx:Int)-(ny:Int):=wO (by omega)
  refine⟨(nx:Int)-(ny:Int),?_,?_⟩
  ·have a:¬(nx:Int)=(ny:Int):=by omega
   simp only[STD,a,hs]
  ·apply propext
   have b1:=hx.bd
   have b2:=hy.bd
   rcases Nat.lt_or_gt_of_ne hne with h|h
   ·have:=hy.lo hny (by omega)
    have:=qbf (show nx≤ny-1 by omega)
    constructor
    ·intro;omega
    ·intro;omega
   ·have:=hx.lo hnx (by omega)
    have:=qbf (show ny≤nx-1 by omega)
    constructor
    ·intro;omega
    ·intro;omega
def sv(b:Bool)(l:List Int):Int:=if b then -mv l else mv l
theorem qC8{nx ny:Nat}{lx ly:List Int}(hx:WOK nx lx)(hnx:nrm nx lx)(hy:WOK ny ly)(hny:nrm ny ly)(hb:mv lx+mv ly<pB 232)(bx b2:Bool) :
  ∃(b:Bool) (n:Nat) (l:List Int),(zX [.b bx,.i (nx:Int),.r (rI lx),.b b2,.i (ny:Int),.r (rI ly)]).run=some (0,[.b b,.i (n:Int),.r (rI l),.b b2,.i (ny:Int),.r (rI ly)])∧WOK n l∧nrm n l∧sv b l=sv bx lx+sv b2 ly:=by
 rw[qio]
 have h1:=hx.bd
 have h2:=hy.bd
 have l1:=hx.le
 have l2:=hy.le
 by_cases hs:bx=b2
 ·subst hs
  obtain⟨n,l,g1,g2,g3,g4⟩:=qoL (f:=1) (up:=0) hx hy (by omega) (by omega) (T:=mv lx+mv ly) (by rw[q5c];omega) (by omega) hb bx bx
  refine⟨bx,n,l,?_,g2,g3,?_⟩
  ·simp only[STD,show ((0:Nat):Int)=0 from rfl] at g1 ⊢
   simp only[STD,g1]
  ·unfold sv;rw[g4];cases bx<;>simp<;>omega
 ·obtain⟨r,r1,r2⟩:=qwq hx hnx hy hny bx b2
  by_cases hr:mv ly≤mv lx
  ·have hr':0≤r:=by rw[r2];exact hr
   obtain⟨n,l,g1,g2,g3,g4⟩:=qoL (f:=-1) (up:=0) hx hy (by omega) (by omega) (T:=mv lx-mv ly) (by rw[q5c];omega) (by omega) (by omega) bx b2
   refine⟨bx,n,l,?_,g2,g3,?_⟩
   ·simp only[show ((0:Nat):Int)=0 from rfl] at g1
    simp only[STD,hs,r1,hr',g1]
   ·unfold sv;rw[g4];cases bx<;>cases b2<;>simp_all<;>omega
  ·have hr':¬0≤r:=by rw[r2];exact hr
   obtain⟨n,l,g1,g2,g3,g4⟩:=qoL (f:=-1) (up:=0) hy hx (by omega) (by omega) (T:=mv ly-mv lx) (by rw[q5c];omega) (by omega) (by omega) b2 bx
   refine⟨b2,n,l,?_,g2,g3,?_⟩
   ·simp only[show ((0:Nat):Int)=0 from rfl] at g1
    simp only[STD,hs,r1,hr',g1]
   ·unfold sv;rw[g4];cases bx<;>cases b2<;>simp_all<;>omega
theorem qzK{x y:Int}{m n:Nat}(h0:0≤x)(h1:x<pB m)(h2:0≤y)(h3:y≤pB n):x*y<pB (m+n)∨y=0:=by
 rcases Int.lt_or_eq_of_le h2 with h|h
 ·left
  rw[qE4]
  have e1:x*y<pB m*y:=Int.mul_lt_mul_of_pos_right h1 h
  have e2:pB m*y≤pB m*pB n:=Int.mul_le_mul_of_nonneg_left h3 (by omega)
  omega
 ·exact .inr h.symm
theorem qD4{nx ny:Nat}{lx ly:List Int}(hx:WOK nx lx)(hy:WOK ny ly)(hb:nx+ny≤232)(bx b2:Bool) :
  ∃(n:Nat) (l:List Int),(uE [.b bx,.i (nx:Int),.r (rI lx),.b b2,.i (ny:Int),.r (rI ly)]).run=some (0,[.b bx,.i (nx:Int),.r (rI lx),.b b2,.i (ny:Int),.r (rI ly),.b (!(Go.Eng.beq bx b2)),.i (n:Int),.r (rI l)])∧WOK n l∧nrm n l∧mv l=mv lx*mv ly:=by
 rw[qhB]
 have hbx:=hx.bd
 have e0:q3i 232 [.i 0]=rI (List.replicate 232 0):=qhJ 232 0
 obtain⟨j,qs,g1,rfl,n,l,rfl,g2,g3,g4⟩:=vr (S:=jP) (fun k ps=>∃(i n:Nat) (l:List Int),ps=[.i (ny:Int),.i (i:Int),.b bx,.i (nx:Int),.r (rI lx),.b b2,.i (ny:Int),.r (rI ly),.b (!(Go.Eng.beq bx b2)),.i (n:Int),.r (rI l)] ∧
   i+k=ny∧WOK n l∧nrm n l∧mv l=mv lx*mv (ly.take i))
  (fun j qs=>j=0∧∃(n:Nat) (l:List Int),qs=[.b bx,.i (nx:Int),.r (rI lx),.b b2,.i (ny:Int),.r (rI ly),.b (!(Go.Eng.beq bx b2)),.i (n:Int),.r (rI l)]∧WOK n l∧nrm n l∧mv l=mv lx*mv ly) (n:=ny) (by omega) (fun k ps hk ⟨i,n,l,hps,hik,hw,hn,hv⟩=>by
  subst hps
  rw[qft]
  by_cases hi:i<ny
  ·left
   have hil:i<ly.length:=by rw[hy.len];omega
   have gy:=hy.get i
   have tb:=q8J hy.dig i
   have tb2:=q8J hy.dig (i+1)
   have hT:mv lx*mv (ly.take (i+1))=mv l+ly.getD i 0*mv lx*pB i:=by
    rw[qlL hil,hv,vX hil];grind
   have hlt:mv lx*mv (ly.take (i+1))<pB 232:=by
    rcases qzK (n:=i+1) hbx.1 hbx.2 tb2.1 (by omega) with h|h
    ·exact Int.lt_of_lt_of_le h (qbf (by omega))
    ·rw[h,Int.mul_zero];exact qaE _
   obtain⟨n',l',c1,c2,c3,c4⟩:=qoL (f:=ly.getD i 0) (up:=i) hw hx (by omega) (by omega) hT (Int.mul_nonneg hbx.1 tb2.1) hlt (!(Go.Eng.beq bx b2)) bx
   have w:qh .i64 (i:Int) 1=((i+1:Nat):Int):=by rw[qN (by omega)];omega
   refine⟨k-1,_,by omega,?_,i+1,n',l',rfl,by omega,c2,c3,c4⟩
   have a1:(i:Int)<(ny:Int):=by omega
   have a2:(0:Int)≤(i:Int)∧(i:Int)<232:=by omega
   simp only[STD,a1,a2,and_self,q4A,c1,w]
  ·right
   have hi2:i=ny:=by omega
   have a1:¬(i:Int)<(ny:Int):=by omega
   refine⟨0,[.b bx,.i (nx:Int),.r (rI lx),.b b2,.i (ny:Int),.r (rI ly),.b (!(Go.Eng.beq bx b2)),.i (n:Int),.r (rI l)],?_,rfl,n,l,rfl,hw,hn,?_⟩
   ·simp only[STD,a1]
   ·have:=qah ly ny (by rw[hy.len];exact hy.le)
    rw[wY hy.dig hy.z (Nat.le_refl _),Int.mul_zero,Int.add_zero] at this
    rw[hv,hi2,←this])
  (ps:=[.i (ny:Int),.i 0,.b bx,.i (nx:Int),.r (rI lx),.b b2,.i (ny:Int),.r (rI ly),.b (!(Go.Eng.beq bx b2)),.i 0,.r (rI (List.replicate 232 0))])
  ⟨0,0,_,rfl,by omega,WOK.zero,.inl rfl,by rw[qda];simp[mv]⟩
 refine⟨n,l,?_,g2,g3,g4⟩
 simp only[e0]
 simp only[STD,g1]
theorem qxJ{nx ny:Nat}{lx ly:List Int}(hx:WOK nx lx)(hnx:nrm nx lx)(hy:WOK ny ly)(hny:nrm ny ly)(h0:ny≠0)(hle:mv ly≤mv lx)(hlt:mv lx<pB (ny+1))(hn231:ny≤231)(bx b2:Bool) :
  ∃k:Int,(jK [.b bx,.i (nx:Int),.r (rI lx),.b b2,.i (ny:Int),.r (rI ly)]).run=some (0,[.i k,.b bx,.i (nx:Int),.r (rI lx),.b b2,.i (ny:Int),.r (rI ly)])∧1≤k∧k≤999999999∧k*mv ly≤mv lx:=by
 rw[ql9]
 obtain⟨m,rfl⟩:∃m,ny=m+1:=⟨ny-1,by omega⟩
 have hxl:=hx.len
 have hyl:=hy.len
 have hnx1:m+1≤nx:=qEI hy hny hx hle
 have hnx2:nx≤m+2:=by
  rcases Nat.lt_or_ge (m+2) nx with h|h
  ·exfalso
   have h1:=hx.lo hnx (by omega)
   have h2:=qbf (show m+1+1≤nx-1 by omega)
   omega
  ·exact h
 have gx1:=hx.get m
 have gx2:=hx.get (m+1)
 have gy:=hy.get m
 have sx:=qah lx m (by omega)
 have sy:=qah ly m (by omega)
 rw[qbi (show m<lx.length by omega),qbi (show m+1<lx.length by omega),wY hx.dig hx.z (show nx≤m+1+1 by omega)] at sx
 rw[qbi (show m<ly.length by omega),wY hy.dig hy.z (Nat.le_refl _)] at sy
 have tx:=q8J hx.dig m
 have ty:=q8J hy.dig m
 have hyn:ly.getD m 0≠0:=by
  rcases hny with h|h
  ·omega
  ·simpa using h
 have w1:qv .i64 ((m+1:Nat):Int) 1=(m:Int):=by rw[wO (by omega)];omega
 have c1:¬((m+1:Nat):Int)<0:=by omega
 have c2:¬(nx:Int)≤(m:Int):=by omega
 have c3:¬(m:Int)<0:=by omega
 have c4:¬((m+1:Nat):Int)≤(m:Int):=by omega
 have c5:(0:Int)≤(m:Int)∧(m:Int)<232:=by omega
 have c6:(0:Int)≤((m+1:Nat):Int)∧((m+1:Nat):Int)<232:=by omega
 have gex:lx[m]'(by omega)=lx.getD m 0:=(vX (by omega)).symm
 have gex1:lx[m+1]'(by omega)=lx.getD (m+1) 0:=(vX (by omega)).symm
 have gey:ly[m]'(by omega)=ly.getD m 0:=(vX (by omega)).symm
 rw[gex,gex1] at sx
 rw[gey] at sy
 have hp:=qaE m
 have key:∀a b:Int,a=lx.getD m 0+1000000000*lx.getD (m+1) 0→0<b→mv ly≤b*pB m→∀k,k=a/b→k*mv ly≤mv lx∧q94 k 999999999*mv ly≤mv lx:=by
  intro a b ha hb hbY k hk
  have hk0:0≤k:=by rw[hk];exact Int.ediv_nonneg (by omega) (by omega)
  have hkb:k*b≤a:=by rw[hk];exact Int.ediv_mul_le a (by omega)
  have hY:=(hy.bd).1
  have f1:k*mv ly≤k*(b*pB m):=Int.mul_le_mul_of_nonneg_left hbY hk0
  have f2:k*b*pB m≤a*pB m:=Int.mul_le_mul_of_nonneg_right hkb (by omega)
  have f3:k*(b*pB m)=k*b*pB m:=(Int.mul_assoc _ _ _).symm
  have f4:a*pB m=pB m*(lx.getD m 0+1000000000*(lx.getD (m+1) 0+1000000000*0)):=by rw[ha];grind
  have f5:k*mv ly≤mv lx:=by omega
  refine⟨f5,?_⟩
  have:q94 k 999999999≤k:=by unfold q94;split<;>omega
  have:=Int.mul_le_mul_of_nonneg_right this hY
  omega
 have wq:∀a b:Int,0≤a→a<1000000000000000000→0<b→jo .i64 a b=a/b:=by
  intro a b h1 h2 h3
  unfold jo
  rw[Int.tdiv_eq_ediv_of_nonneg h1]
  have q1:0≤a/b:=Int.ediv_nonneg h1 (by omega)
  have q2:a/b≤a:=Int.ediv_le_self _ h1
  generalize a/b=q at *
  unfold IntKind.wrap
  simp[IntKind.signed,IntKind.bits];omega
 have fin:∀k:Int,(0<k→k*mv ly≤mv lx∧q94 k 999999999*mv ly≤mv lx)→∃k':Int,(if 0<k then q94 k 999999999 else 1)=k'∧1≤k'∧k'≤999999999∧k'*mv ly≤mv lx:=by
  intro k hk
  by_cases h:0<k
  ·rw[if_pos h]
   refine⟨_,rfl,?_,?_,(hk h).2⟩
   ·unfold q94;split<;>omega
   ·unfold q94;split<;>omega
  ·rw[if_neg h];exact⟨1,rfl,by omega,by omega,by omega⟩
 by_cases hcase:nx≤m+1
 ·have c7:(nx:Int)≤((m+1:Nat):Int):=by omega
  have z1:lx.getD (m+1) 0=0:=hx.z _ (by omega)
  have wa:qh .i64 0 (lx.getD m 0)=lx.getD m 0:=by rw[qN (by omega)];omega
  by_cases hm:m=0
  ·subst hm
   have c8:¬(1:Int)<((0+1:Nat):Int):=by omega
   have hq:=wq (lx.getD 0 0) (ly.getD 0 0) (by omega) (by omega) (by omega)
   have hbY:mv ly≤ly.getD 0 0*pB 0:=by rw[q5c] at sy ty ⊢;omega
   obtain⟨k',f1,f2,f3,f4⟩:=fin (lx.getD 0 0/ly.getD 0 0) (fun _=>key _ _ (by rw[z1];omega) (by omega) hbY _ rfl)
   refine⟨k',?_,f2,f3,f4⟩
   rw[←f1]
   simp only[STD,c1,w1,c2,c3,c4,c5,c6,c7,c8,and_self,q4A,wa,hyn,hq]
   split<;>rfl
  ·have c8:(1:Int)<((m+1:Nat):Int):=by omega
   have wb:qh .i64 (ly.getD m 0) 1=ly.getD m 0+1:=qN (by omega)
   have hq:=wq (lx.getD m 0) (ly.getD m 0+1) (by omega) (by omega) (by omega)
   have hbY:mv ly≤(ly.getD m 0+1)*pB m:=by
    have:(ly.getD m 0+1)*pB m=pB m*(ly.getD m 0+1000000000*0)+pB m:=by grind
    omega
   obtain⟨k',f1,f2,f3,f4⟩:=fin (lx.getD m 0/(ly.getD m 0+1)) (fun _=>key _ _ (by rw[z1];omega) (by omega) hbY _ rfl)
   refine⟨k',?_,f2,f3,f4⟩
   rw[←f1]
   have hne:¬ly.getD m 0+1=0:=by omega
   simp only[STD,c1,w1,c2,c3,c4,c5,c6,c7,c8,and_self,q4A,wa,wb,hne,hq]
   split<;>rfl
 ·have c7:¬(nx:Int)≤((m+1:Nat):Int):=by omega
  have wm:u7 .i64 (lx.getD (m+1) 0) 1000000000=lx.getD (m+1) 0*1000000000:=q4G (by omega)
  have wa:qh .i64 (lx.getD (m+1) 0*1000000000) (lx.getD m 0)=lx.getD (m+1) 0*1000000000+lx.getD m 0:=qN (by omega)
  by_cases hm:m=0
  ·subst hm
   have c8:¬(1:Int)<((0+1:Nat):Int):=by omega
   have hq:=wq (lx.getD (0+1) 0*1000000000+lx.getD 0 0) (ly.getD 0 0) (by omega) (by omega) (by omega)
   have hbY:mv ly≤ly.getD 0 0*pB 0:=by rw[q5c] at sy ty ⊢;omega
   obtain⟨k',f1,f2,f3,f4⟩:=fin ((lx.getD (0+1) 0*1000000000+lx.getD 0 0)/ly.getD 0 0) (fun _=>key _ _ (by omega) (by omega) hbY _ rfl)
   refine⟨k',?_,f2,f3,f4⟩
   rw[←f1]
   simp only[STD,c1,w1,c2,c3,c4,c5,c6,c7,c8,and_self,q4A,wm,wa,hyn,hq]
   split<;>rfl
  ·have c8:(1:Int)<((m+1:Nat):Int):=by omega
   have wb:qh .i64 (ly.getD m 0) 1=ly.getD m 0+1:=qN (by omega)
   have hq:=wq (lx.getD (m+1) 0*1000000000+lx.getD m 0) (ly.getD m 0+1) (by omega) (by omega) (by omega)
   have hbY:mv ly≤(ly.getD m 0+1)*pB m:=by
    have:(ly.getD m 0+1)*pB m=pB m*(ly.getD m 0+1000000000*0)+pB m:=by grind
    omega
   obtain⟨k',f1,f2,f3,f4⟩:=fin ((lx.getD (m+1) 0*1000000000+lx.getD m 0)/(ly.getD m 0+1)) (fun _=>key _ _ (by omega) (by omega) hbY _ rfl)
   refine⟨k',?_,f2,f3,f4⟩
   rw[←f1]
   have hne:¬ly.getD m 0+1=0:=by omega
   simp only[STD,c1,w1,c2,c3,c4,c5,c6,c7,c8,and_self,q4A,wm,wa,wb,hne,hq]
   split<;>rfl
end Go.Eng

namespace Go.Eng
theorem qCc(u:Nat):Lib.decDigits u=tN u:=by
 induction u using Nat.strongRecOn with
 | _ u ih=>
  rw[Lib.decDigits]
  split
  ·rename_i h
   rw[qu1 h];rfl
  ·rename_i h
   rw[ih (u/10) (by omega)]
   exact(qv3 (n:=u) (by omega)).symm
theorem quX(n:Int):Lib.itoa n=tI n:=by
 unfold Lib.itoa
 by_cases h:n<0
 ·rw[if_pos h,qCc,qa8 h]
 ·rw[if_neg h,qCc,qhA h];congr 1;omega
theorem qDy(n:Int)(h:-9223372036854775808≤n∧n≤9223372036854775807):(q3y [.i n]).run=some (0,[.s (tI n)]):=by
 show (qzT [.i n]).run=_
 unfold qzT
 simp only
 rw[if_pos h,quX];rfl
theorem qsL{c:UInt8}(h:48≤c.toNat∧c.toNat≤57):Lib.digitVal c=some (dv c):=by
 unfold Lib.digitVal dv
 simp_all
theorem qnC:∀{s:List UInt8} (a:Nat),q4B s→Lib.decFrom a s=some (a*10^s.length+val s)
 | [],a,_=>by simp[Lib.decFrom,val]
 | c::s,a,h=>by
  obtain⟨h1,h2⟩:=q0b.1 h
  rw[Lib.decFrom,qsL h1]
  simp only
  rw[qnC _ h2,q5v,List.length_cons,Nat.pow_succ]
  congr 1
  grind
theorem qqv{s:List UInt8}(h:q4B s)(hn:s≠[]):Lib.decNat s=some (val s):=by
 unfold Lib.decNat
 rw[if_neg (by simpa using hn),qnC 0 h];simp
theorem qtc{s:List UInt8}(h:q4B s)(hn:s≠[]):Lib.atoi s=some (val s:Int):=by
 obtain⟨c,t,e,h1,h2⟩:=qgj h hn
 rw[e] at h ⊢
 have n1:(c==45)=false:=by
  rw[beq_eq_false_iff_ne];intro hc;subst hc;revert h1;decide
 have n2:(c==43)=false:=by
  rw[beq_eq_false_iff_ne];intro hc;subst hc;revert h1;decide
 unfold Lib.atoi
 simp only[n1,n2,Bool.false_eq_true,if_false]
 rw[qqv h (by simp)];rfl
theorem qAs(m:Int):Lib.atoi (tI m)=some m:=by
 by_cases h:m<0
 ·rw[qa8 h]
  unfold Lib.atoi
  simp only[beq_self_eq_true,if_true]
  rw[qqv (zN _) (qnK _),kX]
  simp;omega
 ·rw[qhA h,qtc (zN _) (qnK _),kX]
  congr 1;omega
theorem qzF{s:List UInt8}{n:Int}(hl:s.length≤18)(h:Lib.atoi s=some n):(ve [.s s]).run=some (0,[.i n]):=by
 show (qzG [.s s]).run=_
 unfold qzG
 simp only
 rw[if_pos hl,h];rfl
theorem qwF:∀s:List UInt8,Lib.indexByte s 47=if sP s<s.length then (sP s:Int) else -1
 | []=>by simp[Lib.indexByte,sP]
 | c::s=>by
  have ih:=qwF s
  have hle:=qyZ s
  unfold Lib.indexByte
  by_cases h:c=47
  ·subst h
   have:sP (47::s)=0:=qCL (by simp) (by simp) (fun j hj=>by omega)
   rw[this];simp
  ·have hc:(c==47)=false:=by simpa using h
   have e:sP (c::s)=sP s+1:=by
    unfold sP
    rw[List.findIdx_cons,hc];rfl
   rw[e]
   generalize sP s=k at *
   have el:(c::s).length=s.length+1:=rfl
   simp only[hc,el,ih,Bool.false_eq_true,if_false]
   grind
theorem qCU(s:List UInt8):(vb [.s s,.s [47]]).run=some (0,[.i (if sP s<s.length then (sP s:Int) else -1)]):=by
 show (qtW [.s s,.s [47]]).run=_
 unfold qtW
 simp only
 rw[←qwF];rfl
theorem qwD:∀{s t:List UInt8},q4B s→q4B t→s.length=t.length→Lib.compareBytes s t=sgn ((val s:Int)-(val t:Int))
 | [],[],_,_,_=>by simp[Lib.compareBytes,val,sgn]
 | [],_::_,_,_,h=>by simp at h
 | _::_,[],_,_,h=>by simp at h
 | a::s,b::t,hs,ht,h=>by
  obtain⟨h1,h2⟩:=q0b.1 hs
  obtain⟨h3,h4⟩:=q0b.1 ht
  have hl:s.length=t.length:=by simpa using h
  have ih:=qwD h2 h4 hl
  have v1:=q5K h2
  have v2:=q5K h4
  unfold Lib.compareBytes
  rw[q5v,q5v,hl]
  rw[hl] at v1
  have hp:0<10^t.length:=Nat.pow_pos (by omega)
  generalize 10^t.length=P at *
  unfold dv
  by_cases c1:a.toNat<b.toNat
  ·rw[if_pos (show a<b from c1)]
   have:(a.toNat-48+1)*P≤(b.toNat-48)*P:=Nat.mul_le_mul_right _ (by omega)
   rw[Nat.add_mul,Nat.one_mul] at this
   unfold sgn
   rw[if_pos (by omega)]
  ·rw[if_neg (show ¬a<b from c1)]
   by_cases c2:b.toNat<a.toNat
   ·rw[if_pos (show b<a from c2)]
    have:(b.toNat-48+1)*P≤(a.toNat-48)*P:=Nat.mul_le_mul_right _ (by omega)
    rw[Nat.add_mul,Nat.one_mul] at this
    unfold sgn
    rw[if_neg (by omega),if_neg (by omega)]
   ·rw[if_neg (show ¬b<a from c2),ih]
    have:a.toNat=b.toNat:=by omega
    rw[this]
    congr 1;omega
theorem qy1{s t:List UInt8}(hs:q4B s)(ht:q4B t)(h:s.length=t.length):(q32 [.s s,.s t]).run=some (0,[.i (sgn ((val s:Int)-(val t:Int)))]):=by
 show (qmF [.s s,.s t]).run=_
 unfold qmF
 simp only
 rw[qwD hs ht h];rfl
def qyT:List UInt8:=[48,49,50,51,52,53,54,55,56,57]
theorem qwA(c:UInt8):(qyT.contains c=true)↔(48≤c.toNat∧c.toNat≤57):=by
 constructor
 ·intro h
  simp only[qyT,List.contains_eq_mem,List.mem_cons,List.not_mem_nil,or_false,decide_eq_true_eq] at h
  rcases h with rfl|rfl|rfl|rfl|rfl|rfl|rfl|rfl|rfl|rfl<;>decide
 ·rintro ⟨h1,h2⟩
  have hk:∃k,c=UInt8.ofNat k∧48≤k∧k≤57:=⟨c.toNat,by simp,h1,h2⟩
  obtain⟨k,rfl,k1,k2⟩:=hk
  have:k=48∨k=49∨k=50∨k=51∨k=52∨k=53∨k=54∨k=55∨k=56∨k=57:=by omega
  rcases this with rfl|rfl|rfl|rfl|rfl|rfl|rfl|rfl|rfl|rfl<;>decide
theorem q8q{p:UInt8→Bool}:∀{l:List UInt8},l.dropWhile p=[]↔∀x,x∈l→p x=true
 | []=>by simp
 | a::l=>by
  rw[List.dropWhile_cons]
  by_cases h:p a=true
  ·rw[if_pos h,q8q];simp[h]
  ·rw[if_neg h];simp[h]
theorem qgb(s:List UInt8):(Lib.trimS s qyT=[])=q4B s:=by
 apply propext
 unfold Lib.trimS Lib.trimLeftS Lib.trimRightS
 constructor
 ·intro h
  have h1:∀c,c∈(s.reverse.dropWhile (qyT.contains ·)).reverse→qyT.contains c=true:=by
   intro c hc
   have:=q8q.1 h c hc
   simpa using this
  have h2:s.reverse.dropWhile (qyT.contains ·)=[]:=by
   cases hd:s.reverse.dropWhile (qyT.contains ·) with
   | nil=>rfl
   | cons c t=>
    exfalso
    have h3:=List.head_dropWhile_not (p:=(qyT.contains ·)) (l:=s.reverse) (by rw[hd];simp)
    simp only[hd,List.head_cons] at h3
    have:=h1 c (by rw[hd];simp)
    rw[this] at h3;cases h3
  intro c hc
  have:=q8q.1 h2 c (by simpa using hc)
  exact(qwA c).1 (by simpa using this)
 ·intro h
  have h2:s.reverse.dropWhile (qyT.contains ·)=[]:=by
   rw[q8q]
   intro c hc
   exact(qwA c).2 (h c (by simpa using hc))
  rw[h2];rfl
theorem qDR(s:List UInt8)(hl:s.length≤9223372036854775807):(q6l [.s s,.s [48,49,50,51,52,53,54,55,56,57]]).run=some (0,[.s (Lib.trimS s qyT)]):=by
 show (qyB [.s s,.s qyT]).run=_
 unfold qyB
 simp only
 rw[if_pos ⟨hl,by decide,by decide⟩];rfl
end Go.Eng

namespace Go.Eng
theorem qAE(n:Nat):pB n=((10^(9*n):Nat):Int):=by
 unfold pB
 rw[Nat.pow_mul]
 simp
theorem qym:∀k:Nat,k≤9→qaA [48,48,48,48,48,48,48,48,48] (k:Int) 9=List.replicate (9-k) 48
 | 0,_=>rfl
 | 1,_=>rfl
 | 2,_=>rfl
 | 3,_=>rfl
 | 4,_=>rfl
 | 5,_=>rfl
 | 6,_=>rfl
 | 7,_=>rfl
 | 8,_=>rfl
 | 9,_=>rfl
 | n+10,h=>by omega
theorem qDd{v:Nat}(h:v<1000000000):q4B (qyW (tN v))∧(qyW (tN v)).length=9∧val (qyW (tN v))=v:=by
 have hl:(tN v).length≤9:=q5A 8 v (by omega)
 have e:qyW (tN v)=List.replicate (9-(tN v).length) 48++tN v:=by
  unfold qyW qbC
  rw[show qm (tN v)=((tN v).length:Int) from rfl,qym _ hl]
 rw[e]
 refine⟨q6v.2 ⟨qkz _,zN v⟩,by simp;omega,by rw[qoo,kX]⟩
theorem qqJ{l:List Int}(hl:l.length=232)(hd:dgs l):∀i:Nat,i≤232→q4B (qiG (rI l) i)∧(qiG (rI l) i).length=9*i∧((val (qiG (rI l) i):Nat):Int)=mv (l.take i)
 | 0,_=>⟨qjS,rfl,by simp[qiG,qdz,mv]⟩
 | i+1,h=>by
  obtain⟨h1,h2,h3⟩:=qqJ hl hd i (by omega)
  have hil:i<l.length:=by omega
  have hg:=hd _ (List.getElem_mem hil)
  have e:cI (rI l) (i:Int) 0=l[i]:=by rw[q4A,vX hil]
  have e2:Lib.itoa l[i]=tN l[i].toNat:=by rw[quX,qhA (by omega)];congr 1;omega
  obtain⟨p1,p2,p3⟩:=qDd (v:=l[i].toNat) (by omega)
  unfold qiG
  rw[e,e2]
  refine⟨q6v.2 ⟨p1,h1⟩,by rw[List.length_append,p2,h2];omega,?_⟩
  rw[qsz,p3,h2,qlL hil,qAE]
  simp only[Int.natCast_add,Int.natCast_mul,h3]
  rw[Int.toNat_of_nonneg hg.1];omega
theorem qBq{n:Nat}{l:List Int}(h:WOK n l)(hn:nrm n l)(b:Bool):qAk b (n:Int) (rI l)=tI (sv b l):=by
 unfold qAk
 by_cases h0:n=0
 ·have h1:mv l=0:=by rw[←qjh h hn];exact h0
  rw[if_pos (by omega)]
  unfold sv;rw[h1];cases b<;>rfl
 ·rw[if_neg (by omega)]
  obtain⟨m,rfl⟩:∃m,n=m+1:=⟨n-1,by omega⟩
  have hle:=h.le
  have hml:m<l.length:=by rw[h.len];omega
  have e1:(((m+1:Nat):Int)-1)=(m:Int):=by omega
  rw[e1,Int.toNat_natCast,q4A,vX hml]
  have hg:=h.dig _ (List.getElem_mem hml)
  have e2:Lib.itoa l[m]=tN l[m].toNat:=by rw[quX,qhA (by omega)];congr 1;omega
  obtain⟨t1,t2,t3⟩:=qqJ h.len h.dig m (by omega)
  have hnz:l[m]≠0:=by
   rcases hn with hn|hn
   ·omega
   ·rw[Nat.add_sub_cancel,vX hml] at hn;exact hn
  have hlo:=h.lo hn h0
  have hp:=qaE m
  simp only[Nat.add_sub_cancel] at hlo
  have hv:((val (tN l[m].toNat++qiG (rI l) m):Nat):Int)=mv l:=by
   rw[qsz,kX,t2,qah l m (by omega),qbi hml,wY h.dig h.z (Nat.le_refl _),qAE]
   simp only[Int.natCast_add,Int.natCast_mul,t3]
   rw[Int.toNat_of_nonneg hg.1]
   grind
  have hT:tN l[m].toNat++qiG (rI l) m=tN (mv l).toNat:=by
   have hd:q4B (tN l[m].toNat++qiG (rI l) m):=q6v.2 ⟨zN _,t1⟩
   have hne:tN l[m].toNat++qiG (rI l) m≠[]:=by simp[qnK]
   have hz:(tN l[m].toNat++qiG (rI l) m).getD 0 0≠48:=by
    have hv0:=kX l[m].toNat
    have hd0:=zN l[m].toNat
    rcases qzR l[m].toNat with h1|h1
    ·obtain⟨c,e⟩:=List.length_eq_one_iff.1 h1
     rw[e] at hv0 ⊢
     simp only[List.cons_append,List.getD_cons_zero]
     intro hc;subst hc
     rw[qw1] at hv0
     simp[dv] at hv0;omega
    ·obtain⟨c,t,e,_⟩:=qgj hd0 (qnK _)
     rw[e] at h1 ⊢
     simpa using h1
   have:=qnZ hd hne (.inr hz)
   rw[this];congr 1;omega
  rw[e2,List.append_assoc,hT]
  unfold sv
  cases b
  ·rw[if_neg (by simp),if_neg (by simp),qhA (by omega)];simp;congr 1;omega
  ·rw[if_pos rfl,if_pos rfl,qa8 (by omega)];simp;congr 1;omega
theorem qxh{n:Nat}{l:List Int}(h:WOK n l):qrv (n:Int) (rI l)=true:=by
 unfold qrv
 have:=h.le
 simp only[Bool.and_eq_true,decide_eq_true_eq,List.all_eq_true,List.mem_range]
 refine⟨⟨by omega,by omega⟩,fun i _=>?_⟩
 have:=h.get i
 rw[q4A];exact this
theorem qwY{n:Nat}{l:List Int}(h:WOK n l)(hn:nrm n l)(b:Bool):(qG [.b b,.i (n:Int),.r (rI l)]).run=some (0,[.s (tI (sv b l)),.b b,.i (n:Int),.r (rI l)]):=by
 show (qAC [.b b,.i (n:Int),.r (rI l)]).run=_
 unfold qAC
 simp only
 rw[if_pos (qxh h),qBq h hn];rfl
end Go.Eng

namespace Go.Eng
theorem qBs{nr ny:Nat}{lr ly:List Int}(hr:WOK nr lr)(hnr:nrm nr lr)(hy:WOK ny ly)(hny:nrm ny ly)(h0:ny≠0)(hy231:ny≤231)(hlt:mv lr<mv ly*1000000000)(y0:Int)(xb:Bool)(xi:Int)(xr:R)(b2:Bool)(qb:Bool)(qi:Int)(qr:R)(br:Bool) :
  ∃(d:Int) (n:Nat) (l:List Int),(qg js [.i y0,.i 0,.b xb,.i xi,.r xr,.b b2,.i (ny:Int),.r (rI ly),.b qb,.i qi,.r qr,.b br,.i (nr:Int),.r (rI lr)]).run =
   some (0,[.i y0,.i d,.b xb,.i xi,.r xr,.b b2,.i (ny:Int),.r (rI ly),.b qb,.i qi,.r qr,.b br,.i (n:Int),.r (rI l)])∧WOK n l∧nrm n l∧0≤d∧d<1000000000∧mv lr=d*mv ly+mv l∧mv l<mv ly:=by
 have hyp:0<mv ly:=by
  have:=hy.lo hny h0
  have:=qaE (ny-1)
  omega
 have hyb:=hy.bd
 obtain⟨j,qs,g1,rfl,d,n,l,rfl,g2⟩:=vr (S:=js) (fun k ps=>∃(d:Int) (n:Nat) (l:List Int),ps=[.i y0,.i d,.b xb,.i xi,.r xr,.b b2,.i (ny:Int),.r (rI ly),.b qb,.i qi,.r qr,.b br,.i (n:Int),.r (rI l)] ∧
   WOK n l∧nrm n l∧0≤d∧d+k=1000000000∧mv lr=d*mv ly+mv l)
  (fun j qs=>j=0∧∃(d:Int) (n:Nat) (l:List Int),qs=[.i y0,.i d,.b xb,.i xi,.r xr,.b b2,.i (ny:Int),.r (rI ly),.b qb,.i qi,.r qr,.b br,.i (n:Int),.r (rI l)]∧WOK n l∧nrm n l∧0≤d∧d<1000000000∧mv lr=d*mv ly+mv l∧mv l<mv ly) (n:=1000000000) (by omega)
  (fun k ps hk ⟨d,n,l,hps,hw,hn,hd0,hdk,hv⟩=>by
   subst hps
   have hlb:=hw.bd
   have hdlt:d<1000000000:=by
    rcases Int.lt_or_le d 1000000000 with h|h
    ·exact h
    ·have:=Int.mul_le_mul_of_nonneg_right h (show 0≤mv ly by omega)
     rw[Int.mul_comm (mv ly)] at hlt
     omega
   rw[qhS]
   obtain⟨r,r1,r2⟩:=qwq hw hn hy hny br b2
   by_cases hle:mv ly≤mv l
   ·left
    have hr0:0≤r:=by rw[r2];exact hle
    have hdm:=Int.mul_nonneg hd0 (show 0≤mv ly by omega)
    have hl9:mv l<pB (ny+1):=by rw[q9k];omega
    obtain⟨q,e1,e2,e3,e4⟩:=qxJ hw hn hy hny h0 hle hl9 hy231 br b2
    obtain⟨n',l',c1,c2,c3,c4⟩:=qoL (f:=-q) (up:=0) hw hy (by omega) (by omega) (T:=mv l-q*mv ly) (by rw[q5c,Int.mul_one,Int.neg_mul];omega) (by omega)
     (by have:=hlb.2;have:=qbf hw.le;have:=Int.mul_nonneg (show 0≤q by omega) (show 0≤mv ly by omega);omega) br b2
    have hq2:(d+q)*mv ly+(mv l-q*mv ly)=d*mv ly+mv l:=by rw[Int.add_mul];omega
    have hdq:d+q<1000000000:=by
     rcases Int.lt_or_le (d+q) 1000000000 with h|h
     ·exact h
     ·have:=Int.mul_le_mul_of_nonneg_right h (show 0≤mv ly by omega)
      rw[Int.mul_comm (mv ly)] at hlt
      omega
    have w1:qv .i64 0 q=-q:=qvR (by omega)
    have w2:qh .i64 d q=d+q:=qN (by omega)
    simp only[show ((0:Nat):Int)=0 from rfl] at c1
    refine⟨(1000000000-(d+q)).toNat,[.i y0,.i (d+q),.b xb,.i xi,.r xr,.b b2,.i (ny:Int),.r (rI ly),.b qb,.i qi,.r qr,.b br,.i (n':Int),.r (rI l')],by omega,?_,d+q,n',l',rfl,c2,c3,by omega,by omega,by rw[c4];omega⟩
    simp only[STD,r1,hr0,e1,w1,w2,c1]
   ·right
    have hr0:¬0≤r:=by rw[r2];exact hle
    refine⟨0,_,?_,rfl,d,n,l,rfl,hw,hn,hd0,hdlt,hv,by omega⟩
    simp only[STD,r1,hr0]) (ps:=[.i y0,.i 0,.b xb,.i xi,.r xr,.b b2,.i (ny:Int),.r (rI ly),.b qb,.i qi,.r qr,.b br,.i (nr:Int),.r (rI lr)]) ⟨0,nr,lr,rfl,hr,hnr,by omega,by omega,by omega⟩
 exact⟨d,n,l,g1,g2⟩
theorem qBl{n:Nat}{l:List Int}{d:Int}(h:WOK n l)(hn:n≤231)(hd:0≤d∧d<1000000000) :
  qcA (qin (rI l) 1 (rI l) 0 (q94 (qvA (n:Int) 0) (qvA 232 1))) 0 0 [.i d]=rI (d::(l.take n++l.drop (1+n)))∧WOK (n+1) (d::(l.take n++l.drop (1+n)))∧mv (d::(l.take n++l.drop (1+n)))=d+1000000000*mv l:=by
 have hlen:=h.len
 have e1:q94 (qvA (n:Int) 0) (qvA 232 1)=(n:Int):=by unfold q94 qvA;split<;>omega
 obtain⟨x,t,rfl⟩:∃x t,l=x::t:=by
  cases l with
  | nil=>simp at hlen
  | cons x t=>exact⟨x,t,rfl⟩
 refine⟨?_,⟨by simp;simp at hlen;omega,by omega,?_,?_⟩,?_⟩
 ·rw[e1]
  unfold qin
  have:(rI (x::t)).take (1:Int).toNat++((rI (x::t)).drop (0:Int).toNat).take (n:Int).toNat++(rI (x::t)).drop ((1:Int).toNat+(n:Int).toNat)=rI (x::((x::t).take n++(x::t).drop (1+n))):=by
   rw[Int.toNat_natCast]
   simp[rI,List.map_take,List.map_drop]
  rw[this,show (0:Int)=((0:Nat):Int) from rfl,qi0]
  rfl
 ·intro y hy
  rcases List.mem_cons.1 hy with rfl|hy
  ·exact hd
  ·rcases List.mem_append.1 hy with hy|hy
   ·exact h.dig _ (List.mem_of_mem_take hy)
   ·exact h.dig _ (List.mem_of_mem_drop hy)
 ·intro i hi
  obtain⟨j,rfl⟩:∃j,i=j+1:=⟨i-1,by omega⟩
  have hz:=h.z (j+1) (by omega)
  rw[List.getD_eq_getElem?_getD] at hz ⊢
  rw[List.getElem?_cons_succ,List.getElem?_append_right (by simp;omega)]
  rw[List.getElem?_drop,List.length_take,Nat.min_eq_left (by omega)]
  rw[show 1+n+(j-n)=j+1 by omega]
  exact hz
 ·show d+1000000000*mv _=_
  rw[qwy,List.length_take,Nat.min_eq_left (by omega),wY h.dig h.z (show n≤1+n by omega)]
  have:=qah (x::t) n (by omega)
  rw[wY h.dig h.z (Nat.le_refl n)] at this
  omega
theorem qfJ{nx ny:Nat}{lx ly:List Int}(hx:WOK nx lx)(hy:WOK ny ly)(hny:nrm ny ly)(h0:ny≠0)(hy231:ny≤231)(bx b2:Bool) :
  ∃(nq:Nat) (lq:List Int) (nr:Nat) (lr:List Int),(wu [.b bx,.i (nx:Int),.r (rI lx),.b b2,.i (ny:Int),.r (rI ly)]).run =
   some (0,[.b bx,.i (nx:Int),.r (rI lx),.b b2,.i (ny:Int),.r (rI ly),.b false,.i (nq:Int),.r (rI lq),.b false,.i (nr:Int),.r (rI lr)])∧WOK nq lq∧nrm nq lq∧WOK nr lr∧nrm nr lr∧mv lx=mv lq*mv ly+mv lr∧mv lr<mv ly:=by
 rw[qmj]
 have hyp:0<mv ly:=by
  have:=hy.lo hny h0
  have:=qaE (ny-1)
  omega
 have hx232:=hx.le
 have e0:q3i 232 [.i 0]=rI (List.replicate 232 0):=qhJ 232 0
 have hxl:=hx.len
 obtain⟨j,qs,g1,rfl,nq,lq,nr,lr,rfl,g2,g3,g4,g5,g6⟩:=vr (S:=q0g) (fun k ps=>∃(Q:Int) (nq:Nat) (lq:List Int) (nr:Nat) (lr:List Int),
   ps=[.i ((k:Int)-1),.b bx,.i (nx:Int),.r (rI lx),.b b2,.i (ny:Int),.r (rI ly),.b false,.i (nq:Int),.r (rI lq),.b false,.i (nr:Int),.r (rI lr)]∧k≤nx∧WOK nq lq∧WOK nr lr∧nrm nr lr∧mv (lx.drop k)=Q*mv ly+mv lr∧mv lr<mv ly∧mv lq=pB k*Q∧∀i,i<k→lq.getD i 0=0)
  (fun j qs=>j=0∧∃(nq:Nat) (lq:List Int) (nr:Nat) (lr:List Int),qs=[.b bx,.i (nx:Int),.r (rI lx),.b b2,.i (ny:Int),.r (rI ly),.b false,.i (nq:Int),.r (rI lq),.b false,.i (nr:Int),.r (rI lr)]∧WOK nq lq∧WOK nr lr∧nrm nr lr∧mv lx=mv lq*mv ly+mv lr∧mv lr<mv ly) (n:=nx) (by omega)
  (fun k ps hk ⟨Q,nq,lq,nr,lr,hps,hkn,hwq,hwr,hnr,hv,hlt,hq,hz⟩=>by
   subst hps
   rw[qj2]
   rcases Nat.eq_zero_or_pos k with rfl|hk0
   ·right
    have a1:¬(0:Int)≤((0:Nat):Int)-1:=by omega
    refine⟨0,[.b bx,.i (nx:Int),.r (rI lx),.b b2,.i (ny:Int),.r (rI ly),.b false,.i (nq:Int),.r (rI lq),.b false,.i (nr:Int),.r (rI lr)],?_,rfl,nq,lq,nr,lr,rfl,hwq,hwr,hnr,?_,hlt⟩
    ·simp only[STD,a1]
    ·rw[hq,q5c,Int.one_mul,←hv,List.drop_zero]
   ·left
    obtain⟨i,rfl⟩:∃i,k=i+1:=⟨k-1,by omega⟩
    have e:(((i+1:Nat):Int)-1)=(i:Int):=by omega
    rw[e]
    have hnr231:nr≤231:=Nat.le_trans (qEI hwr hnr hy (by omega)) hy231
    have hil:i<lx.length:=by omega
    have gx:=hx.get i
    obtain⟨s1,s2,s3⟩:=qBl hwr hnr231 (d:=lx.getD i 0) gx
    obtain⟨m,t1,t2,t3⟩:=qjp s2 false
    have hX:mv (lx.drop i)=lx.getD i 0+1000000000*(Q*mv ly+mv lr):=by rw[qbi hil,←hv,vX hil]
    have hlt2:mv (lx.getD i 0::(lr.take nr++lr.drop (1+nr)))<mv ly*1000000000:=by rw[s3];omega
    obtain⟨d,n',l',d1,d2,d3,d4,d5,d6,d7⟩:=qBs t2 t3 hy hny h0 hy231 hlt2 (i:Int) bx (nx:Int) (rI lx) b2 false (nq:Int) (rI lq) false
    rw[s3] at d6
    have a1:(0:Int)≤(i:Int):=by omega
    have a2:(i:Int)<232:=by omega
    have a3:(0:Int)≤232∧(232:Int)≤232:=by omega
    have a4:(0:Int)≤1∧(1:Int)≤232:=by omega
    have a5:(0:Int)≤(nr:Int)∧(nr:Int)≤232:=by omega
    have a6:(0:Int)≤0∧(0:Int)≤(nr:Int):=by omega
    have w1:qh .i64 (nr:Int) 1=((nr+1:Nat):Int):=by rw[qN (by omega)];omega
    have w2:qh .i64 (i:Int) 1=((i+1:Nat):Int):=by rw[qN (by omega)];omega
    have w3:qv .i64 (i:Int) 1=(i:Int)-1:=wO (by omega)
    have w4:qeF (nq:Int) ((i+1:Nat):Int)=((max nq (i+1):Nat):Int):=qrX _ _
    have hiq:i<lq.length:=by rw[hwq.len];omega
    have hzi:lq[i]=0:=by rw[←vX hiq];exact hz i (by omega)
    refine⟨i,[.i ((i:Int)-1),.b bx,.i (nx:Int),.r (rI lx),.b b2,.i (ny:Int),.r (rI ly),.b false,.i ((max nq (i+1):Nat):Int),.r (rI (lq.set i d)),.b false,.i (n':Int),.r (rI l')],by omega,?_,Q*1000000000+d,_,_,_,_,rfl,by omega,hwq.setW (by omega) ⟨d4,d5⟩,d2,d3,?_,d7,?_,?_⟩
    ·simp only[q4A,s1,w1]
     simp only[STD,a1,a2,a3,a4,a5,a6,and_self,t1,d1,w2,w3,w4,qi0]
    ·rw[hX,Int.add_mul,Int.mul_add]
     have:Q*1000000000*mv ly=1000000000*(Q*mv ly):=by grind
     omega
    ·rw[qwJ lq i hiq,hzi,hq,q9k];grind
    ·intro a ha
     rw[List.getD_eq_getElem?_getD,List.getElem?_set_ne (by omega),←List.getD_eq_getElem?_getD]
     exact hz a (by omega))
  (ps:=[.i ((nx:Int)-1),.b bx,.i (nx:Int),.r (rI lx),.b b2,.i (ny:Int),.r (rI ly),.b false,.i 0,.r (rI (List.replicate 232 0)),.b false,.i 0,.r (rI (List.replicate 232 0))])
  ⟨0,0,_,0,_,rfl,Nat.le_refl _,WOK.zero,WOK.zero,.inl rfl,by rw[wY hx.dig hx.z (Nat.le_refl _),qda];omega,by rw[qda];exact hyp,by rw[qda,Int.mul_zero],fun i _=>qt1 232 i⟩
 obtain⟨m,t1,t2,t3⟩:=qjp g2 false
 refine⟨m,lq,nr,lr,?_,t2,t3,g3,g4,g5,g6⟩
 have hs:qv .i64 (nx:Int) 1=(nx:Int)-1:=wO (by omega)
 simp only[e0,hs]
 simp only[STD,g1,t1]
end Go.Eng

namespace Go.Eng
theorem qDW{c:UInt8}{t:List UInt8}:qaA (c::t) 0 1=[c]:=by simp[qaA]
theorem qAd(s:List UInt8):(qD [.s s,.s [45]]).run=some (0,[.b (decide (s.getD 0 0=45))]):=by
 rw[q4F]
 have h1:qm [45]=1:=rfl
 cases s with
 | nil=>
  have a:¬(1:Int)≤qm []:=by decide
  simp only[STD,h1,a];rfl
 | cons c t=>
  have a:(1:Int)≤qm (c::t):=by unfold qm;simp only[List.length_cons];omega
  simp only[STD,h1,a,show (0:Int)≤1 by omega,show (0:Int)≤0 by omega,and_self,qDW]
  have e:seq [c] [45]=decide ((c::t).getD 0 0=45):=by rw[Bool.eq_iff_iff,qS];simp
  rw[e]
theorem qsm(s:List UInt8):(qM [.s s,.s [45]]).run=some (0,[.s (mag s)]):=by
 rw[qfh]
 have h:(z8 [.s s,.s [45]]).run=some (0,[.s (mag s)]):=by
  rw[q4C]
  have h1:qm [45]=1:=rfl
  unfold mag
  by_cases h:s.getD 0 0=45
  ·rw[if_pos h]
   have a:(1:Int)≤qm s:=by
    cases s with
    | nil=>simp at h
    | cons c t=>unfold qm;simp only[List.length_cons];omega
   have e:qaA s 1 (qm s)=s.drop 1:=by unfold qaA qm;simp
   simp only[STD,qAd,h,h1,a,and_self,Int.le_refl,show (0:Int)≤qm s by omega,show (0:Int)≤1 by omega,e]
  ·rw[if_neg h]
   simp only[STD,qAd,h]
 simp only[STD,h]
theorem qdv(s:List UInt8)(hl:s.length≤1000000000):(qJ [.s s]).run=some (0,[.i (quB s)]):=by
 rw[qqc]
 have hT:=qsm s
 have hml:(mag s).length≤s.length:=by unfold mag;split<;>simp
 have hR:=qDR (mag s) (by omega)
 have hcan:=quy s
 unfold quB
 have hl3:(1024<qm (mag s))=¬((mag s).length≤1024):=by unfold qm;simp only[eq_iff_iff];omega
 by_cases hne:mag s=[]
 ·rw[if_neg (fun h=>(hcan.1 h).1 hne)]
  simp only[STD,hT,qS,hne]
 ·have hp:0<(mag s).length:=List.length_pos_iff.2 hne
  have a1:(0:Int)<qm (mag s):=by unfold qm;omega
  have hs:sat (mag s) 0=((mag s)[0].toNat:Int):=qhX (i:=0) hp
  have h48:((mag s)[0].toNat:Int)=48↔(mag s).getD 0 0=48:=by
   have:(mag s).getD 0 0=(mag s)[0]:=by simp[List.getD_eq_getElem?_getD,hp]
   rw[this]
   exact⟨fun h=>UInt8.toNat_inj.1 (by show (mag s)[0].toNat=48;omega),fun h=>by rw[h];rfl⟩
  by_cases hd:q4B (mag s)
  ·have hs1:((mag s).getD 0 0=48→s.length=1)↔(((mag s)[0].toNat:Int)=48→s=[48]):=by
    rw[h48]
    constructor
    ·intro h h2
     obtain⟨c,e⟩:=List.length_eq_one_iff.1 (h h2)
     subst e
     by_cases hc:c=45
     ·subst hc;exact absurd rfl hne
     ·have:mag [c]=[c]:=by unfold mag;rw[if_neg (by simpa using hc)]
      rw[this] at h2
      simp at h2
      rw[h2]
    ·intro h h2
     rw[h h2];rfl
   by_cases hz:((mag s)[0].toNat:Int)=48
   ·by_cases h0:s=[48]
    ·rw[if_pos (hcan.2 ⟨hne,hd,hs1.2 fun _=>h0⟩)]
     by_cases hL:(mag s).length≤1024
     ·simp only[STD,hT,hR,qS,hne,qgb,hd,a1,hs,hz,hl3,hL,Int.le_refl,and_self]
      simp only[STD,h0]
     ·simp only[STD,hT,hR,qS,hne,qgb,hd,a1,hs,hz,hl3,hL,Int.le_refl,and_self]
      simp only[STD,h0]
    ·rw[if_neg (fun h=>h0 (hs1.1 (hcan.1 h).2.2 hz))]
     simp only[STD,hT,hR,qS,hne,qgb,hd,a1,hs,hz,h0,Int.le_refl,and_self]
   ·rw[if_pos (hcan.2 ⟨hne,hd,fun h=>absurd (h48.2 h) hz⟩)]
    by_cases hL:(mag s).length≤1024
    ·simp only[STD,hT,hR,qS,hne,qgb,hd,a1,hs,hz,hl3,hL,Int.le_refl,and_self]
    ·simp only[STD,hT,hR,qS,hne,qgb,hd,a1,hs,hz,hl3,hL,Int.le_refl,and_self]
  ·rw[if_neg (fun h=>hd (hcan.1 h).2.1)]
   simp only[STD,hT,hR,qS,hne,qgb,hd]
def okL(m:Int):Prop:=nl m≤1024
theorem qv7{m:Int}(h:okL m):quB (tI m)=0:=by
 unfold quB
 rw[if_pos ⟨m,rfl⟩,quj,if_pos (show (tN m.natAbs).length≤1024 from h)]
theorem qvY{m:Int}(h:okL m):(tI m).length≤1025:=by
 have:=qtw m
 unfold okL nl at h
 omega
theorem qcH{m:Int}(h:okL m):(qJ [.s (tI m)]).run=some (0,[.i 0]):=by
 have:=qvY h
 rw[qdv _ (by omega),qv7 h]
def rS(l:List (List UInt8)):R:=l.map fun s=>[.s s]
theorem qqq(l:List (List UInt8)):qj (rS l)=l.length:=by simp[rS,qj]
theorem qzu{l:List (List UInt8)}{i:Nat}(h:i<l.length):cS (rS l) (i:Int) 0=l[i]:=by simp[cS,wX,rS,List.getD_eq_getElem?_getD,h,U.toS]
theorem qDZ{l:List (List UInt8)}(hn:l.length<1000000)(h:∀s,s∈l→(qJ [.s s]).run=some (0,[.i 0])):(zG [.r (rS l)]).run=some (0,[.i 0]):=by
 rw[qtf,qqq]
 have key:=jy (S:=q5l) (fun i=>[.r (rS l),.i (l.length:Int),.i (i:Int)]) (0,[]) l.length (by omega) (fun i hi=>by
  rw[qgP,qzu hi]
  have a1:(i:Int)<(l.length:Int):=by omega
  have a2:(i:Int)<qj (rS l):=by rw[qqq];exact a1
  simp only[STD,a1,a2,q4v,and_self,h _ (List.getElem_mem hi),q1m hi (show l.length<9223372036854775808 by omega)]) (by
  rw[qgP]
  have a1:¬(l.length:Int)<(l.length:Int):=by omega
  simp only[STD,a1])
 simp only[show (((0:Nat)):Int)=0 from rfl] at key
 simp only[STD,key,qw key]
theorem qdP{m n:Int}(hm:okL m)(hn:okL n):(zG [.r [[.s (tI m)],[.s (tI n)]]]).run=some (0,[.i 0]):=by
 have:=qDZ (l:=[tI m,tI n]) (by simp) (fun s hs=>by
  simp only[List.mem_cons,List.not_mem_nil,or_false] at hs
  rcases hs with rfl|rfl
  ·exact qcH hm
  ·exact qcH hn)
 exact this
theorem q5S(n:Int)(h:-9223372036854775808≤n∧n≤9223372036854775807):(zi [.i n]).run=some (0,[.s (tI n)]):=by
 rw[qvq]
 simp only[STD,qDy n h]
theorem q5Z(m:Int):(tI m=[48])=(m=0):=propext ⟨fun h=>qu9 (n:=0) h,fun h=>by rw[h];rfl⟩
theorem q20(m:Int):(yk [.s (tI m)]).run=some (0,[.i (sgn m)]):=by
 rw[qre]
 have a1:(0:Int)<qm (tI m):=by have:=qmW m;unfold qm;omega
 have hs:(sat (tI m) 0=45)=(m<0):=qxd m
 unfold sgn
 by_cases h0:m=0
 ·simp only[STD,qS,q5Z,h0];rfl
 ·by_cases h1:m<0
  ·simp only[STD,qS,q5Z,h0,a1,hs,h1,Int.le_refl,and_self]
  ·simp only[STD,qS,q5Z,h0,a1,hs,h1,Int.le_refl,and_self]
theorem qtO{m:Int}(h:okL m):(q6I [.s (tI m)]).run=some (0,[.i (sgn m),.i 0]):=by
 rw[qrR]
 simp only[STD,qcH h,q20]
theorem qDc(m n:Nat):(q50 [.s (tN m),.s (tN n)]).run=some (0,[.i (sgn ((m:Int)-(n:Int)))]):=by
 rw[qpO]
 have hl:(qm (tN m)=qm (tN n))=((tN m).length=(tN n).length):=by unfold qm;simp only[eq_iff_iff];omega
 have hl2:(qm (tN m)<qm (tN n))=((tN m).length<(tN n).length):=by unfold qm;simp only[eq_iff_iff];omega
 by_cases he:(tN m).length=(tN n).length
 ·have h:=qy1 (zN m) (zN n) he
  rw[kX,kX] at h
  simp only[STD,hl,he,h]
 ·by_cases hlt:(tN m).length<(tN n).length
  ·have h:=(qw9 m n).1 (.inl hlt)
   simp only[STD,hl,hl2,he,hlt]
   unfold sgn
   rw[if_pos (by omega)]
  ·have h:=(qw9 n m).1 (.inl (by omega))
   simp only[STD,hl,hl2,he,hlt]
   unfold sgn
   rw[if_neg (by omega),if_neg (by omega)]
theorem qbF(m:Int):(m<0∧sgn m=-1)∨(m=0∧sgn m=0)∨(0<m∧sgn m=1):=by
 unfold sgn
 rcases Int.lt_trichotomy m 0 with h|h|h
 ·rw[if_pos h];omega
 ·subst h;simp
 ·rw[if_neg (by omega),if_neg (by omega)];omega
theorem qnQ(m:Int):-1≤sgn m∧sgn m≤1:=by rcases qbF m with⟨_,e⟩|⟨_,e⟩|⟨_,e⟩<;>omega
theorem qCJ(m n:Int):(if sgn m<sgn n then -1 else if sgn n<sgn m then 1 else sgn m*sgn ((m.natAbs:Int)-(n.natAbs:Int)))=sgn (m-n):=by
 rcases qbF m with⟨a,ea⟩|⟨a,ea⟩|⟨a,ea⟩<;>rcases qbF n with⟨b,eb⟩|⟨b,eb⟩|⟨b,eb⟩<;>rw[ea,eb]<;>simp only[Int.reduceLT,Int.reduceNeg,if_true,if_false] <;>
  rcases qbF (m-n) with⟨c,ec⟩|⟨c,ec⟩|⟨c,ec⟩<;>rcases qbF ((m.natAbs:Int)-(n.natAbs:Int)) with⟨d,ed⟩|⟨d,ed⟩|⟨d,ed⟩<;>omega
theorem qnI{m n:Int}(hm:okL m)(hn:okL n):(q1W [.s (tI m),.s (tI n)]).run=some (0,[.i (sgn (m-n)),.i 0]):=by
 rw[qmo]
 have h1:=qsm (tI m)
 have h2:=qsm (tI n)
 rw[quj] at h1 h2
 have h3:=qDc m.natAbs n.natAbs
 have hw:∀a b:Int,-1≤a∧a≤1→-1≤b∧b≤1→u7 .i64 a b=a*b:=fun a b ha hb=>q4G (by have:=qDs (A:=1) (B:=1) ha.1 ha.2 hb.1 hb.2;omega)
 have ba:=qnQ m
 have bb:=qnQ n
 have bc:=qnQ ((m.natAbs:Int)-(n.natAbs:Int))
 have e:=qCJ m n
 by_cases c1:sgn m<sgn n
 ·rw[if_pos c1] at e
  simp only[STD,qdP hm hn,q20,h1,h2,h3,c1,←e]
 ·rw[if_neg c1] at e
  by_cases c2:sgn n<sgn m
  ·rw[if_pos c2] at e
   simp only[STD,qdP hm hn,q20,h1,h2,h3,c1,c2,←e]
  ·rw[if_neg c2] at e
   simp only[STD,qdP hm hn,q20,h1,h2,h3,c1,c2,hw _ _ ba bc,←e]
theorem qlE(m:Int)(hm:nl m≤2000):∃(n:Nat) (l:List Int),(zp [.s (tI m)]).run=some (0,[.b (decide (m<0)),.i (n:Int),.r (rI l)])∧WOK n l∧nrm n l∧mv l=m.natAbs∧9*n≤nl m+8:=by
 rw[qsp]
 have h1:=qsm (tI m)
 rw[quj] at h1
 have a1:(0:Int)<qm (tI m):=by have:=qmW m;unfold qm;omega
 have hb:ieq (sat (tI m) 0) 45=decide (m<0):=by
  rw[Bool.eq_iff_iff,qvI,qxd];simp
 have e0:q3i 232 [.i 0]=rI (List.replicate 232 0):=qhJ 232 0
 have hL:(tN m.natAbs).length≤2000:=hm
 obtain⟨j,qs,g1,rfl,n,l,rfl,g2,g3,g4⟩:=vr (S:=q3L) (fun k ps=>∃(n:Nat) (l:List Int),ps=[.s ((tN m.natAbs).take k),.b (decide (m<0)),.i (n:Int),.r (rI l)]∧k≤(tN m.natAbs).length∧WOK n l ∧
   (k=0∧9*n≤(tN m.natAbs).length+8∨k+9*n=(tN m.natAbs).length)∧((val (tN m.natAbs):Nat):Int)=((val ((tN m.natAbs).take k):Nat):Int)*pB n+mv l)
  (fun j qs=>j=0∧∃(n:Nat) (l:List Int),qs=[.b (decide (m<0)),.i (n:Int),.r (rI l)]∧WOK n l∧mv l=m.natAbs∧9*n≤(tN m.natAbs).length+8) (n:=(tN m.natAbs).length) (by omega)
  (fun k ps hk ⟨n,l,hps,hkl,hw,hkn,hv⟩=>by
   subst hps
   rw[qnX]
   have hlk:qm ((tN m.natAbs).take k)=(k:Int):=by unfold qm;rw[List.length_take,Nat.min_eq_left hkl]
   rcases Nat.eq_zero_or_pos k with rfl|hk0
   ·right
    refine⟨0,[.b (decide (m<0)),.i (n:Int),.r (rI l)],?_,rfl,n,l,rfl,hw,?_,by omega⟩
    ·have a:¬(0:Int)<qm ((tN m.natAbs).take 0):=by rw[hlk];omega
     simp only[STD,a]
    ·rw[kX,List.take_zero,qdz] at hv
     simp at hv;omega
   ·left
    have hn231:n≤231:=by omega
    obtain⟨q,hq,hq9⟩:∃q:Nat,qeF 0 (qv .i64 (k:Int) 9)=(q:Int)∧q=k-9:=by
     refine⟨k-9,?_,rfl⟩
     rw[wO (by omega)];unfold qeF;split<;>omega
    have hqk:q≤k:=by omega
    have hsub:qaA ((tN m.natAbs).take k) (q:Int) (k:Int)=((tN m.natAbs).take k).drop q:=by unfold qaA;simp[List.take_take]
    have hsub2:qaA ((tN m.natAbs).take k) 0 (q:Int)=(tN m.natAbs).take q:=by unfold qaA;simp[List.take_take,Nat.min_eq_left hqk]
    have hdg:q4B (((tN m.natAbs).take k).drop q):=qAB (qsM (zN _) k) q
    have hdl:(((tN m.natAbs).take k).drop q).length=k-q:=by rw[List.length_drop,List.length_take,Nat.min_eq_left hkl]
    have hdn:((tN m.natAbs).take k).drop q≠[]:=by intro h;rw[h] at hdl;simp at hdl;omega
    have hA:=qzF (s:=((tN m.natAbs).take k).drop q) (by omega) (qtc hdg hdn)
    have hvl:=q5K hdg
    rw[hdl] at hvl
    have hv9:val (((tN m.natAbs).take k).drop q)<1000000000:=Nat.lt_of_lt_of_le hvl (by
     have:(10:Nat)^(k-q)≤10^9:=Nat.pow_le_pow_right (by omega) (by omega)
     simpa using this)
    have b1:(0:Int)<(k:Int):=by omega
    have b2:(0:Int)≤(q:Int)∧(q:Int)≤(k:Int):=by omega
    have b3:(0:Int)≤(k:Int)∧(k:Int)≤(k:Int):=by omega
    have b4:(0:Int)≤(n:Int)∧(n:Int)<232:=by omega
    have b5:(0:Int)≤0∧(0:Int)≤(q:Int):=by omega
    have w1:qh .i64 (n:Int) 1=((n+1:Nat):Int):=by rw[qN (by omega)];omega
    have hnl:n<l.length:=by rw[hw.len];omega
    have hz:l[n]=0:=by rw[←vX hnl];exact hw.z n (Nat.le_refl _)
    have hW:=hw.setW (j:=n) (y:=((val (((tN m.natAbs).take k).drop q):Nat):Int)) (by omega) (by omega)
    rw[Nat.max_eq_right (by omega)] at hW
    refine⟨q,[.s ((tN m.natAbs).take q),.b (decide (m<0)),.i ((n+1:Nat):Int),.r (rI (l.set n ((val (((tN m.natAbs).take k).drop q):Nat):Int)))],by omega,?_,n+1,_,rfl,by omega,hW,by omega,?_⟩
    ·simp only[STD,hlk,b1,hq,b2,b3,b4,b5,and_self,hsub,hsub2,hA,w1,qi0]
    ·rw[qwJ l n hnl,hz,hv]
     have hsp:val ((tN m.natAbs).take k)=val ((tN m.natAbs).take q)*10^(k-q)+val (((tN m.natAbs).take k).drop q):=by
      have h1:(tN m.natAbs).take k=((tN m.natAbs).take k).take q++((tN m.natAbs).take k).drop q:=(List.take_append_drop q _).symm
      have h2:((tN m.natAbs).take k).take q=(tN m.natAbs).take q:=by rw[List.take_take,Nat.min_eq_left hqk]
      rw[h2] at h1
      generalize ((tN m.natAbs).take k).drop q=D at *
      rw[h1,qsz,hdl]
     rw[hsp,q9k]
     rcases Nat.lt_or_ge k 9 with h9|h9
     ·have:q=0:=by omega
      subst this
      rw[List.take_zero,qdz]
      simp;omega
     ·have:k-q=9:=by omega
      rw[this]
      simp only[Int.natCast_add,Int.natCast_mul]
      have e9:(((10:Nat)^9:Nat):Int)=1000000000:=by simp
      rw[e9]
      grind) (ps:=[.s ((tN m.natAbs).take (tN m.natAbs).length),.b (decide (m<0)),.i 0,.r (rI (List.replicate 232 0))])
  ⟨0,_,rfl,Nat.le_refl _,WOK.zero,.inr (by omega),by rw[q5c,List.take_length,qda];simp⟩
 rw[List.take_length] at g1
 obtain⟨n2,t1,t2,t3⟩:=qjp g2 (decide (m<0))
 refine⟨n2,l,?_,t2,t3,g3,?_⟩
 ·simp only[STD,e0,hb,h1,a1,Int.le_refl,and_self,g1,t1]
 ·have:=qEI t2 t3 g2 (Int.le_refl _)
  unfold nl;omega
end Go.Eng

namespace Go.Eng
theorem qCY{m:Int}{k n:Nat}(h:nl m≤k)(hk:k≤9*n):(m.natAbs:Int)<pB n:=by
 rw[qAE]
 have h1:=qDz h
 have h2:(10:Nat)^k≤10^(9*n):=Nat.pow_le_pow_right (by omega) hk
 omega
theorem qqy{m:Int}(h:okL m):(m.natAbs:Int)<pB 114:=qCY (k:=1024) h (by omega)
theorem qrG{m:Int}(h:okL m):okL (-m):=by unfold okL;rw[qoK];exact h
theorem qA6{n:Nat}:pB n+pB n≤pB (n+1):=by rw[q9k];have:=qaE n;omega
theorem qDi{b:Bool}{l:List Int}(h:0≤mv l):((sv b l).natAbs:Int)=mv l:=by unfold sv;cases b<;>simp<;>omega
theorem qt5{n:Nat}{l:List Int}(h:WOK n l)(hn:nrm n l)(b:Bool)(hk:okL (sv b l)):(zF [.b b,.i (n:Int),.r (rI l)]).run=some (0,[.s (tI (sv b l)),.i 0,.b b,.i (n:Int),.r (rI l)]):=by
 rw[qeU]
 simp only[STD,qwY h hn,qcH hk]
theorem quM(m n:Int):(yh [.s (tI m),.s (tI n)]).run=some (0,if (tI m).length≤9∧(tI n).length≤9 then [.i m,.i n,.b true] else [.i 0,.i 0,.b false]):=by
 rw[qpc]
 have h1:(9<qm (tI m))=¬(tI m).length≤9:=by unfold qm;simp only[eq_iff_iff];omega
 have h2:(9<qm (tI n))=¬(tI n).length≤9:=by unfold qm;simp only[eq_iff_iff];omega
 by_cases a:(tI m).length≤9
 ·by_cases b:(tI n).length≤9
  ·simp only[STD,h1,h2,a,b,and_self,qzF (s:=tI m) (by omega) (qAs m),qzF (s:=tI n) (by omega) (qAs n)]
  ·simp only[STD,h1,h2,a,b,and_false]
 ·simp only[STD,h1,a,false_and]
theorem qg1{m:Int}(h:(tI m).length≤9):m.natAbs<1000000000:=by
 have:(tN m.natAbs).length≤9:=by
  unfold tI at h
  split at h
  ·simp at h;omega
  ·exact h
 exact Nat.lt_of_lt_of_le (q4K this) (by simp)
theorem qx8(n:Int)(h:-9223372036854775808≤n∧n≤9223372036854775807):(kh [.i n]).run=some (0,[.s (tI n),.i 0]):=by
 rw[qnc]
 simp only[STD,q5S n h]
theorem qzd{m:Int}{l:List Int}(h:mv l=m.natAbs):sv (decide (m<0)) l=m:=by
 unfold sv
 by_cases hm:m<0
 ·rw[decide_eq_true hm,if_pos rfl];omega
 ·rw[decide_eq_false hm,if_neg (by simp)];omega
theorem qEf{m n:Int}(hm:okL m)(hn:okL n)(hs:okL (m+n)):(q8U [.r [[.s (tI m)],[.s (tI n)]]]).run=some (0,[.s (tI (m+n)),.i 0]):=by
 rw[qt2]
 have e0:q3i 232 [.i 0]=rI (List.replicate 232 0):=qhJ 232 0
 have lm:=qqy hm
 have ln:=qqy hn
 obtain⟨q1,l1,r1,w1,n1,v1,_⟩:=qlE m (by unfold okL at hm;omega)
 obtain⟨q2,l2,r2,w2,n2,v2,_⟩:=qlE n (by unfold okL at hn;omega)
 have hb2:=qbf (show 115≤232 by omega)
 have hb1:pB 114+pB 114≤pB 115:=qA6
 have hb0:=qaE 114
 obtain⟨b1,k1,m1,a1,a2,a3,a4⟩:=qC8 (lx:=List.replicate 232 0) (nx:=0) WOK.zero (.inl rfl) w1 n1 (by rw[qda,v1];omega) false (decide (m<0))
 rw[qzd v1] at a4
 have a5:sv b1 m1=m:=by
  have:sv false (List.replicate 232 0)=0:=by unfold sv;rw[if_neg (by simp),qda]
  rw[a4,this];omega
 obtain⟨b2,k2,m2,c1,c2,c3,c4⟩:=qC8 a2 a3 w2 n2 (by rw[←qDi (b:=b1) a2.bd.1,a5,v2];omega) b1 (decide (n<0))
 rw[qzd v2,a5] at c4
 have key:=jy (S:=q4P) (fun i=>match i with
  | 0=>[.r [[.s (tI m)],[.s (tI n)]],.i 2,.i 0,.b false,.i 0,.r (rI (List.replicate 232 0))]
  | 1=>[.r [[.s (tI m)],[.s (tI n)]],.i 2,.i 1,.b b1,.i (k1:Int),.r (rI m1)]
  | _=>[.r [[.s (tI m)],[.s (tI n)]],.i 2,.i 2,.b b2,.i (k2:Int),.r (rI m2)]) (0,[.b b2,.i (k2:Int),.r (rI m2)]) 2 (by omega) (fun i hi=>by
   have:i=0∨i=1:=by omega
   have d0:cS [[.s (tI m)],[.s (tI n)]] 0 0=tI m:=rfl
   have d1:cS [[.s (tI m)],[.s (tI n)]] 1 0=tI n:=rfl
   have d2:qj [[U.s (tI m)],[U.s (tI n)]]=2:=rfl
   rcases this with rfl|rfl
   ·simp only
    rw[qaL,d0,d2]
    simp only[show ((0:Nat):Int)=0 from rfl] at a1
    have w:qh .i64 0 1=1:=by decide
    simp only[STD,r1,a1,w,show (0:Int)<2 by omega,show (0:Int)≤0 by omega,and_self]
   ·simp only
    rw[qaL,d1,d2]
    have w:qh .i64 1 1=2:=by decide
    simp only[STD,r2,c1,w,show (1:Int)<2 by omega,show (0:Int)≤1 by omega,and_self]) (by
   simp only
   rw[qaL]
   simp only[STD,show ¬(2:Int)<2 by omega])
 simp only at key
 have hL:=qt5 c2 c3 b2 (by rw[c4];exact hs)
 rw[c4] at hL
 have d2:qj [[U.s (tI m)],[U.s (tI n)]]=2:=rfl
 simp only[e0,d2]
 simp only[STD,key,hL]
theorem qDu{m n:Int}(hm:okL m)(hn:okL n)(hs:okL (m+n)):(q1U [.s (tI m),.s (tI n)]).run=some (0,[.s (tI (m+n)),.i 0]):=by
 rw[qth]
 have h:=quM m n
 by_cases hc:(tI m).length≤9∧(tI n).length≤9
 ·rw[if_pos hc] at h
  have b1:=qg1 hc.1
  have b2:=qg1 hc.2
  have w:qh .i64 m n=m+n:=qN (by omega)
  simp only[STD,qdP hm hn,h,w,qx8 (m+n) (by omega)]
 ·rw[if_neg hc] at h
  simp only[STD,qdP hm hn,h,qEf hm hn hs]
theorem qxt{m:Int}(hm:okL m):(q0Q [.s (tI m)]).run=some (0,[.s (tI (-m))]):=by
 rw[ql0]
 have hl:=qvY hm
 have hp:=qmW m
 rcases qbF m with⟨h,e⟩|⟨h,e⟩|⟨h,e⟩
 ·have a1:(0:Int)≤qm (tI m)∧qm (tI m)≤qm (tI m):=by unfold qm;omega
  have a2:(0:Int)≤1∧1≤qm (tI m):=by unfold qm;omega
  have a3:qaA (tI m) 1 (qm (tI m))=tI (-m):=by
   unfold qaA qm
   rw[qa8 h,qhA (m:=-m) (by omega),Int.natAbs_neg];simp
  simp only[STD,q20,e,a1,a2,a3,and_self,show ¬((-1:Int)=0) by omega,show ¬((-1:Int)=1) by omega]
 ·simp only[STD,q20,e]
  rw[h];rfl
 ·have a1:qm [45]+qm (tI m)≤140737488355328:=by unfold qm;simp;omega
  have a3:qbC [45] (tI m)=tI (-m):=by
   unfold qbC
   rw[qa8 (m:=-m) (by omega),qhA (m:=m) (by omega),Int.natAbs_neg];rfl
  simp only[STD,q20,e,a1,a3,show ¬((1:Int)=0) by omega]
theorem qEx{m n:Int}(hm:okL m)(hn:okL n)(hs:okL (m-n)):(q5W [.s (tI m),.s (tI n)]).run=some (0,[.s (tI (m-n)),.i 0]):=by
 rw[qud]
 have h:=qDu hm (qrG hn) (by rwa [←Int.sub_eq_add_neg])
 rw[←Int.sub_eq_add_neg] at h
 simp only[STD,qdP hm hn,qxt hn,h]
theorem qEP{m n:Int}(hm:okL m)(hn:okL n)(hs:okL (m*n)):(q4c [.s (tI m),.s (tI n)]).run=some (0,[.s (tI (m*n)),.i 0]):=by
 rw[qtG]
 have h:=quM m n
 by_cases hc:(tI m).length≤9∧(tI n).length≤9
 ·rw[if_pos hc] at h
  have b1:=qg1 hc.1
  have b2:=qg1 hc.2
  have b3:=qDs (A:=999999999) (B:=999999999) (a:=m) (b:=n) (by omega) (by omega) (by omega) (by omega)
  have w:u7 .i64 m n=m*n:=q4G (by omega)
  simp only[STD,qdP hm hn,h,w,qx8 (m*n) (by omega)]
 ·rw[if_neg hc] at h
  unfold okL at hm hn
  obtain⟨q1,l1,r1,w1,n1,v1,z1⟩:=qlE m (by omega)
  obtain⟨q2,l2,r2,w2,n2,v2,z2⟩:=qlE n (by omega)
  obtain⟨k,l,t1,t2,t3,t4⟩:=qD4 w1 w2 (by omega) (decide (m<0)) (decide (n<0))
  have hv:sv (!(Go.Eng.beq (decide (m<0)) (decide (n<0)))) l=m*n:=by
   unfold sv
   rw[t4,v1,v2]
   have e:((m.natAbs:Int)*(n.natAbs:Int))=(((m*n).natAbs:Nat):Int):=by rw[Int.natAbs_mul];simp
   rw[e]
   unfold Go.Eng.beq
   rcases Int.lt_trichotomy m 0 with a|a|a
   ·rcases Int.lt_trichotomy n 0 with b|b|b
    ·have:=Int.mul_pos_of_neg_of_neg a b
     simp[a,b];omega
    ·subst b;simp
    ·have:=Int.mul_neg_of_neg_of_pos a b
     have b':¬n<0:=by omega
     simp[a,b'];omega
   ·subst a;simp
   ·have a':¬m<0:=by omega
    rcases Int.lt_trichotomy n 0 with b|b|b
    ·have:=Int.mul_neg_of_pos_of_neg a b
     simp[a',b];omega
    ·subst b;simp
    ·have:=Int.mul_pos a b
     have b':¬n<0:=by omega
     simp[a',b'];omega
  have hL:=qt5 t2 t3 (!(Go.Eng.beq (decide (m<0)) (decide (n<0)))) (by rw[hv];exact hs)
  rw[hv] at hL
  simp only[STD,qdP hm hn,h,r1,r2,t1,hL]
theorem qAn{n:Nat}{l:List Int}(h:WOK n l)(hn:nrm n l){k:Nat}(hl:mv l<pB k):n≤k:=by
 rcases Nat.lt_or_ge k n with h1|h1
 ·have:=h.lo hn (by omega)
  have:=qbf (show k≤n-1 by omega)
  omega
 ·exact h1
theorem qAT{k n:Int}(h0:n≠0)(hm:okL (k*n))(hn:okL n):(q3G [.s (tI (k*n)),.s (tI n)]).run=some (0,[.s (tI k),.s (tI 0),.i 0]):=by
 rw[qnv]
 have h:=quM (k*n) n
 have hz:¬tI n=[48]:=by rw[q5Z];exact h0
 by_cases hc:(tI (k*n)).length≤9∧(tI n).length≤9
 ·rw[if_pos hc] at h
  have b1:=qg1 hc.1
  have b2:=qg1 hc.2
  have hk:k.natAbs≤(k*n).natAbs:=by
   rw[Int.natAbs_mul]
   have:k.natAbs*1≤k.natAbs*n.natAbs:=Nat.mul_le_mul_left _ (by omega)
   omega
  have w1:q5N (k*n) n=0:=by unfold q5N;exact Int.mul_tmod_left k n
  have w2:jo .i64 (k*n) n=k:=by
   rw[Int.mul_comm];exact qg5 h0 (by omega)
  simp only[STD,qdP hm hn,qS,hz,h,h0,w1,w2,q5S k (by omega),q5S 0 (by omega)]
 ·rw[if_neg hc] at h
  have lm:=qqy hm
  have ln:=qqy hn
  obtain⟨q1,l1,r1,w1,n1,v1,z1⟩:=qlE (k*n) (by unfold okL at hm;omega)
  obtain⟨q2,l2,r2,w2,n2,v2,z2⟩:=qlE n (by unfold okL at hn;omega)
  have hq2:q2≤114:=qAn w2 n2 (by omega)
  have hq0:q2≠0:=fun h=>by rw[qjh w2 n2] at h;omega
  obtain⟨nq,lq,nr,lr,d1,d2,d3,d4,d5,d6,d7⟩:=qfJ w1 w2 n2 hq0 (by omega) (decide (k*n<0)) (decide (n<0))
  have e1:((k*n).natAbs:Int)=(k.natAbs:Int)*(n.natAbs:Int):=by rw[Int.natAbs_mul];simp
  rw[v1,v2,e1] at d6
  rw[v2] at d7
  have b4:=d4.bd.1
  have hr0:mv lr=0∧mv lq=k.natAbs:=by
   have hn0:(0:Int)<(n.natAbs:Int):=by omega
   have e2:((k.natAbs:Int)-mv lq)*(n.natAbs:Int)=mv lr:=by rw[Int.sub_mul];omega
   rcases Int.lt_trichotomy ((k.natAbs:Int)-mv lq) 0 with a|a|a
   ·have:=Int.mul_neg_of_neg_of_pos a hn0;omega
   ·rw[a,Int.zero_mul] at e2;omega
   ·have:=Int.mul_le_mul_of_nonneg_right (show 1≤(k.natAbs:Int)-mv lq by omega) (show 0≤(n.natAbs:Int) by omega)
    omega
  have hnr:nr=0:=by rw[qjh d4 d5];exact hr0.1
  have hv:sv (!(Go.Eng.beq (decide (k*n<0)) (decide (n<0)))) lq=k:=by
   unfold sv
   rw[hr0.2]
   unfold Go.Eng.beq
   rcases Int.lt_trichotomy k 0 with a|a|a
   ·rcases Int.lt_trichotomy n 0 with b|b|b
    ·have:=Int.mul_pos_of_neg_of_neg a b
     have c:¬k*n<0:=by omega
     simp[b,c];omega
    ·exact absurd b h0
    ·have c:=Int.mul_neg_of_neg_of_pos a b
     have b':¬n<0:=by omega
     simp[b',c];omega
   ·subst a;simp
   ·rcases Int.lt_trichotomy n 0 with b|b|b
    ·have c:=Int.mul_neg_of_pos_of_neg a b
     simp[b,c];omega
    ·exact absurd b h0
    ·have:=Int.mul_pos a b
     have c:¬k*n<0:=by omega
     have b':¬n<0:=by omega
     simp[b',c];omega
  have hT:=qwY d2 d3 (!(Go.Eng.beq (decide (k*n<0)) (decide (n<0))))
  rw[hv] at hT
  have hT2:=qwY d4 d5 (decide (k*n<0))
  have hv0:sv (decide (k*n<0)) lr=0:=by unfold sv;rw[hr0.1];split<;>rfl
  rw[hv0] at hT2
  have hnr':¬(0:Int)<(nr:Int):=by omega
  simp only[STD,qdP hm hn,qS,hz,h,r1,r2,d1,hnr',hT,hT2]
theorem qBV{m n:Int}(h:m.natAbs≤n.natAbs)(hn:okL n):okL m:=Nat.le_trans (um h) hn
theorem qEJ{k n:Int}(h0:n≠0)(hm:okL (k*n))(hn:okL n):(q6g [.s (tI (k*n)),.s (tI n)]).run=some (0,[.s (tI k),.i 0]):=by
 rw[qtS]
 have hk:okL k:=qBV (by
  rw[Int.natAbs_mul]
  have:k.natAbs*1≤k.natAbs*n.natAbs:=Nat.mul_le_mul_left _ (by omega)
  omega) hm
 simp only[STD,qAT h0 hm hn,qcH hk]
theorem qyD(a b:Nat)(hb:b<9223372036854775808):(qg q1e [.i (a:Int),.i (b:Int)]).run=some (0,[.i ((Nat.gcd a b:Nat):Int)]):=by
 obtain⟨j,qs,h1,rfl,rfl⟩:=vr (S:=q1e) (fun k ps=>∃x y:Nat,ps=[.i (x:Int),.i (y:Int)]∧y=k∧Nat.gcd x y=Nat.gcd a b)
  (fun j qs=>j=0∧qs=[.i ((Nat.gcd a b:Nat):Int)]) (n:=b) hb (fun k ps hk ⟨x,y,hps,hy,hg⟩=>by
  subst hps
  rw[qo0]
  by_cases h0:y=0
  ·right
   refine⟨0,[.i (x:Int)],?_,rfl,?_⟩
   ·simp only[STD,h0];simp[]
   ·rw[←hg,h0,Nat.gcd_zero_right]
  ·left
   refine⟨x%y,[.i (y:Int),.i ((x%y:Nat):Int)],by rw[←hy];exact Nat.mod_lt _ (by omega),?_,y,x%y,rfl,rfl,?_⟩
   ·simp only[STD,show ¬((y:Int)=0) by omega,qmO]
   ·rw[←hg,Nat.gcd_comm y,←Nat.gcd_rec,Nat.gcd_comm]) (ps:=[.i (a:Int),.i (b:Int)]) ⟨a,b,rfl,rfl,rfl⟩
 exact h1
theorem qBR{n:Nat}{l:List Int}(h:WOK n l)(hn:n≤1):mv l=l.getD 0 0:=by
 have:=qah l 1 (by rw[h.len];omega)
 rw[wY h.dig h.z hn,Int.mul_zero,Int.add_zero] at this
 have hl:=h.len
 obtain⟨x,t,rfl⟩:∃x t,l=x::t:=by
  cases l with
  | nil=>simp at hl
  | cons x t=>exact⟨x,t,rfl⟩
 rw[this];simp[mv]
theorem qEc{m n:Int}(hm:okL m)(hn:okL n):(q23 [.s (tI m),.s (tI n)]).run=some (0,[.s (tN (Nat.gcd m.natAbs n.natAbs)),.i 0]):=by
 rw[qtt]
 have lm:=qqy hm
 have ln:=qqy hn
 obtain⟨q1,l1,r1,w1,n1,v1,_⟩:=qlE m (by unfold okL at hm;omega)
 obtain⟨q2,l2,r2,w2,n2,v2,_⟩:=qlE n (by unfold okL at hn;omega)
 have hm':(tN m.natAbs).length≤1024:=hm
 have hn':(tN n.natAbs).length≤1024:=hn
 obtain⟨j,qs,g1,g2⟩:=vr (S:=q5a) (fun k ps=>∃(x y:Nat) (b1 b2:Bool) (nx ny:Nat) (lx ly:List Int),ps=[.b b1,.i (nx:Int),.r (rI lx),.b b2,.i (ny:Int),.r (rI ly)] ∧
   WOK nx lx∧nrm nx lx∧WOK ny ly∧nrm ny ly∧mv lx=x∧mv ly=y∧eM x y=k∧Nat.gcd x y=Nat.gcd m.natAbs n.natAbs∧(x:Int)<pB 114∧(y:Int)<pB 114)
  (fun j qs=>(j=0∧∃(b:Bool) (n':Nat) (l:List Int),qs=[.b b,.i (n':Int),.r (rI l)]∧WOK n' l∧nrm n' l∧mv l=((Nat.gcd m.natAbs n.natAbs:Nat):Int))∨(j=1∧qs=[.s (tN (Nat.gcd m.natAbs n.natAbs)),.i 0])) (n:=eM m.natAbs n.natAbs) (qwx (by omega) (by omega))
  (fun k ps hk ⟨x,y,b1,b2,nx,ny,lx,ly,hps,hw,hnw,hw2,hn2,hx,hy,he,hg,lx1,ly1⟩=>by
  subst hps
  rw[qpe]
  have hxl:=hw.len
  have hyl:=hw2.len
  by_cases h0:ny=0
  ·right
   have hy0:mv ly=0:=by rw[←qjh hw2 hn2];exact h0
   have hy0':y=0:=by omega
   refine⟨0,[.b b1,.i (nx:Int),.r (rI lx)],?_,.inl ⟨rfl,b1,nx,lx,rfl,hw,hnw,?_⟩⟩
   ·simp only[STD,h0,show ¬(0:Int)<((0:Nat):Int) by omega]
   ·rw[hx,←hg,hy0',Nat.gcd_zero_right]
  ·have a0:(0:Int)<(ny:Int):=by omega
   have hy0:y≠0:=fun h=>h0 (by rw[qjh hw2 hn2];omega)
   by_cases hc:nx≤1∧ny≤1
   ·right
    have e1:=qBR hw hc.1
    have e2:=qBR hw2 hc.2
    have d1:cI (rI lx) 0 0=(x:Int):=by rw[show (0:Int)=((0:Nat):Int) from rfl,q4A,←e1,hx]
    have d2:cI (rI ly) 0 0=(y:Int):=by rw[show (0:Int)=((0:Nat):Int) from rfl,q4A,←e2,hy]
    have hy9:=hw2.get 0
    rw[←e2,hy] at hy9
    have hE:=qyD x y (by omega)
    have hgl:Nat.gcd x y≤y:=Nat.gcd_le_right _ (by omega)
    have hO:=q5S ((Nat.gcd x y:Nat):Int) (by omega)
    rw[kE] at hO
    have c1:(nx:Int)≤1:=by omega
    have c2:(ny:Int)≤1:=by omega
    refine⟨1,[.s (tN (Nat.gcd x y)),.i 0],?_,.inr ⟨rfl,by rw[hg]⟩⟩
    simp only[STD,a0,c1,c2,d1,d2,hE,hO]
   ·left
    have hny:ny≤114:=qAn hw2 hn2 (by omega)
    obtain⟨nq,lq,nr,lr,d1,d2,d3,d4,d5,d6,d7⟩:=qfJ hw hw2 hn2 h0 (by omega) b1 b2
    have hr:mv lr=((x%y:Nat):Int):=by
     have b4:=d4.bd.1
     rw[hx,hy] at d6
     rw[hy] at d7
     have hy1:(0:Int)<(y:Int):=by omega
     have:=(Int.ediv_emod_unique hy1 (a:=(x:Int)) (r:=mv lr) (q:=mv lq)).2 ⟨by rw[Int.mul_comm];omega,b4,d7⟩
     rw[←this.2];simp
    refine⟨eM y (x%y),[.b b2,.i (ny:Int),.r (rI ly),.b false,.i (nr:Int),.r (rI lr)],by rw[←he];exact qzD hy0,?_,y,x%y,b2,false,ny,nr,ly,lr,rfl,hw2,hn2,d4,d5,hy,hr,rfl,?_,ly1,?_⟩
    ·by_cases c1:nx≤1
     ·have c2:¬(ny:Int)≤1:=by omega
      have c1':(nx:Int)≤1:=by omega
      simp only[STD,a0,c1',c2,d1]
     ·have c1':¬(nx:Int)≤1:=by omega
      simp only[STD,a0,c1',d1]
    ·rw[←hg,Nat.gcd_comm y,←Nat.gcd_rec,Nat.gcd_comm]
    ·have:=Nat.mod_lt x (show 0<y by omega)
     omega) (ps:=[.b (decide (m<0)),.i (q1:Int),.r (rI l1),.b (decide (n<0)),.i (q2:Int),.r (rI l2)])
  ⟨m.natAbs,n.natAbs,_,_,q1,q2,l1,l2,rfl,w1,n1,w2,n2,v1,v2,rfl,rfl,lm,ln⟩
 rcases g2 with⟨rfl,b,n',l,rfl,a1,a2,a3⟩|⟨rfl,rfl⟩
 ·have hT:=qwY a1 a2 false
  have hv:sv false l=((Nat.gcd m.natAbs n.natAbs:Nat):Int):=by unfold sv;rw[a3];rfl
  rw[hv,kE] at hT
  simp only[STD,qdP hm hn,r1,r2,g1,qw g1,hT]
 ·simp only[STD,qdP hm hn,r1,r2,g1,qw g1,show ¬(1=0) by omega]
end Go.Eng

namespace Go.Eng
theorem q9b:okL 1:=by show nl 1≤1024;decide
theorem q8H:okL 0:=by show nl 0≤1024;decide
theorem qEb(s:List UInt8)(hl:s.length≤1000000000):(q4U [.s s,.s [47]]).run=some (0,if sP s<s.length then [.s (s.take (sP s)),.s (s.drop (sP s+1)),.b true] else [.s s,.s [],.b false]):=by
 rw[qpN]
 have h:(wd [.s s,.s [47]]).run=some (0,if sP s<s.length then [.s (s.take (sP s)),.s (s.drop (sP s+1)),.b true] else [.s s,.s [],.b false]):=by
  rw[q8M]
  have hI:=qCU s
  by_cases hc:sP s<s.length
  ·rw[if_pos hc] at hI ⊢
   have w:qh .i64 (sP s:Int) (qm [47])=((sP s+1:Nat):Int):=by
    show qh .i64 (sP s:Int) 1=_
    rw[qN (by omega)];omega
   have a1:(0:Int)≤(sP s:Int)∧(sP s:Int)≤qm s:=by unfold qm;omega
   have a2:(0:Int)≤0∧(0:Int)≤(sP s:Int):=by omega
   have a3:(0:Int)≤qm s∧qm s≤qm s:=by unfold qm;omega
   have a4:(0:Int)≤((sP s+1:Nat):Int)∧((sP s+1:Nat):Int)≤qm s:=by unfold qm;omega
   have e1:qaA s 0 (sP s:Int)=s.take (sP s):=by unfold qaA;simp
   have e2:qaA s ((sP s+1:Nat):Int) (qm s)=s.drop (sP s+1):=by unfold qaA qm;simp only[Int.toNat_natCast];rw[List.take_length]
   simp only[STD,hI,a1.1,a1.2,a2,a3,a4,and_self,w,e1,e2]
  ·rw[if_neg hc] at hI ⊢
   have a:¬(0:Int)≤-1:=by omega
   simp only[STD,hI,a]
 by_cases hc:sP s<s.length
 ·rw[if_pos hc] at h ⊢
  simp only[STD,h]
 ·rw[if_neg hc] at h ⊢
  simp only[STD,h]
theorem qDn(s:List UInt8)(hl:s.length≤1000000000):(qK [.s s]).run=some (0,[.s (spn s),.s (spd s),.b (decide (sP s<s.length))]):=by
 rw[qtA]
 have h:=qEb s hl
 unfold spn spd
 by_cases hc:sP s<s.length
 ·rw[if_pos hc] at h ⊢
  rw[decide_eq_true hc]
  simp only[STD,h]
 ·rw[if_neg hc] at h ⊢
  have:sP s=s.length:=by have:=qyZ s;omega
  rw[decide_eq_false hc,this,List.take_length]
  simp only[STD,h]
theorem qEe(q:Rat):(sP (tQ q)<(tQ q).length)=(q.den≠1):=by
 by_cases h:q.den=1
 ·rw[q8N h,qrd (qpM _)];simp[h]
 ·rw[q4H h,qz8 (qpM _)];simp[h]
def okQ(q:Rat):Prop:=qn q≤1024∧qd q≤1024
theorem q4l{q:Rat}(h:okQ q):okL q.num:=h.1
theorem kG{q:Rat}(h:okQ q):okL (q.den:Int):=h.2
theorem q9o{q:Rat}(h:okQ q):(tQ q).length≤3000:=by have:=qBT q;have:=h.1;have:=h.2;omega
theorem q9B{q:Rat}(h:okQ q):(qK [.s (tQ q)]).run=some (0,[.s (tI q.num),.s (tI (q.den:Int)),.b (decide (q.den≠1))]):=by
 have:=q9o h
 rw[qDn _ (by omega),qwl,qwB,kE]
 simp only[qEe]
open Classical in
noncomputable def vI(s:List UInt8):Int:=if h:∃m:Int,s=tI m then h.choose else 0
theorem qvc(m:Int):vI (tI m)=m:=by
 unfold vI
 have h:∃k:Int,tI m=tI k:=⟨m,rfl⟩
 rw[dif_pos h]
 exact(qu9 h.choose_spec).symm
theorem qlf{s:List UInt8}(h:quB s=0):∃m:Int,s=tI m∧okL m:=by
 unfold quB at h
 split at h
 ·rename_i hm
  obtain⟨m,rfl⟩:=hm
  rw[quj] at h
  split at h
  ·rename_i hl;exact⟨m,rfl,hl⟩
  ·omega
 ·omega
theorem qkd(s:List UInt8):quB s=0∨quB s=3∨quB s=11:=by
 unfold quB
 split
 ·split<;>simp
 ·simp
noncomputable def qmc(s:List UInt8):Int:=
 if quB (spn s)=3 then 3 else if quB (spd s)=3 then 3 else if quB (spn s)≠0 then 11 else if quB (spd s)≠0 then 11
 else if sP s<s.length then (if sgn (vI (spd s)-1)≤0 then 3 else if Nat.gcd (vI (spn s)).natAbs (vI (spd s)).natAbs=1 then 0 else 3) else 0
theorem qBX(s:List UInt8):(spn s).length≤s.length:=by unfold spn;rw[List.length_take];omega
theorem qC5(s:List UInt8):(spd s).length≤s.length+1:=by unfold spd;split<;>simp<;>omega
theorem q84(s:List UInt8)(hl:s.length≤100000000):(qE [.s s]).run=some (0,[.i (qmc s)]):=by
 rw[qpl]
 have hn:=qBX s
 have hd:=qC5 s
 have h1:=qdv (spn s) (by omega)
 have h2:=qdv (spd s) (by omega)
 have hc:=qDn s (by omega)
 have mx:qeF 11 0=11∧qeF 11 11=11∧qeF 0 11=11:=by decide
 unfold qmc
 rcases qkd (spn s) with a|a|a<;>rcases qkd (spd s) with b|b|b<;>rw[a] at h1 ⊢<;>rw[b] at h2 ⊢
 ·obtain⟨m,em,om⟩:=qlf a
  obtain⟨n,en,on⟩:=qlf b
  rw[em] at h1 hc ⊢
  rw[en] at h2 hc ⊢
  have hC:=qnI on (n:=1) q9b
  rw[qzP] at hC
  have hG:=qEc om on
  rw[qvc,qvc]
  by_cases hs:sP s<s.length
  ·by_cases ho:sgn (n-1)≤0
   ·simp only[STD,hc,h1,h2,hs,hC,hG,ho,show ¬((0:Int)=3) by omega,show ¬((0:Int)≠0) by omega]
   ·by_cases hg:Nat.gcd m.natAbs n.natAbs=1
    ·simp only[STD,hc,h1,h2,hs,hC,hG,ho,hg,qS,q4u,show ¬((0:Int)=3) by omega,show ¬((0:Int)≠0) by omega]
    ·simp only[STD,hc,h1,h2,hs,hC,hG,ho,hg,qS,q4u,show ¬((0:Int)=3) by omega,show ¬((0:Int)≠0) by omega]
  ·simp only[STD,hc,h1,h2,hs,show ¬((0:Int)=3) by omega,show ¬((0:Int)≠0) by omega]
 all_goals simp only[STD,hc,h1,h2,mx,show ¬((0:Int)=3) by omega,show ¬((11:Int)=3) by omega,show ¬((11:Int)=0) by omega,show ¬((3:Int)=0) by omega]
theorem qiQ(s:List UInt8)(hl:s.length≤100000000):(q0E [.s s]).run=some (0,[.i (qmc s)]):=by
 rw[qpS]
 have hn:=qBX s
 have hd:=qC5 s
 have h1:=qjJ (spn s) (by omega)
 have h2:=qjJ (spd s) (by omega)
 have hc:=qvu s (by omega)
 have hsl:=qA0 s (by omega)
 unfold qmc
 rcases qkd (spn s) with a|a|a<;>rcases qkd (spd s) with b|b|b<;>rw[a] at h1 ⊢<;>rw[b] at h2 ⊢
 ·obtain⟨m,em,om⟩:=qlf a
  obtain⟨n,en,on⟩:=qlf b
  rw[em] at h1 hc ⊢
  rw[en] at h2 hc ⊢
  unfold okL at om on
  have hC:=qdG n 1 (by omega) (by decide)
  rw[qzP] at hC
  have hG:=qgT m n (by omega) (by omega)
  rw[qvc,qvc]
  by_cases hs:sP s<s.length
  ·rw[if_pos hs] at hsl
   have a0:(0:Int)≤(sP s:Int):=by omega
   by_cases ho:sgn (n-1)≤0
   ·simp only[STD,hc,h1,h2,hsl,hs,a0,hC,hG,ho,show ¬((0:Int)=3) by omega]
   ·by_cases hg:Nat.gcd m.natAbs n.natAbs=1
    ·simp only[STD,hc,h1,h2,hsl,hs,a0,hC,hG,ho,hg,qS,q4u,show ¬((0:Int)=3) by omega]
    ·simp only[STD,hc,h1,h2,hsl,hs,a0,hC,hG,ho,hg,qS,q4u,show ¬((0:Int)=3) by omega]
  ·rw[if_neg hs] at hsl
   simp only[STD,hc,h1,h2,hsl,hs,show ¬((0:Int)=3) by omega,show ¬((0:Int)≤-1) by omega]
 all_goals simp only[STD,hc,h1,h2,show ¬((0:Int)=3) by omega,show ¬((11:Int)=3) by omega,show ¬((11:Int)=0) by omega,show ¬((3:Int)=0) by omega]
theorem qsa{q:Rat}(h:okQ q):qmc (tQ q)=0:=by
 unfold qmc
 have e1:spd (tQ q)=tI (q.den:Int):=by rw[qwB,kE]
 rw[qwl,e1,qv7 (q4l h),qv7 (kG h)]
 simp only[qvc,qEe]
 by_cases hd:q.den=1
 ·simp[hd]
 ·have:=q.den_nz
  have hs:¬sgn ((q.den:Int)-1)≤0:=by
   unfold sgn;rw[if_neg (by omega),if_neg (by omega)];omega
  have hr:Nat.gcd q.num.natAbs q.den=1:=q.reduced
  simp[hd,hs,hr]
theorem quR{s:List UInt8}(h:qmc s=0):∃q:Rat,s=tQ q∧okQ q:=by
 unfold qmc at h
 split at h
 ·omega
 split at h
 ·omega
 split at h
 ·omega
 split at h
 ·omega
 rename_i h1 h2 h3 h4
 obtain⟨m,em,om⟩:=qlf (Decidable.byContradiction fun h=>h3 h)
 obtain⟨n,en,on⟩:=qlf (Decidable.byContradiction fun h=>h4 h)
 rw[em,en,qvc,qvc] at h
 split at h
 ·rename_i hs
  split at h
  ·omega
  rename_i hsg
  split at h
  ·rename_i hg
   have hn1:1<n:=by
    unfold sgn at hsg
    by_cases c1:n-1<0
    ·rw[if_pos c1] at hsg;omega
    ·rw[if_neg c1] at hsg
     by_cases c2:n-1=0
     ·rw[if_pos c2] at hsg;omega
     ·omega
   obtain⟨k,rfl⟩:∃k:Nat,n=(k:Int):=⟨n.toNat,by omega⟩
   refine⟨⟨m,k,by omega,hg⟩,?_,om,on⟩
   rw[q4H (show k≠1 by omega)]
   have hslash:s=spn s++47::spd s:=by
    unfold spn spd
    rw[if_pos hs]
    have h47:s[sP s]=47:=by
     have:=List.findIdx_getElem (p:=(·==47)) (w:=hs)
     exact eq_of_beq this
    rw[←h47,List.getElem_cons_drop,List.take_append_drop]
   rw[hslash,em,en,kE]
  ·omega
 ·rename_i hs
  have e:sP s=s.length:=by have:=qyZ s;omega
  have hsn:spn s=s:=by unfold spn;rw[e,List.take_length]
  refine⟨(m:Rat),?_,?_,?_⟩
  ·rw[qvN,←em,hsn]
  ·have:nl m≤1024:=om
   unfold qn;simpa using this
  ·unfold qd;simp;decide
theorem qDK(m:Int):nl m≤(tI m).length:=by unfold nl tI;split<;>simp
theorem qoE(q:Rat):qn q≤(tQ q).length∧(q.den=1∨qn q+1+qd q≤(tQ q).length):=by
 have h1:=qDK q.num
 by_cases h:q.den=1
 ·rw[q8N h];exact⟨h1,.inl h⟩
 ·rw[q4H h]
  unfold qn qd dl
  simp
  omega
theorem qtm{l:List (List UInt8)}(hn:l.length<1000000)(h:∀s,s∈l→(qE [.s s]).run=some (0,[.i 0])):(qP [.r (rS l)]).run=some (0,[.i 0]):=by
 rw[qni,qqq]
 have key:=jy (S:=q10) (fun i=>[.r (rS l),.i (l.length:Int),.i (i:Int)]) (0,[]) l.length (by omega) (fun i hi=>by
  rw[qbV,qzu hi]
  have a1:(i:Int)<(l.length:Int):=by omega
  have a2:(i:Int)<qj (rS l):=by rw[qqq];exact a1
  simp only[STD,a1,a2,q4v,and_self,h _ (List.getElem_mem hi),q1m hi (show l.length<9223372036854775808 by omega)]) (by
  rw[qbV]
  have a1:¬(l.length:Int)<(l.length:Int):=by omega
  simp only[STD,a1])
 simp only[show (((0:Nat)):Int)=0 from rfl] at key
 simp only[STD,key,qw key]
theorem q48{q:Rat}(h:okQ q):(qE [.s (tQ q)]).run=some (0,[.i 0]):=by
 have:=q9o h
 rw[q84 _ (by omega),qsa h]
theorem qfa{a b:Rat}(ha:okQ a)(hb:okQ b):(qP [.r [[.s (tQ a)],[.s (tQ b)]]]).run=some (0,[.i 0]):=by
 exact qtm (l:=[tQ a,tQ b]) (by simp) (fun s hs=>by
  simp only[List.mem_cons,List.not_mem_nil,or_false] at hs
  rcases hs with rfl|rfl
  ·exact q48 ha
  ·exact q48 hb)
theorem qCv{m n:Int}(hm:okL m)(hn:okL n)(h:okL (m+n)):(jJ [.s (tI m),.s (tI n),.i 0]).run=some (0,[.s (tI (m+n)),.i 0]):=by
 rw[qkp]
 have:(wE [.s (tI m),.s (tI n),.i 0]).run=some (0,[.s (tI (m+n)),.i 0]):=by
  rw[q9Z]
  simp only[STD,qDu hm hn h]
 simp only[STD,this]
theorem qvD{m n:Int}(hm:okL m)(hn:okL n)(h:okL (m-n)):(zh [.s (tI m),.s (tI n),.i 0]).run=some (0,[.s (tI (m-n)),.i 0]):=by
 rw[qkv]
 have:(wD [.s (tI m),.s (tI n),.i 0]).run=some (0,[.s (tI (m-n)),.i 0]):=by
  rw[q9X]
  simp only[STD,qEx hm hn h]
 simp only[STD,this]
theorem qCX{m n:Int}(hm:okL m)(hn:okL n)(h:okL (m*n)):(zA [.s (tI m),.s (tI n),.i 0]).run=some (0,[.s (tI (m*n)),.i 0]):=by
 rw[qa2]
 simp only[STD,qEP hm hn h]
theorem qCH{m n:Int}(hm:okL m)(hn:okL n):(wx [.s (tI m),.s (tI n),.i 0]).run=some (0,[.s (tN (Nat.gcd m.natAbs n.natAbs)),.i 0]):=by
 rw[q9W]
 simp only[STD,qEc hm hn]
theorem qru{k n:Int}(h0:n≠0)(hm:okL (k*n))(hn:okL n):(qQ [.s (tI (k*n)),.s (tI n),.i 0]).run=some (0,[.s (tI k),.i 0]):=by
 rw[qa1]
 simp only[STD,qEJ h0 hm hn]
def prd:Int→List Int→Int
 | a,[]=>a
 | a,m::l=>prd (a*m) l
def qD6:Int→List Int→Prop
 | a,[]=>okL a
 | a,m::l=>okL a∧okL m∧qD6 (a*m) l
theorem qyO:∀(l:List Int) (pre:List Int) (a:Int),qD6 a l→pre.length+l.length<1000→∀f,l.length<f →
  (qiE jA f [.s (tI a),.r (rS ((pre++l).map tI)),.i ((pre++l).length:Int),.i (pre.length:Int),.i 0]).run=some (0,[.s (tI (prd a l)),.i 0])
 | [],pre,a,h,hl,f,hf=>by
  obtain⟨f,rfl⟩:∃g,f=g+1:=⟨f-1,by simp at hf;omega⟩
  refine q6X ?_
  rw[q9E,List.append_nil]
  have a1:¬(pre.length:Int)<(pre.length:Int):=by omega
  simp only[STD,a1];rfl
 | m::l,pre,a,h,hl,f,hf=>by
  obtain⟨f,rfl⟩:∃g,f=g+1:=⟨f-1,by simp at hf;omega⟩
  obtain⟨h1,h2,h3⟩:=h
  have hlt:pre.length<(pre++m::l).length:=by simp
  have ih:=qyO l (pre++[m]) (a*m) h3 (by simp at hl ⊢;omega) f (by simp at hf;omega)
  rw[List.append_assoc,List.singleton_append] at ih
  have hok:okL (a*m):=by
   cases l with
   | nil=>exact h3
   | cons x l=>exact h3.1
  rw[qgh (qs:=[.s (tI (a*m)),.r (rS ((pre++m::l).map tI)),.i ((pre++m::l).length:Int),.i ((pre++[m]).length:Int),.i 0])]
  ·exact ih
  ·rw[q9E]
   have hlt2:pre.length<((pre++m::l).map tI).length:=by simp
   rw[qzu hlt2]
   have e:((pre++m::l).map tI)[pre.length]=tI m:=by simp
   rw[e]
   have a1:(pre.length:Int)<((pre++m::l).length:Int):=by omega
   have a2:(pre.length:Int)<qj (rS ((pre++m::l).map tI)):=by rw[qqq];omega
   have w:qh .i64 (pre.length:Int) 1=((pre++[m]).length:Int):=by
    rw[qN (by omega)];simp
   simp only[STD,a1,a2,q4v,and_self,qCX h1 h2 hok,w]
theorem qsW(l:List Int)(h:qD6 1 l)(hl:l.length<1000):(qf [.r (rS (l.map tI)),.i 0]).run=some (0,[.s (tI (prd 1 l)),.i 0]):=by
 rw[qkW,qqq]
 have h1:=qyO l [] 1 h (by simp;omega) qfU (by unfold qfU;omega)
 simp only[List.nil_append,List.length_nil] at h1
 have e:(qg jA [.s [49],.r (rS (l.map tI)),.i ((l.map tI).length:Int),.i 0,.i 0]).run=some (0,[.s (tI (prd 1 l)),.i 0]):=by
  rw[List.length_map]
  exact h1
 simp only[STD,e]
theorem qcq{m n:Int}(hm:okL m)(hn:okL n)(h:okL (m*n)):(qf [.r [[.s (tI m)],[.s (tI n)]],.i 0]).run=some (0,[.s (tI (m*n)),.i 0]):=by
 have:=qsW [m,n] ⟨q9b,hm,by rw[Int.one_mul];exact hm,hn,by rw[Int.one_mul];exact h⟩ (by simp)
 simp only[prd,Int.one_mul] at this
 exact this
theorem qt7{q:Rat}(h:okQ q):(q12 [.s (tI q.num),.s (tI (q.den:Int))]).run=some (0,[.s (tQ q)]):=by
 rw[qny,kE]
 have l1:=qvY (q4l h)
 have l2:(tN q.den).length≤1024:=h.2
 have a1:qm (tI q.num)+qm [47]≤140737488355328:=by unfold qm;simp;omega
 have a2:qm (qbC (tI q.num) [47])+qm (tN q.den)≤140737488355328:=by unfold qm qbC;simp;omega
 by_cases h1:q.den=1
 ·simp only[STD,qS,q4u,h1,q8N h1]
 ·simp only[STD,qS,q4u,h1,q4H h1,a1,a2]
  simp[qbC]
theorem qBj(s:List UInt8):(yP [.s s,.s [45]]).run=some (0,[.b (decide (s.getD 0 0=45))]):=by
 rw[qgx]
 simp only[STD,qAd]
theorem qAF(n:Int):((tI n).getD 0 0=45)=(n<0):=by
 by_cases h:n<0
 ·rw[qa8 h];simp[h]
 ·rw[qhA h]
  obtain⟨c,t,e,h1,h2⟩:=qgj (zN n.natAbs) (qnK _)
  rw[e]
  simp only[List.getD_cons_zero,h,eq_iff_iff,iff_false]
  intro hc;subst hc;revert h1;decide
theorem qjG{m n:Int}(hn0:n≠0)(hm:okL m)(hn:okL n):(qA [.s (tI m),.s (tI n),.i 0]).run=some (0,[.s (tQ (Rat.divInt m n)),.i 0])∧okQ (Rat.divInt m n):=by
 have hG:=qCH hm hn
 have hg0:0<Nat.gcd m.natAbs n.natAbs:=Nat.gcd_pos_of_pos_right _ (by omega)
 have hgn:Nat.gcd m.natAbs n.natAbs≤n.natAbs:=Nat.gcd_le_right _ (by omega)
 have hnum:=Rat.num_divInt m n
 have hden:=Rat.den_divInt m n
 rw[if_neg hn0] at hden
 have hgc:Int.gcd n m=Nat.gcd m.natAbs n.natAbs:=by unfold Int.gcd;exact Nat.gcd_comm _ _
 rw[hgc] at hnum hden
 obtain⟨k,hk⟩:((Nat.gcd m.natAbs n.natAbs:Nat):Int) ∣ m:=Int.ofNat_dvd_left.2 (Nat.gcd_dvd_left _ _)
 obtain⟨l,hl⟩:((Nat.gcd m.natAbs n.natAbs:Nat):Int) ∣ n:=Int.ofNat_dvd_left.2 (Nat.gcd_dvd_right _ _)
 generalize Nat.gcd m.natAbs n.natAbs=g at *
 generalize Rat.divInt m n=q at *
 have hgok:okL (g:Int):=qBV (by simpa using hgn) hn
 have hm2:k*(g:Int)=m:=by rw[Int.mul_comm];exact hk.symm
 have hn2:l*(g:Int)=n:=by rw[Int.mul_comm];exact hl.symm
 have hgz:(g:Int)≠0:=by omega
 have hok:okQ q:=by
  constructor
  ·refine Nat.le_trans (qaN ?_) hm
   rw[hnum]
   refine Nat.le_trans (Int.natAbs_ediv_le_natAbs _ _) ?_
   rw[Int.natAbs_mul,Int.natAbs_sign_of_ne_zero hn0];omega
  ·refine Nat.le_trans (um ?_) hn
   rw[hden];exact Nat.div_le_self _ _
 refine⟨?_,hok⟩
 rw[qgp]
 have hP:=qBj (tI n)
 simp only[qAF] at hP
 by_cases hneg:n<0
 ·have e1:-k=q.num:=by
   rw[hnum,Int.sign_eq_neg_one_of_neg hneg,←hm2]
   rw[show (-1:Int)*(k*(g:Int))=(-k)*(g:Int) by rw[Int.neg_mul,Int.one_mul,Int.neg_mul]]
   exact(Int.mul_ediv_cancel _ hgz).symm
  have e2:-l=(q.den:Int):=by
   rw[hden]
   have h3:(n.natAbs:Int)=(-l)*(g:Int):=by rw[Int.neg_mul];omega
   rw[Int.natCast_ediv,h3,Int.mul_ediv_cancel _ hgz]
  have hS:=qvD (m:=0) (n:=(g:Int)) q8H hgok (by rw[Int.zero_sub];exact qrG hgok)
  rw[Int.zero_sub,kE] at hS
  have Q1:=qru (k:=-k) (n:=-(g:Int)) (by omega) (by rw[Int.neg_mul_neg,hm2];exact hm) (qrG hgok)
  have Q2:=qru (k:=-l) (n:=-(g:Int)) (by omega) (by rw[Int.neg_mul_neg,hn2];exact hn) (qrG hgok)
  rw[Int.neg_mul_neg,hm2,e1] at Q1
  rw[Int.neg_mul_neg,hn2,e2] at Q2
  have hS':(zh [.s [48],.s (tN g),.i 0]).run=some (0,[.s (tI (-(g:Int))),.i 0]):=hS
  simp only[STD,hG,hP,hneg,hS',Q1,Q2,qt7 hok]
 ·have e1:k=q.num:=by
   rw[hnum,Int.sign_eq_one_of_pos (by omega),Int.one_mul,←hm2]
   exact(Int.mul_ediv_cancel _ hgz).symm
  have e2:l=(q.den:Int):=by
   rw[hden]
   have h3:(n.natAbs:Int)=l*(g:Int):=by omega
   rw[Int.natCast_ediv,h3,Int.mul_ediv_cancel _ hgz]
  have Q1:=qru (k:=k) (n:=(g:Int)) hgz (by rw[hm2];exact hm) hgok
  have Q2:=qru (k:=l) (n:=(g:Int)) hgz (by rw[hn2];exact hn) hgok
  rw[hm2,e1,kE] at Q1
  rw[hn2,e2,kE] at Q2
  simp only[STD,hG,hP,hneg,Q1,Q2,qt7 hok]
end Go.Eng

namespace Go.Eng
theorem qxr(a b:Rat):Rat.divInt (a.num*b.den+b.num*a.den) ((a.den:Int)*(b.den:Int))=a+b:=by
 rw[Rat.add_def',←Rat.divInt_ofNat];simp
theorem qxV(a b:Rat):Rat.divInt (a.num*b.den-b.num*a.den) ((a.den:Int)*(b.den:Int))=a-b:=by
 rw[Rat.sub_def',←Rat.divInt_ofNat];simp
theorem qyr(a b:Rat):Rat.divInt (a.num*b.num) ((a.den:Int)*(b.den:Int))=a*b:=by
 rw[Rat.mul_def',←Rat.divInt_ofNat];simp
theorem qyn(a b:Rat):Rat.divInt (a.num*b.den) ((a.den:Int)*b.num)=a/b:=by
 rw[Rat.div_def,Rat.inv_def,←Rat.divInt_mul_divInt,Rat.num_divInt_den]
theorem qkC(a b:Rat):(a.den:Int)*(b.den:Int)≠0:=by have:=Int.mul_pos (quA a) (quA b);omega
theorem qEr{m:Int}(h:m≠0):¬tI m=[48]:=by rw[q5Z];exact h
def bnd(N D:Nat)(q:Rat):Prop:=qn q≤N∧qd q≤D
theorem bnd.ok{N D:Nat}{q:Rat}(h:bnd N D q)(hN:N≤1024)(hD:D≤1024):okQ q:=⟨Nat.le_trans h.1 hN,Nat.le_trans h.2 hD⟩
theorem bnd.sm{N D K:Nat}{q:Rat}(h:bnd N D q)(hN:N≤K)(hD:D≤K):sm K q:=⟨Nat.le_trans h.1 hN,Nat.le_trans h.2 hD⟩
theorem bnd.mono{N D N' D':Nat}{q:Rat}(h:bnd N D q)(hN:N≤N')(hD:D≤D'):bnd N' D' q:=⟨Nat.le_trans h.1 hN,Nat.le_trans h.2 hD⟩
theorem bnd.mul{N D N' D':Nat}{a b:Rat}(ha:bnd N D a)(hb:bnd N' D' b):bnd (N+N') (D+D') (a*b):=
 ⟨Nat.le_trans (qzv a b) (Nat.add_le_add ha.1 hb.1),Nat.le_trans (qAo a b) (Nat.add_le_add ha.2 hb.2)⟩
theorem bnd.add{N D N' D' K:Nat}{a b:Rat}(ha:bnd N D a)(hb:bnd N' D' b)(h1:N+D'+1≤K)(h2:N'+D+1≤K):bnd K (D+D') (a+b):=
 ⟨by have:=qDU a b;have:=ha.1;have:=ha.2;have:=hb.1;have:=hb.2;omega,by have:=qDJ a b;have:=ha.2;have:=hb.2;omega⟩
theorem bnd.sub{N D N' D' K:Nat}{a b:Rat}(ha:bnd N D a)(hb:bnd N' D' b)(h1:N+D'+1≤K)(h2:N'+D+1≤K):bnd K (D+D') (a-b):=
 ⟨by have:=qDD a b;have:=ha.1;have:=ha.2;have:=hb.1;have:=hb.2;omega,by have:=qDj a b;have:=ha.2;have:=hb.2;omega⟩
theorem bnd.div{N D N' D':Nat}{a b:Rat}(h0:b≠0)(ha:bnd N D a)(hb:bnd N' D' b):bnd (N+D') (D+N') (a/b):=
 ⟨by have:=qDF a h0;have:=ha.1;have:=hb.2;omega,by have:=qDw a h0;have:=ha.2;have:=hb.1;omega⟩
theorem bnd.neg{N D:Nat}{a:Rat}(h:bnd N D a):bnd N D (-a):=⟨by rw[qDv];exact h.1,h.2⟩
theorem q6o:bnd 1 1 0:=⟨by decide,by decide⟩
theorem qii:bnd 1 1 2:=⟨by decide,by decide⟩
theorem qb6{m n:Int}{N M:Nat}(hm:nl m≤N)(hn:nl n≤M)(h:N+M≤1024):okL (m*n):=by
 have:=jW m n
 unfold okL;omega
theorem qw2{N D N' D':Nat}{a b:Rat}(ha:bnd N D a)(hb:bnd N' D' b)(h1:N+N'≤1024)(h2:D+D'≤1024):(q5Y [.s (tQ a),.s (tQ b)]).run=some (0,[.s (tQ (a*b)),.i 0]):=by
 have oa:=ha.ok (by omega) (by omega)
 have ob:=hb.ok (by omega) (by omega)
 have k1:okL (a.num*b.num):=qb6 ha.1 hb.1 h1
 have k2:okL ((a.den:Int)*(b.den:Int)):=qb6 ha.2 hb.2 h2
 have m1:=qcq (q4l oa) (q4l ob) k1
 have m2:=qcq (kG oa) (kG ob) k2
 have hL:=(qjG (qkC a b) k1 k2).1
 rw[qyr] at hL
 rw[qtQ]
 have key:(wW [.s (tQ a),.s (tQ b)]).run=some (0,[.s (tQ (a*b)),.i 0]):=by
  rw[qbt]
  have h1:(q2A [.s (tI a.num),.s (tI (a.den:Int)),.s (tI b.num),.s (tI (b.den:Int)),.i 0]).run=some (0,[.s (tI (a.num*b.num)),.s (tI ((a.den:Int)*(b.den:Int))),.i 0]):=by
   rw[qp4]
   simp only[STD,m1,m2]
  simp only[STD,qfa oa ob,q9B oa,q9B ob,h1,qS,qEr (qkC a b),hL]
 simp only[STD,key]
theorem qvs{N D N' D':Nat}{a b:Rat}(ha:bnd N D a)(hb:bnd N' D' b)(h1:N+D'≤1023)(h2:N'+D≤1023)(h3:D+D'≤1024):(q6c [.s (tQ a),.s (tQ b)]).run=some (0,[.s (tQ (a+b)),.i 0]):=by
 have p1:=qoN a
 have p2:=qoN b
 have p3:=qx9 a
 have p4:=qx9 b
 have oa:okQ a:=⟨by have:=ha.1;have:=hb.2;omega,by have:=ha.2;have:=hb.2;omega⟩
 have ob:okQ b:=⟨by have:=hb.1;have:=ha.2;omega,by have:=ha.2;have:=hb.2;omega⟩
 have k1:okL (a.num*(b.den:Int)):=qb6 ha.1 hb.2 (by omega)
 have k2:okL (b.num*(a.den:Int)):=qb6 hb.1 ha.2 (by omega)
 have k3:okL ((a.den:Int)*(b.den:Int)):=qb6 ha.2 hb.2 h3
 have k4:okL (a.num*(b.den:Int)+b.num*(a.den:Int)):=by
  have q1:=qqZ (a.num*(b.den:Int)) (b.num*(a.den:Int))
  have q2:=jW a.num (b.den:Int)
  have q3:=jW b.num (a.den:Int)
  have q4:nl a.num≤N:=ha.1
  have q5:nl (b.den:Int)≤D':=hb.2
  have q6:nl b.num≤N':=hb.1
  have q7:nl (a.den:Int)≤D:=ha.2
  unfold okL;omega
 have m1:=qcq (q4l oa) (kG ob) k1
 have m2:=qcq (q4l ob) (kG oa) k2
 have m3:=qcq (kG oa) (kG ob) k3
 have hL:=(qjG (qkC a b) k4 k3).1
 rw[qxr] at hL
 rw[qu3]
 have key:(wQ [.s (tQ a),.s (tQ b)]).run=some (0,[.s (tQ (a+b)),.i 0]):=by
  rw[qbx]
  have h1:(q2F [.s (tI a.num),.s (tI (a.den:Int)),.s (tI b.num),.s (tI (b.den:Int)),.i 0]).run=some (0,[.s (tI (a.num*b.den+b.num*a.den)),.s (tI ((a.den:Int)*(b.den:Int))),.i 0]):=by
   rw[qq2]
   simp only[STD,m1,m2,m3,qCv k1 k2 k4]
  simp only[STD,qfa oa ob,q9B oa,q9B ob,h1,qS,qEr (qkC a b),hL]
 simp only[STD,key]
theorem qvp{N D N' D':Nat}{a b:Rat}(ha:bnd N D a)(hb:bnd N' D' b)(h1:N+D'≤1023)(h2:N'+D≤1023)(h3:D+D'≤1024):(q5T [.s (tQ a),.s (tQ b)]).run=some (0,[.s (tQ (a-b)),.i 0]):=by
 have p1:=qoN a
 have p2:=qoN b
 have p3:=qx9 a
 have p4:=qx9 b
 have oa:okQ a:=⟨by have:=ha.1;have:=hb.2;omega,by have:=ha.2;have:=hb.2;omega⟩
 have ob:okQ b:=⟨by have:=hb.1;have:=ha.2;omega,by have:=ha.2;have:=hb.2;omega⟩
 have k1:okL (a.num*(b.den:Int)):=qb6 ha.1 hb.2 (by omega)
 have k2:okL (b.num*(a.den:Int)):=qb6 hb.1 ha.2 (by omega)
 have k3:okL ((a.den:Int)*(b.den:Int)):=qb6 ha.2 hb.2 h3
 have k4:okL (a.num*(b.den:Int)-b.num*(a.den:Int)):=by
  have q1:=qwn (a.num*(b.den:Int)) (b.num*(a.den:Int))
  have q2:=jW a.num (b.den:Int)
  have q3:=jW b.num (a.den:Int)
  have q4:nl a.num≤N:=ha.1
  have q5:nl (b.den:Int)≤D':=hb.2
  have q6:nl b.num≤N':=hb.1
  have q7:nl (a.den:Int)≤D:=ha.2
  unfold okL;omega
 have m1:=qcq (q4l oa) (kG ob) k1
 have m2:=qcq (q4l ob) (kG oa) k2
 have m3:=qcq (kG oa) (kG ob) k3
 have hL:=(qjG (qkC a b) k4 k3).1
 rw[qxV] at hL
 rw[qup]
 have key:(v6 [.s (tQ a),.s (tQ b)]).run=some (0,[.s (tQ (a-b)),.i 0]):=by
  rw[qaM]
  have h1:(q2M [.s (tI a.num),.s (tI (a.den:Int)),.s (tI b.num),.s (tI (b.den:Int)),.i 0]).run=some (0,[.s (tI (a.num*b.den-b.num*a.den)),.s (tI ((a.den:Int)*(b.den:Int))),.i 0]):=by
   rw[qq0]
   simp only[STD,m1,m2,m3,qvD k1 k2 k4]
  simp only[STD,qfa oa ob,q9B oa,q9B ob,h1,qS,qEr (qkC a b),hL]
 simp only[STD,key]
theorem qoi(q:Rat):(tQ q=[48])=(q=0):=by
 have:([48]:List UInt8)=tQ 0:=rfl
 rw[this,qxi]
theorem qvi{N D N' D':Nat}{a b:Rat}(hb0:b≠0)(ha:bnd N D a)(hb:bnd N' D' b)(h1:N+D'≤1024)(h2:D+N'≤1024):(q6b [.s (tQ a),.s (tQ b)]).run=some (0,[.s (tQ (a/b)),.i 0]):=by
 have oa:okQ a:=⟨by have:=ha.1;omega,by have:=ha.2;omega⟩
 have ob:okQ b:=⟨by have:=hb.1;omega,by have:=hb.2;omega⟩
 have k1:okL (a.num*(b.den:Int)):=qb6 ha.1 hb.2 h1
 have k2:okL ((a.den:Int)*b.num):=qb6 ha.2 hb.1 h2
 have hbn:b.num≠0:=fun h=>hb0 (Rat.num_eq_zero.1 h)
 have hz:(a.den:Int)*b.num≠0:=by have:=quA a;exact Int.mul_ne_zero (by omega) hbn
 have m1:=qcq (q4l oa) (kG ob) k1
 have m2:=qcq (kG oa) (q4l ob) k2
 have hL:=(qjG hz k1 k2).1
 rw[qyn] at hL
 rw[qsP]
 have key:(wZ [.s (tQ a),.s (tQ b)]).run=some (0,[.s (tQ (a/b)),.i 0]):=by
  rw[qb8]
  have h1:(q2Y [.s (tI a.num),.s (tI (a.den:Int)),.s (tI b.num),.s (tI (b.den:Int)),.i 0]).run=some (0,[.s (tI (a.num*b.den)),.s (tI ((a.den:Int)*b.num)),.i 0]):=by
   rw[qpB]
   simp only[STD,m1,m2]
  simp only[STD,qfa oa ob,q9B oa,q9B ob,h1,qS,qEr hz,hL]
 simp only[STD,qfa oa ob,qS,qoi,hb0,key]
theorem q7p{m:Int}(h:okL m):(zj [.s (tI m),.i 0]).run=some (0,[.i (sgn m),.i 0]):=by
 rw[qjk]
 simp only[STD,qtO h]
theorem qCg(m:Int):sgn m=sgq (m:Rat):=by unfold sgq;simp
theorem qvd{q k:Rat}(hk:0<k):sgq (k*q)=sgq q:=by
 rcases q6Z q with⟨h,e⟩|⟨h,e⟩|⟨h,e⟩
 ·rw[e,qzg]
  have:=(Rat.mul_neg_iff_of_pos_left hk).2 h
  exact this
 ·rw[e,h,Rat.mul_zero];rfl
 ·rw[e,qsd]
  exact Rat.mul_pos hk h
theorem q2u(a:Rat):(0:Rat)<(a.den:Rat):=by
 have:=a.den_nz
 exact Rat.natCast_pos.2 (by omega)
theorem qdU(a:Rat):(a.num:Rat)=a*(a.den:Rat):=by
 have h:a=(a.num:Rat)/(a.den:Rat):=by rw[←Rat.mkRat_eq_div,Rat.mkRat_self]
 have h2:=Rat.div_mul_cancel (a:=(a.num:Rat)) (b:=(a.den:Rat)) (by have:=q2u a;grind)
 rw[←h] at h2
 exact h2.symm
def rX(a b c:Rat):Int:=a.num*b.den*c.den
def rY(a b:Rat):Int:=b.num*a.den
def rR(c:Rat):Int:=c.num*c.den
theorem qDO(a b c:Rat):sgn (rX a b c)=sgq a:=by
 unfold rX sgq
 rw[qcK (quA c),qcK (quA b)]
theorem qE7(a b:Rat):sgn (rY a b)=sgq b:=by unfold rY sgq;rw[qcK (quA a)]
theorem qEa(c:Rat):sgn (rR c)=sgq c:=by unfold rR sgq;rw[qcK (quA c)]
theorem qDq(a b c:Rat):sgn (rX a b c*rX a b c-rY a b*rY a b*rR c)=sgq (a*a-b*b*c):=by
 rw[qCg]
 have h1:=q2u a
 have h2:=q2u b
 have h3:=q2u c
 have hk:(0:Rat)<((a.den:Rat)*b.den*c.den)*((a.den:Rat)*b.den*c.den):=by
  have:=Rat.mul_pos (Rat.mul_pos h1 h2) h3
  exact Rat.mul_pos this this
 rw[←qvd (q:=a*a-b*b*c) hk]
 congr 1
 unfold rX rY rR
 simp only[Rat.intCast_sub,Rat.intCast_mul,qdU,Rat.intCast_natCast]
 grind
theorem qyI(a b c:Rat):qcX a b c=if 0≤sgn (rX a b c)*(sgn (rY a b)*sgn (rR c)) then (if sgn (rX a b c)=0 then sgn (rY a b)*sgn (rR c) else sgn (rX a b c)) else sgn (rX a b c)*sgn (rX a b c*rX a b c-rY a b*rY a b*rR c):=by
 unfold qcX
 rw[qDO,qE7,qEa,qDq]
theorem qCt{x y r:Int}(hx:okL x)(hy:okL y)(hr:okL r)(hxx:okL (x*x))(hyy:okL (y*y))(hyr:okL (y*y*r))(hd:okL (x*x-y*y*r)) :
  (yJ [.s (tI x),.s (tI y),.s (tI r),.i 0]).run=some (0,[.i (if 0≤sgn x*(sgn y*sgn r) then (if sgn x=0 then sgn y*sgn r else sgn x) else sgn x*sgn (x*x-y*y*r)),.i 0]):=by
 rw[qk4]
 have bx:=qnQ x
 have bY:=qnQ y
 have br:=qnQ r
 have bd:=qnQ (x*x-y*y*r)
 have m1:=qcq hx hx hxx
 have m2:=qsW [y,y,r] ⟨q9b,hy,by rw[Int.one_mul];exact hy,hy,by rw[Int.one_mul];exact hyy,hr,by rw[Int.one_mul];exact hyr⟩ (by simp)
 simp only[prd,Int.one_mul] at m2
 have m2':(qf [.r [[.s (tI y)],[.s (tI y)],[.s (tI r)]],.i 0]).run=some (0,[.s (tI (y*y*r)),.i 0]):=m2
 by_cases hc:0≤sgn x*(sgn y*sgn r)
 ·by_cases h0:sgn x=0
  ·have w0:u7 .i64 0 (sgn y*sgn r)=0:=by rw[q4G (by rw[Int.zero_mul];omega),Int.zero_mul]
   simp only[STD,q7p hx,q7p hy,q7p hr,qd2 bY br,h0,w0,Int.zero_mul,Int.le_refl,eq_self]
  ·simp only[STD,q7p hx,q7p hy,q7p hr,qd2 bY br,qd2 bx (qEo bY br),hc,h0]
 ·simp only[STD,q7p hx,q7p hy,q7p hr,qd2 bY br,qd2 bx (qEo bY br),hc,m1,m2',qvD hxx hyr hd,q7p hd,qd2 bx bd]
theorem qwV(m:Int):okL (0*m):=by rw[Int.zero_mul];exact q8H
theorem qCG{c:Rat}(h:0≤c):¬(tQ c).getD 0 0=45:=by
 have hn:¬c.num<0:=by have:=Rat.num_nonneg.2 h;omega
 have e:(tQ c).getD 0 0=(tI c.num).getD 0 0:=by
  by_cases hd:c.den=1
  ·rw[q8N hd]
  ·rw[q4H hd]
   obtain⟨x,t,ex⟩:∃x t,tI c.num=x::t:=List.exists_cons_of_ne_nil (List.length_pos_iff.1 (qmW _))
   rw[ex];simp
 rw[e,qAF];exact hn
theorem qDG{c:Rat}(h:c<0):(tQ c).getD 0 0=45:=by
 have h1:¬0≤c:=by grind
 have hn:c.num<0:=by
  have h2:¬0≤c.num:=fun h=>h1 (Rat.num_nonneg.1 h)
  omega
 have e:(tQ c).getD 0 0=(tI c.num).getD 0 0:=by
  by_cases hd:c.den=1
  ·rw[q8N hd]
  ·rw[q4H hd]
   obtain⟨x,t,ex⟩:∃x t,tI c.num=x::t:=List.exists_cons_of_ne_nil (List.length_pos_iff.1 (qmW _))
   rw[ex];simp
 rw[e,qAF];exact hn
theorem qiI(s:List UInt8):(sat s 0=45)=(s.getD 0 0=45):=by
 unfold sat
 simp only[Int.toNat_zero,eq_iff_iff]
 exact⟨fun h=>UInt8.toNat_inj.1 (by show (s.getD 0 0).toNat=45;omega),fun h=>by rw[h];rfl⟩
structure RootOk (a b c:Rat):Prop where
 oa:okQ a
 ob:okQ b
 oc:okQ c
 x1:okL (a.num*b.den)
 x:okL (rX a b c)
 y:okL (rY a b)
 r:okL (rR c)
 xx:okL (rX a b c*rX a b c)
 yy:okL (rY a b*rY a b)
 yr:okL (rY a b*rY a b*rR c)
 d:okL (rX a b c*rX a b c-rY a b*rY a b*rR c)
theorem qxU{a b c:Rat}(h:RootOk a b c)(hc:0≤c):(q0T [.s (tQ a),.s (tQ b),.s (tQ c)]).run=some (0,[.i (qcX a b c),.i 0]):=by
 rw[qlc]
 have key:(q05 [.s (tQ a),.s (tQ b),.s (tQ c),.s [48],.s [48]]).run=some (0,[.i (qcX a b c),.i 0]):=by
  rw[qj5]
  have o0:okQ 0:=q6o.ok (by omega) (by omega)
  have hz:=q48 o0
  rw[show tQ 0=[48] from rfl] at hz
  have hch:=qtm (l:=[tQ a,tQ b,tQ c,[48],[48]]) (by simp) (fun s hs=>by
   simp only[List.mem_cons,List.not_mem_nil,or_false] at hs
   rcases hs with rfl|rfl|rfl|rfl|rfl
   ·exact q48 h.oa
   ·exact q48 h.ob
   ·exact q48 h.oc
   ·exact hz
   ·exact hz)
  have hch':(qP [.r [[.s (tQ a)],[.s (tQ b)],[.s (tQ c)],[.s [48]],[.s [48]]]]).run=some (0,[.i 0]):=hch
  have c0:=q9B o0
  rw[show tQ 0=[48] from rfl] at c0
  replace c0:(qK [.s [48]]).run=some (0,[.s [48],.s [49],.b false]):=c0
  have l1:(0:Int)<qm (tQ c):=by
   have h1:=qoE c
   have h2:=qoN c
   unfold qm;omega
  have l2:(0:Int)<qm [48]:=by decide
  have n1:¬sat (tQ c) 0=45:=by rw[qiI];exact qCG hc
  have n2:¬sat [48] 0=45:=by decide
  have mx:=qsW [a.num,b.den,c.den,1,1] ⟨q9b,q4l h.oa,by rw[Int.one_mul];exact q4l h.oa,kG h.ob,by rw[Int.one_mul];exact h.x1,kG h.oc,by rw[Int.one_mul];exact h.x,q9b,by rw[Int.one_mul,Int.mul_one];exact h.x,q9b,by rw[Int.one_mul,Int.mul_one,Int.mul_one];exact h.x⟩ (by simp)
  have my:=qsW [b.num,a.den,1,1] ⟨q9b,q4l h.ob,by rw[Int.one_mul];exact q4l h.ob,kG h.oa,by rw[Int.one_mul];exact h.y,q9b,by rw[Int.one_mul,Int.mul_one];exact h.y,q9b,by rw[Int.one_mul,Int.mul_one,Int.mul_one];exact h.y⟩ (by simp)
  have mr:=qcq (q4l h.oc) (kG h.oc) h.r
  have mz:=qsW [0,a.den,b.den,c.den] ⟨q9b,q8H,by rw[Int.mul_zero];exact q8H,kG h.oa,by simp only[Int.mul_zero];exact qwV _,kG h.ob,by simp only[Int.mul_zero,Int.zero_mul];exact q8H,kG h.oc,by simp only[Int.mul_zero,Int.zero_mul];exact q8H⟩ (by simp)
  have mt:=qcq (m:=0) (n:=1) q8H q9b (qwV _)
  simp only[prd,Int.one_mul,Int.mul_one,Int.zero_mul] at mx my mz mt
  have mx':(qf [.r [[.s (tI a.num)],[.s (tI (b.den:Int))],[.s (tI (c.den:Int))],[.s [49]],[.s [49]]],.i 0]).run=some (0,[.s (tI (rX a b c)),.i 0]):=mx
  have my':(qf [.r [[.s (tI b.num)],[.s (tI (a.den:Int))],[.s [49]],[.s [49]]],.i 0]).run=some (0,[.s (tI (rY a b)),.i 0]):=my
  have mr':(qf [.r [[.s (tI c.num)],[.s (tI (c.den:Int))]],.i 0]).run=some (0,[.s (tI (rR c)),.i 0]):=mr
  have mz':(qf [.r [[.s [48]],[.s (tI (a.den:Int))],[.s (tI (b.den:Int))],[.s (tI (c.den:Int))]],.i 0]).run=some (0,[.s (tI 0),.i 0]):=mz
  have mt':(qf [.r [[.s [48]],[.s [49]]],.i 0]).run=some (0,[.s (tI 0),.i 0]):=mt
  have hR:=qCt h.x h.y h.r h.xx h.yy h.yr h.d
  rw[←qyI] at hR
  have w1:u7 .i64 (sgn 0) (sgn 0)=0:=by decide
  have w2:u7 .i64 (qcX a b c) 0=0:=by rw[q4G (by rw[Int.mul_zero];omega),Int.mul_zero]
  by_cases h0:qcX a b c=0
  ·simp only[STD,hch',l1,l2,n1,n2,Int.le_refl,and_self,q9B h.oa,q9B h.ob,q9B h.oc,c0,mx',my',mr',mz',mt',hR,q7p q8H,w1,h0,show u7 .i64 0 0=0 from rfl]
  ·simp only[STD,hch',l1,l2,n1,n2,Int.le_refl,and_self,q9B h.oa,q9B h.ob,q9B h.oc,c0,mx',my',mr',mz',mt',hR,q7p q8H,w1,w2,h0]
 simp only[STD,key]
theorem RootOk.of{N D N' D' R E:Nat}{a b c:Rat}(ha:bnd N D a)(hb:bnd N' D' b)(hc:bnd R E c)(h1:2*(N+D'+E)≤1023)(h2:2*(N'+D)+R+E≤1023):RootOk a b c:=by
 have q1:nl a.num≤N:=ha.1
 have q2:nl (a.den:Int)≤D:=ha.2
 have q3:nl b.num≤N':=hb.1
 have q4:nl (b.den:Int)≤D':=hb.2
 have q5:nl c.num≤R:=hc.1
 have q6:nl (c.den:Int)≤E:=hc.2
 have x1:=jW a.num b.den
 have x2:=jW (a.num*b.den) c.den
 have y1:=jW b.num a.den
 have r1:=jW c.num c.den
 have xx:=jW (rX a b c) (rX a b c)
 have yy:=jW (rY a b) (rY a b)
 have yr:=jW (rY a b*rY a b) (rR c)
 have dd:=qwn (rX a b c*rX a b c) (rY a b*rY a b*rR c)
 have e1:nl (rX a b c)=nl (a.num*b.den*c.den):=rfl
 have e2:nl (rY a b)=nl (b.num*a.den):=rfl
 have e3:nl (rR c)=nl (c.num*c.den):=rfl
 have p1:=qoQ a.num
 have p2:=qoQ b.num
 have p3:=qoQ c.num
 have p4:=qoQ (a.den:Int)
 have p5:=qoQ (b.den:Int)
 have p6:=qoQ (c.den:Int)
 exact { oa:=⟨by show nl a.num≤1024;omega,by show nl (a.den:Int)≤1024;omega⟩,ob:=⟨by show nl b.num≤1024;omega,by show nl (b.den:Int)≤1024;omega⟩,oc:=⟨by show nl c.num≤1024;omega,by show nl (c.den:Int)≤1024;omega⟩,x1:=by unfold okL;omega,x:=by unfold okL;omega,y:=by unfold okL;omega,r:=by unfold okL;omega,xx:=by unfold okL;omega,yy:=by unfold okL;omega,yr:=by unfold okL;omega,d:=by unfold okL;omega }
end Go.Eng

namespace Go.Eng
theorem qzZ{a b:Rat}{N D N' D':Nat}(ha:bnd N D a)(hb:bnd N' D' b)(h1:N+D'≤1023)(h2:N'+D≤1023)(h3:D+D'≤1024):(zv [.s (tQ a),.s (tQ b),.i 0]).run=some (0,[.s (tQ (a+b)),.i 0]):=by
 rw[qkk]
 have:(wC [.s (tQ a),.s (tQ b),.i 0]).run=some (0,[.s (tQ (a+b)),.i 0]):=by
  rw[qa4]
  simp only[STD,qvs ha hb h1 h2 h3]
 simp only[STD,this]
theorem qsX{a b:Rat}{N D N' D':Nat}(ha:bnd N D a)(hb:bnd N' D' b)(h1:N+D'≤1023)(h2:N'+D≤1023)(h3:D+D'≤1024):(qL [.s (tQ a),.s (tQ b),.i 0]).run=some (0,[.s (tQ (a-b)),.i 0]):=by
 rw[ql5]
 have:(wy [.s (tQ a),.s (tQ b),.i 0]).run=some (0,[.s (tQ (a-b)),.i 0]):=by
  rw[qa3]
  simp only[STD,qvp ha hb h1 h2 h3]
 simp only[STD,this]
theorem qu6{a b:Rat}{N D N' D':Nat}(ha:bnd N D a)(hb:bnd N' D' b)(h1:N+N'≤1024)(h2:D+D'≤1024):(qR [.s (tQ a),.s (tQ b),.i 0]).run=some (0,[.s (tQ (a*b)),.i 0]):=by
 rw[qlb]
 have:(wA [.s (tQ a),.s (tQ b),.i 0]).run=some (0,[.s (tQ (a*b)),.i 0]):=by
  rw[qa0]
  simp only[STD,qw2 ha hb h1 h2]
 simp only[STD,this]
theorem qE9{a b:Rat}{N D N' D':Nat}(h0:b≠0)(ha:bnd N D a)(hb:bnd N' D' b)(h1:N+D'≤1024)(h2:D+N'≤1024):(zB [.s (tQ a),.s (tQ b),.i 0]).run=some (0,[.s (tQ (a/b)),.i 0]):=by
 rw[q9Y]
 simp only[STD,qvi h0 ha hb h1 h2]
theorem qx0{ax ay bx by_:Rat}{N D N' D':Nat}(h1:bnd N D ax)(h2:bnd N D ay)(h3:bnd N' D' bx)(h4:bnd N' D' by_)(c1:N+D'≤1023)(c2:N'+D≤1023)(c3:D+D'≤1024) :
  (zU [.s (tQ ax),.s (tQ ay),.s (tQ bx),.s (tQ by_),.i 0]).run=some (0,[.s (tQ (ax-bx)),.s (tQ (ay-by_)),.i 0]):=by
 rw[qjN]
 simp only[STD,qsX h1 h3 c1 c2 c3,qsX h2 h4 c1 c2 c3]
theorem qyo{ax ay bx by_:Rat}{N D N' D':Nat}(h1:bnd N D ax)(h2:bnd N D ay)(h3:bnd N' D' bx)(h4:bnd N' D' by_)(c1:N+N'+(D+D')≤1023)(c2:D+D'+(D+D')≤1024) :
  (zx [.s (tQ ax),.s (tQ ay),.s (tQ bx),.s (tQ by_),.i 0]).run=some (0,[.s (tQ (ax*bx+ay*by_)),.i 0]):=by
 rw[qkx]
 simp only[STD,qu6 h1 h3 (by omega) (by omega),qu6 h2 h4 (by omega) (by omega),qzZ (h1.mul h3) (h2.mul h4) (by omega) (by omega) (by omega)]
theorem qns{ax ay bx by_:Rat}{N D N' D':Nat}(h1:bnd N D ax)(h2:bnd N D ay)(h3:bnd N' D' bx)(h4:bnd N' D' by_):bnd (N+N'+(D+D')+1) (D+D'+(D+D')) (ax*bx+ay*by_):=
 (h1.mul h3).add (h2.mul h4) (by omega) (by omega)
def uF(ax ay bx by_:Rat):Rat:=(ax-bx)*(ax-bx)+(ay-by_)*(ay-by_)
theorem q1R{a b:Rat}(ha:bnd 12 10 a)(hb:bnd 12 10 b):bnd 23 20 (a-b):=ha.sub hb (by omega) (by omega)
theorem qll{ax ay bx by_:Rat}(h1:bnd 12 10 ax)(h2:bnd 12 10 ay)(h3:bnd 12 10 bx)(h4:bnd 12 10 by_):bnd 87 80 (uF ax ay bx by_):=
 qns (q1R h1 h3) (q1R h2 h4) (q1R h1 h3) (q1R h2 h4)
theorem qEF{ax ay bx by_:Rat}(h1:bnd 12 10 ax)(h2:bnd 12 10 ay)(h3:bnd 12 10 bx)(h4:bnd 12 10 by_) :
  (jI [.s (tQ ax),.s (tQ ay),.s (tQ bx),.s (tQ by_),.i 0]).run=some (0,[.s (tQ (uF ax ay bx by_)),.i 0]):=by
 rw[qcf]
 have k1:=q1R h1 h3
 have k2:=q1R h2 h4
 simp only[STD,qx0 h1 h2 h3 h4 (by omega) (by omega) (by omega),qyo k1 k2 k1 k2 (by omega) (by omega)]
 rfl
theorem qzi{ax ay bx by_:Rat}(h1:sm 40000 ax)(h2:sm 40000 ay)(h3:sm 40000 bx)(h4:sm 40000 by_) :
  (q2G [.s (tQ ax),.s (tQ ay),.s (tQ bx),.s (tQ by_)]).run=some (0,[.s (tQ (ax-bx)),.s (tQ (ay-by_))]):=by
 rw[qpv]
 simp only[STD,uj (q1q h1 (show 40000≤100000 by omega)) (q1q h3 (show 40000≤100000 by omega)),uj (q1q h2 (show 40000≤100000 by omega)) (q1q h4 (show 40000≤100000 by omega))]
theorem qBp{ax ay bx by_:Rat}{K:Nat}(hK:K≤40000)(h1:sm K ax)(h2:sm K ay)(h3:sm K bx)(h4:sm K by_) :
  (q1V [.s (tQ ax),.s (tQ ay),.s (tQ bx),.s (tQ by_)]).run=some (0,[.s (tQ (ax*bx+ay*by_))]):=by
 rw[qtJ]
 have e:=fun {q:Rat} (h:sm K q)=>q1q h (show K≤100000 by omega)
 have p1:=q6J (a:=ax*bx) (b:=ay*by_) (q1q (qtZ h1 h3) (by omega)) (q1q (qtZ h2 h4) (by omega))
 simp only[STD,wK (e h1) (e h3),wK (e h2) (e h4),p1]
structure DQ where
 x:Rat
 y:Rat
 s:Rat
def DQ.sh(d:DQ):Prop:=bnd 12 10 d.x∧bnd 12 10 d.y∧bnd 13 10 d.s
def qEA(a b:DQ)(k:Rat):Int:=qcX (uF a.x a.y b.x b.y-(a.s+b.s)) k (a.s*b.s)
theorem qBU{a b c:Rat}(h:RootOk a b c)(hc:0≤c):(vR [.s (tQ a),.s (tQ b),.s (tQ c),.i 0]).run=some (0,[.i (qcX a b c),.i 0]):=by
 rw[qiY]
 simp only[STD,qxU h hc]
theorem qqs(a:Rat):qcX a 0 0=sgq a:=by
 unfold qcX
 rw[show sgq 0=0 from rfl,Int.mul_zero,Int.mul_zero,if_pos (by omega)]
 split
 ·rename_i h;rw[h]
 ·rfl
theorem qyu{a b:Rat}{N D N' D':Nat}(ha:bnd N D a)(hb:bnd N' D' b)(c1:N+D'+1≤500)(c2:N'+D+1≤500)(c3:D+D'≤300):(jw [.s (tQ a),.s (tQ b),.i 0]).run=some (0,[.i (sgq (a-b)),.i 0]):=by
 rw[qhL]
 have k:bnd 500 (D+D') (a-b):=ha.sub hb (by omega) (by omega)
 have hr:=qBU (a:=a-b) (b:=0) (c:=0) (RootOk.of k q6o q6o (by omega) (by omega)) (by decide)
 rw[qqs,show tQ 0=[48] from rfl] at hr
 simp only[STD,qsX ha hb (by omega) (by omega) (by omega),hr]
theorem qxg:tQ 2=[50]:=qBu 2
def qAt(a b:DQ):Prop:=a.s≤b.s∧qEA a b 2≤0
instance (a b:DQ):Decidable (qAt a b):=by unfold qAt;infer_instance
theorem qg2(a b:Rat):(sgq (a-b)≤0)=(a≤b):=by rw[qgl];exact propext ⟨fun h=>by grind,fun h=>by grind⟩
def shT(s:List UInt8):Prop:=s.length≤12
noncomputable def qDa(x y s:List UInt8):Int:=if qmc x≠0 then qmc x else if qmc y≠0 then qmc y else if qmc s≠0 then qmc s else if s.getD 0 0=45 then 2 else 0
theorem qEt{S:List PV→TR}{st:Nat→List PV}{e0 e1 e2:Int}{fin:List PV}
  (h0:(S (st 0)).run=if e0=0 then some (0,st 1) else some (2,[.i e0])) (h1:(S (st 1)).run=if e1=0 then some (0,st 2) else some (2,[.i e1])) (h2:(S (st 2)).run=if e2=0 then some (0,st 3) else some (2,[.i e2]))
  (h3:(S (st 3)).run=some (1,fin)):(qg S (st 0)).run=some (if e0≠0 then (1,[.i e0]) else if e1≠0 then (1,[.i e1]) else if e2≠0 then (1,[.i e2]) else (0,fin)):=by
 have hr:∃m,qfU=m+4:=⟨qfU-4,by unfold qfU;omega⟩
 obtain⟨m,hm⟩:=hr
 unfold qg
 rw[hm]
 by_cases c0:e0=0
 ·rw[if_pos c0] at h0
  rw[qgh h0]
  by_cases c1:e1=0
  ·rw[if_pos c1] at h1
   rw[qgh h1]
   by_cases c2:e2=0
   ·rw[if_pos c2] at h2
    rw[qgh h2,q6X h3]
    simp[c0,c1,c2]
   ·rw[if_neg c2] at h2
    rw[q6X h2]
    simp[c0,c1,c2]
  ·rw[if_neg c1] at h1
   rw[q6X h1]
   simp[c0,c1]
 ·rw[if_neg c0] at h0
  rw[q6X h0]
  simp[c0]
theorem qdC(x y s:List UInt8)(h1:x.length≤1000000)(h2:y.length≤1000000)(h3:s.length≤1000000):(jZ [.s x,.s y,.s s]).run=some (0,[.i (qDa x y s)]):=by
  rw[qpb]
  have c0:=q84 x (by omega)
  have c1:=q84 y (by omega)
  have c2:=q84 s (by omega)
  have d0:cS [[.s x],[.s y],[.s s]] 0 0=x:=rfl
  have d1:cS [[.s x],[.s y],[.s s]] 1 0=y:=rfl
  have d2:cS [[.s x],[.s y],[.s s]] 2 0=s:=rfl
  have d3:qj [[U.s x],[U.s y],[U.s s]]=3:=rfl
  have w0:qh .i64 0 1=1:=by decide
  have w1:qh .i64 1 1=2:=by decide
  have w2:qh .i64 2 1=3:=by decide
  have key:=qEt (S:=q2s) (st:=fun i=>[.i 3,.i (i:Int),.s x,.s y,.s s,.r [[.s x],[.s y],[.s s]]]) (e0:=qmc x) (e1:=qmc y) (e2:=qmc s) (fin:=[.s x,.s y,.s s])
    (by rw [q3S]; simp only [show (((0 : Nat)) : Int) = 0 from rfl, show (((1 : Nat)) : Int) = 1 from rfl, d0, d3]
        by_cases c:qmc x=0
        · simp only[STD,c0,c,w0,show (0:Int)<3 by omega,Int.le_refl,and_self]
        · simp only[STD,c0,c,show (0:Int)<3 by omega,Int.le_refl,and_self])
    (by rw [q3S]; simp only [show (((1 : Nat)) : Int) = 1 from rfl, show (((2 : Nat)) : Int) = 2 from rfl, d1, d3]
        by_cases c:qmc y=0
        · simp only[STD,c1,c,w1,show (1:Int)<3 by omega,show (0:Int)≤1 by omega,and_self]
        · simp only[STD,c1,c,show (1:Int)<3 by omega,show (0:Int)≤1 by omega,and_self])
    (by rw [q3S]; simp only [show (((2 : Nat)) : Int) = 2 from rfl, show (((3 : Nat)) : Int) = 3 from rfl, d2, d3]
        by_cases c:qmc s=0
        · simp only[STD,c2,c,w2,show (2:Int)<3 by omega,show (0:Int)≤2 by omega,and_self]
        · simp only[STD,c2,c,show (2:Int)<3 by omega,show (0:Int)≤2 by omega,and_self])
    (by rw[q3S];simp only[show (((3:Nat)):Int)=3 from rfl];simp only[STD,show ¬(3:Int)<3 by omega])
  simp only[show (((0:Nat)):Int)=0 from rfl] at key
  unfold qDa
  rw[d3]
  by_cases e0:qmc x=0
  · by_cases e1:qmc y=0
    · by_cases e2:qmc s=0
      · simp only[e0,e1,e2,ne_eq,not_true,if_false] at key ⊢
        obtain⟨q,hq,_⟩:=quR e2
        have hl:(0:Int)<qm s:=by
          have h1:=qoE q
          have h2:=qoN q
          rw[hq];unfold qm;omega
        by_cases hm:s.getD 0 0=45
        · simp only[STD,key,qw key,Int.le_refl,hl,and_self,qiI,hm]
        · simp only[STD,key,qw key,Int.le_refl,hl,and_self,qiI,hm]
      · simp only[e0,e1,e2,ne_eq,not_true,not_false_eq_true,if_false,if_true] at key ⊢
        simp only[STD,key,qw key,show ¬(1=0) by omega]
    · simp only[e0,e1,ne_eq,not_true,not_false_eq_true,if_false,if_true] at key ⊢
      simp only[STD,key,qw key,show ¬(1=0) by omega]
  · simp only[e0,ne_eq,not_false_eq_true,if_true] at key ⊢
    simp only[STD,key,qw key,show ¬(1=0) by omega]
theorem qD2{d:DQ}(h1:okQ d.x)(h2:okQ d.y)(h3:okQ d.s)(h:0≤d.s):qDa (tQ d.x) (tQ d.y) (tQ d.s)=0:=by
 unfold qDa
 rw[qsa h1,qsa h2,qsa h3]
 have:=qCG h
 rw[if_neg (by simp),if_neg (by simp),if_neg (by simp),if_neg this]
end Go.Eng

namespace Go.Eng
def Bd(C e:Nat)(x:Int):Prop:=x.natAbs≤C*10^e
theorem Bd.mul{C e C' e':Nat}{x y:Int}(h:Bd C e x)(h':Bd C' e' y):Bd (C*C') (e+e') (x*y):=by
 unfold Bd at *
 rw[Int.natAbs_mul,Nat.pow_add]
 have:=Nat.mul_le_mul h h'
 have e1:C*10^e*(C'*10^e')=C*C'*(10^e*10^e'):=by
  rw[Nat.mul_mul_mul_comm]
 omega
theorem Bd.mono{C e C' e':Nat}{x:Int}(h:Bd C e x)(hC:C≤C')(he:e≤e'):Bd C' e' x:=by
 unfold Bd at *
 exact Nat.le_trans h (Nat.mul_le_mul hC (Nat.pow_le_pow_right (by omega) he))
theorem Bd.add{C C' e:Nat}{x y:Int}(h:Bd C e x)(h':Bd C' e y):Bd (C+C') e (x+y):=by
 unfold Bd at *
 rw[Nat.add_mul]
 have:=Int.natAbs_add_le x y
 omega
theorem Bd.neg{C e:Nat}{x:Int}(h:Bd C e x):Bd C e (-x):=by unfold Bd at *;rw[Int.natAbs_neg];exact h
theorem Bd.sub{C C' e:Nat}{x y:Int}(h:Bd C e x)(h':Bd C' e y):Bd (C+C') e (x-y):=by
 rw[Int.sub_eq_add_neg];exact h.add h'.neg
theorem Bd.okL{C e k:Nat}{x:Int}(h:Bd C e x)(hC:C≤10^k)(he:k+e≤1023)(hne:0<e+k):okL x:=by
 unfold Go.Eng.okL nl
 unfold Bd at h
 have h1:C*10^e≤10^k*10^e:=Nat.mul_le_mul_right _ hC
 rw[←Nat.pow_add] at h1
 have h2:(10:Nat)^(k+e)<10^(k+e+1):=Nat.pow_lt_pow_right (by omega) (by omega)
 have:=q5A (k+e) x.natAbs (by omega)
 omega
structure Wt (h v:Nat) (q:Rat):Prop where
 n:Bd 1 h q.num
 d:Bd 1 v (q.den:Int)
 dh:Bd 1 h (q.den:Int)
theorem qmI{q:Rat}{P M:Int}(hM:M≠0)(h:q*(M:Rat)=(P:Rat)):q.num.natAbs≤P.natAbs∧q.den≤M.natAbs:=by
 have hM':(M:Rat)≠0:=by
  intro e
  exact hM (Rat.intCast_inj.1 (e.trans (by simp)))
 have e:q=Rat.divInt P M:=by
  rw[Rat.divInt_eq_div,←h]
  exact(Rat.mul_div_cancel hM').symm
 rw[e]
 constructor
 ·rw[Rat.num_divInt]
  refine Nat.le_trans (Int.natAbs_ediv_le_natAbs _ _) ?_
  rw[Int.natAbs_mul,Int.natAbs_sign_of_ne_zero hM];omega
 ·rw[Rat.den_divInt,if_neg hM]
  exact Nat.div_le_self _ _
structure SQ where
 fx:Rat
 fy:Rat
 ax:Rat
 ay:Rat
 h:Rat
def ql(a b:DQ)(neg:Bool):SQ:=
 let dx:=b.x-a.x
 let dy:=b.y-a.y
 let far:=dx*dx+dy*dy
 let t:=(far+a.s-b.s)/(2*far)
 ⟨a.x+t*dx,a.y+t*dy,if neg then dy else 0-dy,if neg then 0-dx else dx,a.s/far-t*t⟩
def kA(d:DQ)(p:SQ):Rat:=(p.fx-d.x)*(p.fx-d.x)+(p.fy-d.y)*(p.fy-d.y)+p.h*(p.ax*p.ax+p.ay*p.ay)-d.s
def kB(d:DQ)(p:SQ):Rat:=2*((p.fx-d.x)*p.ax+(p.fy-d.y)*p.ay)
def jY(d:DQ)(p:SQ):Prop:=qcX (kA d p) (kB d p) p.h≤0
instance (d:DQ) (p:SQ):Decidable (jY d p):=by unfold jY;infer_instance
section
variable (a1 p1 b1 q1 c1 r1 a2 p2 b2 q2 c2 r2 a3 p3 b3 q3 c3 r3:Int)
def iU:Int:=a2*p1-a1*p2
def iN:Int:=iU a1 p1 a2 p2*iU a1 p1 a2 p2*((q1*q2)*(q1*q2))+iU b1 q1 b2 q2*iU b1 q1 b2 q2*((p1*p2)*(p1*p2))
def iD:Int:=(p1*p2*(q1*q2))*(p1*p2*(q1*q2))
def iT:Int:=iN a1 p1 b1 q1 a2 p2 b2 q2*(r1*r2)+(c1*r2-c2*r1)*iD p1 q1 p2 q2
def iE:Int:=a1*p3-a3*p1
def iG:Int:=iE a1 p1 a3 p3*iE a1 p1 a3 p3*((q1*q3)*(q1*q3))+iE b1 q1 b3 q3*iE b1 q1 b3 q3*((p1*p3)*(p1*p3))
def iH:Int:=iE a1 p1 a3 p3*iU a1 p1 a2 p2*((q1*q1)*(q2*q3))+iE b1 q1 b3 q3*iU b1 q1 b2 q2*((p1*p1)*(p2*p3))
def iSq:Int:=((p1*q1)*(p3*q3))*((p1*q1)*(p3*q3))
def iA:Int:=iG a1 p1 b1 q1 a3 p3 b3 q3*iN a1 p1 b1 q1 a2 p2 b2 q2*(r1*r2*r3)*(p2*q2)+iT a1 p1 b1 q1 c1 r1 a2 p2 b2 q2 c2 r2*iH a1 p1 b1 q1 a2 p2 b2 q2 a3 p3 b3 q3*r3*(p3*q3)
 + c1*iN a1 p1 b1 q1 a2 p2 b2 q2*(r2*r3)*iSq p1 q1 p3 q3*(p2*q2)-c3*iN a1 p1 b1 q1 a2 p2 b2 q2*(r1*r2)*iSq p1 q1 p3 q3*(p2*q2)
def iM:Int:=iN a1 p1 b1 q1 a2 p2 b2 q2*(r1*r2*r3)*iSq p1 q1 p3 q3*(p2*q2)
def iK:Int:=2*(iE b1 q1 b3 q3*iU a1 p1 a2 p2*(p3*q2)-iE a1 p1 a3 p3*iU b1 q1 b2 q2*(q3*p2))
def iQ:Int:=(p1*p2*p3)*(q1*q2*q3)
def iCn:Int:=4*(c1*iD p1 q1 p2 q2*iN a1 p1 b1 q1 a2 p2 b2 q2*r1*(r2*r2))-iT a1 p1 b1 q1 c1 r1 a2 p2 b2 q2 c2 r2*iT a1 p1 b1 q1 c1 r1 a2 p2 b2 q2 c2 r2
def iCd:Int:=4*(iN a1 p1 b1 q1 a2 p2 b2 q2*iN a1 p1 b1 q1 a2 p2 b2 q2)*((r1*r2)*(r1*r2))
end
section
variable {a1 p1 b1 q1 c1 r1 a2 p2 b2 q2 c2 r2 a3 p3 b3 q3 c3 r3:Int} {hx1 hy1 hs1 hx2 hy2 hs2 hx3 hy3 hs3 vx1 vy1 vs1 vx2 vy2 vs2 vx3 vy3 vs3:Nat}
theorem bU(h1:Bd 1 hx1 a1)(h2:Bd 1 hx1 p1)(h3:Bd 1 hx2 a2)(h4:Bd 1 hx2 p2):Bd 2 (hx1+hx2) (iU a1 p1 a2 p2):=
 ((h3.mul h2).mono (Nat.le_refl _) (by omega)).sub (h1.mul h4)
theorem bE(h1:Bd 1 hx1 a1)(h2:Bd 1 hx1 p1)(h3:Bd 1 hx3 a3)(h4:Bd 1 hx3 p3):Bd 2 (hx1+hx3) (iE a1 p1 a3 p3):=
 (h1.mul h4).sub ((h3.mul h2).mono (Nat.le_refl _) (by omega))
theorem bN(x1:Bd 1 hx1 a1)(x1':Bd 1 hx1 p1)(y1:Bd 1 hy1 b1)(y1':Bd 1 hy1 q1)(x2:Bd 1 hx2 a2)(x2':Bd 1 hx2 p2)(y2:Bd 1 hy2 b2)(y2':Bd 1 hy2 q2) :
  Bd 8 (2*(hx1+hx2+hy1+hy2)) (iN a1 p1 b1 q1 a2 p2 b2 q2):=by
 have u:=bU x1 x1' x2 x2'
 have v:=bU y1 y1' y2 y2'
 have qq:=y1'.mul y2'
 have pp:=x1'.mul x2'
 exact(((u.mul u).mul (qq.mul qq)).mono (C':=4) (by omega) (by omega)).add (((v.mul v).mul (pp.mul pp)).mono (C':=4) (by omega) (by omega))
theorem bD(x1':Bd 1 hx1 p1)(y1':Bd 1 hy1 q1)(x2':Bd 1 hx2 p2)(y2':Bd 1 hy2 q2):Bd 1 (2*(hx1+hx2+hy1+hy2)) (iD p1 q1 p2 q2):=by
 have z:=(x1'.mul x2').mul (y1'.mul y2')
 exact(z.mul z).mono (by omega) (by omega)
theorem bT(x1:Bd 1 hx1 a1)(x1':Bd 1 hx1 p1)(y1:Bd 1 hy1 b1)(y1':Bd 1 hy1 q1)(x2:Bd 1 hx2 a2)(x2':Bd 1 hx2 p2)(y2:Bd 1 hy2 b2)(y2':Bd 1 hy2 q2)
  (s1:Bd 1 hs1 c1) (s1':Bd 1 hs1 r1) (s2:Bd 1 hs2 c2) (s2':Bd 1 hs2 r2):Bd 10 (2*(hx1+hx2+hy1+hy2)+hs1+hs2) (iT a1 p1 b1 q1 c1 r1 a2 p2 b2 q2 c2 r2):=by
 have n:=bN x1 x1' y1 y1' x2 x2' y2 y2'
 have d:=bD x1' y1' x2' y2'
 have s:=(s1.mul s2').sub ((s2.mul s1').mono (Nat.le_refl _) (by omega))
 exact((n.mul (s1'.mul s2')).mono (C':=8) (by omega) (by omega)).add ((s.mul d).mono (C':=2) (by omega) (by omega))
theorem bG(x1:Bd 1 hx1 a1)(x1':Bd 1 hx1 p1)(y1:Bd 1 hy1 b1)(y1':Bd 1 hy1 q1)(x3:Bd 1 hx3 a3)(x3':Bd 1 hx3 p3)(y3:Bd 1 hy3 b3)(y3':Bd 1 hy3 q3) :
  Bd 8 (2*(hx1+hx3+hy1+hy3)) (iG a1 p1 b1 q1 a3 p3 b3 q3):=by
 have u:=bE x1 x1' x3 x3'
 have v:=bE y1 y1' y3 y3'
 have qq:=y1'.mul y3'
 have pp:=x1'.mul x3'
 exact(((u.mul u).mul (qq.mul qq)).mono (C':=4) (by omega) (by omega)).add (((v.mul v).mul (pp.mul pp)).mono (C':=4) (by omega) (by omega))
theorem bH(x1:Bd 1 hx1 a1)(x1':Bd 1 hx1 p1)(y1:Bd 1 hy1 b1)(y1':Bd 1 hy1 q1)(x2:Bd 1 hx2 a2)(x2':Bd 1 hx2 p2)(y2:Bd 1 hy2 b2)(y2':Bd 1 hy2 q2)
  (x3:Bd 1 hx3 a3) (x3':Bd 1 hx3 p3) (y3:Bd 1 hy3 b3) (y3':Bd 1 hy3 q3):Bd 8 (2*hx1+hx2+hx3+2*hy1+hy2+hy3) (iH a1 p1 b1 q1 a2 p2 b2 q2 a3 p3 b3 q3):=by
 have u:=bU x1 x1' x2 x2'
 have v:=bU y1 y1' y2 y2'
 have e:=bE x1 x1' x3 x3'
 have f:=bE y1 y1' y3 y3'
 exact(((e.mul u).mul ((y1'.mul y1').mul (y2'.mul y3'))).mono (C':=4) (by omega) (by omega)).add (((f.mul v).mul ((x1'.mul x1').mul (x2'.mul x3'))).mono (C':=4) (by omega) (by omega))
theorem bSq(x1':Bd 1 hx1 p1)(y1':Bd 1 hy1 q1)(x3':Bd 1 hx3 p3)(y3':Bd 1 hy3 q3):Bd 1 (2*(hx1+hx3+hy1+hy3)) (iSq p1 q1 p3 q3):=by
 have z:=(x1'.mul y1').mul (x3'.mul y3')
 exact(z.mul z).mono (by omega) (by omega)
theorem bA(x1:Bd 1 hx1 a1)(x1':Bd 1 hx1 p1)(y1:Bd 1 hy1 b1)(y1':Bd 1 hy1 q1)(x2:Bd 1 hx2 a2)(x2':Bd 1 hx2 p2)(y2:Bd 1 hy2 b2)(y2':Bd 1 hy2 q2)
  (x3:Bd 1 hx3 a3) (x3':Bd 1 hx3 p3) (y3:Bd 1 hy3 b3) (y3':Bd 1 hy3 q3) (s1:Bd 1 hs1 c1) (s1':Bd 1 hs1 r1) (s2:Bd 1 hs2 c2) (s2':Bd 1 hs2 r2) (s3:Bd 1 hs3 c3) (s3':Bd 1 hs3 r3) :
  Bd 160 (4*hx1+3*hx2+2*hx3+4*hy1+3*hy2+2*hy3+hs1+hs2+hs3) (iA a1 p1 b1 q1 c1 r1 a2 p2 b2 q2 c2 r2 a3 p3 b3 q3 c3 r3):=by
 have g:=bG x1 x1' y1 y1' x3 x3' y3 y3'
 have n:=bN x1 x1' y1 y1' x2 x2' y2 y2'
 have t:=bT x1 x1' y1 y1' x2 x2' y2 y2' s1 s1' s2 s2'
 have h:=bH x1 x1' y1 y1' x2 x2' y2 y2' x3 x3' y3 y3'
 have sq:=bSq x1' y1' x3' y3'
 have k1:=(((g.mul n).mul ((s1'.mul s2').mul s3')).mul (x2'.mul y2')).mono (C':=64) (e':=4*hx1+3*hx2+2*hx3+4*hy1+3*hy2+2*hy3+hs1+hs2+hs3) (by omega) (by omega)
 have k2:=(((t.mul h).mul s3').mul (x3'.mul y3')).mono (C':=80) (e':=4*hx1+3*hx2+2*hx3+4*hy1+3*hy2+2*hy3+hs1+hs2+hs3) (by omega) (by omega)
 have k3:=((((s1.mul n).mul (s2'.mul s3')).mul sq).mul (x2'.mul y2')).mono (C':=8) (e':=4*hx1+3*hx2+2*hx3+4*hy1+3*hy2+2*hy3+hs1+hs2+hs3) (by omega) (by omega)
 have k4:=((((s3.mul n).mul (s1'.mul s2')).mul sq).mul (x2'.mul y2')).mono (C':=8) (e':=4*hx1+3*hx2+2*hx3+4*hy1+3*hy2+2*hy3+hs1+hs2+hs3) (by omega) (by omega)
 exact((k1.add k2).add k3).sub k4
theorem bM(x1:Bd 1 hx1 a1)(x1':Bd 1 hx1 p1)(y1:Bd 1 hy1 b1)(y1':Bd 1 hy1 q1)(x2:Bd 1 hx2 a2)(x2':Bd 1 hx2 p2)(y2:Bd 1 hy2 b2)(y2':Bd 1 hy2 q2)
  (wx1:Bd 1 vx1 p1) (wy1:Bd 1 vy1 q1) (wx2:Bd 1 vx2 p2) (wy2:Bd 1 vy2 q2) (wx3:Bd 1 vx3 p3) (wy3:Bd 1 vy3 q3) (ws1:Bd 1 vs1 r1) (ws2:Bd 1 vs2 r2) (ws3:Bd 1 vs3 r3) :
  Bd 8 (2*(hx1+hx2+hy1+hy2)+(vs1+vs2+vs3)+2*(vx1+vx3+vy1+vy3)+(vx2+vy2)) (iM a1 p1 b1 q1 r1 a2 p2 b2 q2 r2 p3 q3 r3):=by
 have n:=bN x1 x1' y1 y1' x2 x2' y2 y2'
 have sq:=bSq wx1 wy1 wx3 wy3
 exact(((n.mul ((ws1.mul ws2).mul ws3)).mul sq).mul (wx2.mul wy2)).mono (by omega) (by omega)
theorem bK(x1:Bd 1 hx1 a1)(x1':Bd 1 hx1 p1)(y1:Bd 1 hy1 b1)(y1':Bd 1 hy1 q1)(x2:Bd 1 hx2 a2)(x2':Bd 1 hx2 p2)(y2:Bd 1 hy2 b2)(y2':Bd 1 hy2 q2)
  (x3:Bd 1 hx3 a3) (x3':Bd 1 hx3 p3) (y3:Bd 1 hy3 b3) (y3':Bd 1 hy3 q3):Bd 16 (hx1+hx2+hx3+hy1+hy2+hy3) (iK a1 p1 b1 q1 a2 p2 b2 q2 a3 p3 b3 q3):=by
 have u:=bU x1 x1' x2 x2'
 have v:=bU y1 y1' y2 y2'
 have e:=bE x1 x1' x3 x3'
 have f:=bE y1 y1' y3 y3'
 have two:Bd 2 0 2:=by unfold Bd;decide
 have k1:=((f.mul u).mul (x3'.mul y2')).mono (C':=4) (e':=hx1+hx2+hx3+hy1+hy2+hy3) (by omega) (by omega)
 have k2:=((e.mul v).mul (y3'.mul x2')).mono (C':=4) (e':=hx1+hx2+hx3+hy1+hy2+hy3) (by omega) (by omega)
 exact(two.mul (k1.sub k2)).mono (by omega) (by omega)
theorem bQ(wx1:Bd 1 vx1 p1)(wy1:Bd 1 vy1 q1)(wx2:Bd 1 vx2 p2)(wy2:Bd 1 vy2 q2)(wx3:Bd 1 vx3 p3)(wy3:Bd 1 vy3 q3):Bd 1 (vx1+vx2+vx3+(vy1+vy2+vy3)) (iQ p1 q1 p2 q2 p3 q3):=
 (((wx1.mul wx2).mul wx3).mul ((wy1.mul wy2).mul wy3)).mono (by omega) (by omega)
theorem bCn(x1:Bd 1 hx1 a1)(x1':Bd 1 hx1 p1)(y1:Bd 1 hy1 b1)(y1':Bd 1 hy1 q1)(x2:Bd 1 hx2 a2)(x2':Bd 1 hx2 p2)(y2:Bd 1 hy2 b2)(y2':Bd 1 hy2 q2)
  (s1:Bd 1 hs1 c1) (s1':Bd 1 hs1 r1) (s2:Bd 1 hs2 c2) (s2':Bd 1 hs2 r2):Bd 132 (4*(hx1+hx2+hy1+hy2)+2*hs1+2*hs2) (iCn a1 p1 b1 q1 c1 r1 a2 p2 b2 q2 c2 r2):=by
 have n:=bN x1 x1' y1 y1' x2 x2' y2 y2'
 have d:=bD x1' y1' x2' y2'
 have t:=bT x1 x1' y1 y1' x2 x2' y2 y2' s1 s1' s2 s2'
 have four:Bd 4 0 4:=by unfold Bd;decide
 have k1:=(four.mul ((((s1.mul d).mul n).mul s1').mul (s2'.mul s2'))).mono (C':=32) (e':=4*(hx1+hx2+hy1+hy2)+2*hs1+2*hs2) (by omega) (by omega)
 have k2:=(t.mul t).mono (C':=100) (e':=4*(hx1+hx2+hy1+hy2)+2*hs1+2*hs2) (by omega) (by omega)
 exact k1.sub k2
theorem bCd(x1:Bd 1 hx1 a1)(x1':Bd 1 hx1 p1)(y1:Bd 1 hy1 b1)(y1':Bd 1 hy1 q1)(x2:Bd 1 hx2 a2)(x2':Bd 1 hx2 p2)(y2:Bd 1 hy2 b2)(y2':Bd 1 hy2 q2)
  (ws1:Bd 1 vs1 r1) (ws2:Bd 1 vs2 r2):Bd 256 (4*(hx1+hx2+hy1+hy2)+2*vs1+2*vs2) (iCd a1 p1 b1 q1 r1 a2 p2 b2 q2 r2):=by
 have n:=bN x1 x1' y1 y1' x2 x2' y2 y2'
 have four:Bd 4 0 4:=by unfold Bd;decide
 exact((four.mul (n.mul n)).mul ((ws1.mul ws2).mul (ws1.mul ws2))).mono (by omega) (by omega)
end
section
variable (a b d:DQ)
theorem qwX(q:Rat):(q.den:Rat)≠0:=by have:=q2u q;grind
theorem quY(neg:Bool)(hf:(b.x-a.x)*(b.x-a.x)+(b.y-a.y)*(b.y-a.y)≠0) :
  kA d (ql a b neg)*((iM a.x.num a.x.den a.y.num a.y.den a.s.den b.x.num b.x.den b.y.num b.y.den b.s.den d.x.den d.y.den d.s.den:Int):Rat)=((iA a.x.num a.x.den a.y.num a.y.den a.s.num a.s.den b.x.num b.x.den b.y.num b.y.den b.s.num b.s.den d.x.num d.x.den d.y.num d.y.den d.s.num d.s.den:Int):Rat) ∧
  kB d (ql a b neg)*((iQ a.x.den a.y.den b.x.den b.y.den d.x.den d.y.den:Int):Rat)=(((if neg then -1 else 1)*iK a.x.num a.x.den a.y.num a.y.den b.x.num b.x.den b.y.num b.y.den d.x.num d.x.den d.y.num d.y.den:Int):Rat) ∧
  (ql a b neg).h*((iCd a.x.num a.x.den a.y.num a.y.den a.s.den b.x.num b.x.den b.y.num b.y.den b.s.den:Int):Rat)=((iCn a.x.num a.x.den a.y.num a.y.den a.s.num a.s.den b.x.num b.x.den b.y.num b.y.den b.s.num b.s.den:Int):Rat) ∧
  iN a.x.num a.x.den a.y.num a.y.den b.x.num b.x.den b.y.num b.y.den≠0:=by
 obtain⟨far,hfar⟩:∃far,far=(b.x-a.x)*(b.x-a.x)+(b.y-a.y)*(b.y-a.y):=⟨_,rfl⟩
 obtain⟨t,ht⟩:∃t,t=(far+a.s-b.s)/(2*far):=⟨_,rfl⟩
 obtain⟨h,hh⟩:∃h,h=a.s/far-t*t:=⟨_,rfl⟩
 rw[←hfar] at hf
 have h2f:2*far≠0:=by grind
 have ht':2*far*t=far+a.s-b.s:=by
  rw[ht,Rat.mul_comm];exact Rat.div_mul_cancel h2f
 have hh':far*h=a.s-far*(t*t):=by
  have:a.s/far*far=a.s:=Rat.div_mul_cancel hf
  rw[hh];grind
 have hc:ql a b neg=⟨a.x+t*(b.x-a.x),a.y+t*(b.y-a.y),if neg then b.y-a.y else 0-(b.y-a.y),if neg then 0-(b.x-a.x) else b.x-a.x,h⟩:=by
  rw[hh,ht,hfar];rfl
 rw[hc]
 have nx1:=qdU a.x
 have ny1:=qdU a.y
 have ns1:=qdU a.s
 have nx2:=qdU b.x
 have ny2:=qdU b.y
 have ns2:=qdU b.s
 have nx3:=qdU d.x
 have ny3:=qdU d.y
 have ns3:=qdU d.s
 have px1:=qwX a.x
 have py1:=qwX a.y
 have px2:=qwX b.x
 have py2:=qwX b.y
 obtain⟨x1,y1,s1⟩:=a
 obtain⟨x2,y2,s2⟩:=b
 obtain⟨x3,y3,s3⟩:=d
 simp only at *
 have hU:((iU x1.num x1.den x2.num x2.den:Int):Rat)=(x2-x1)*((x1.den:Rat)*x2.den):=by
  unfold iU;simp only[Rat.intCast_sub,Rat.intCast_mul,Rat.intCast_natCast,nx1,nx2];grind
 have hV:((iU y1.num y1.den y2.num y2.den:Int):Rat)=(y2-y1)*((y1.den:Rat)*y2.den):=by
  unfold iU;simp only[Rat.intCast_sub,Rat.intCast_mul,Rat.intCast_natCast,ny1,ny2];grind
 have hE:((iE x1.num x1.den x3.num x3.den:Int):Rat)=(x1-x3)*((x1.den:Rat)*x3.den):=by
  unfold iE;simp only[Rat.intCast_sub,Rat.intCast_mul,Rat.intCast_natCast,nx1,nx3];grind
 have hF:((iE y1.num y1.den y3.num y3.den:Int):Rat)=(y1-y3)*((y1.den:Rat)*y3.den):=by
  unfold iE;simp only[Rat.intCast_sub,Rat.intCast_mul,Rat.intCast_natCast,ny1,ny3];grind
 have hD:((iD x1.den y1.den x2.den y2.den:Int):Rat)=((x1.den:Rat)*x2.den*(y1.den*y2.den))*((x1.den:Rat)*x2.den*(y1.den*y2.den)):=by
  unfold iD;simp only[Rat.intCast_mul,Rat.intCast_natCast]
 have hN:((iN x1.num x1.den y1.num y1.den x2.num x2.den y2.num y2.den:Int):Rat)=far*(((x1.den:Rat)*x2.den*(y1.den*y2.den))*((x1.den:Rat)*x2.den*(y1.den*y2.den))):=by
  unfold iN;simp only[Rat.intCast_add,Rat.intCast_mul,Rat.intCast_natCast,hU,hV,hfar];grind
 have hN0:iN x1.num x1.den y1.num y1.den x2.num x2.den y2.num y2.den≠0:=by
  intro e
  rw[e] at hN
  have h1:(x1.den:Rat)*x2.den*(y1.den*y2.den)≠0:=by
   have:=Rat.mul_pos (Rat.mul_pos (q2u x1) (q2u x2)) (Rat.mul_pos (q2u y1) (q2u y2))
   grind
  have h2:far*(((x1.den:Rat)*x2.den*(y1.den*y2.den))*((x1.den:Rat)*x2.den*(y1.den*y2.den)))=0:=by rw[←hN];simp
  rcases Rat.mul_eq_zero.1 h2 with h3|h3
  ·exact hf h3
  ·rcases Rat.mul_eq_zero.1 h3 with h4|h4<;>exact h1 h4
 have hT:((iT x1.num x1.den y1.num y1.den s1.num s1.den x2.num x2.den y2.num y2.den s2.num s2.den:Int):Rat)=2*t*far*(((x1.den:Rat)*x2.den*(y1.den*y2.den))*((x1.den:Rat)*x2.den*(y1.den*y2.den)))*((s1.den:Rat)*s2.den):=by
  unfold iT;simp only[Rat.intCast_add,Rat.intCast_sub,Rat.intCast_mul,Rat.intCast_natCast,hN,hD,ns1,ns2]
  generalize ((x1.den:Rat)*x2.den*(y1.den*y2.den))*((x1.den:Rat)*x2.den*(y1.den*y2.den))=D2
  have:2*t*far*D2*((s1.den:Rat)*s2.den)=(2*far*t)*(D2*((s1.den:Rat)*s2.den)):=by grind
  rw[this,ht'];grind
 have hG:((iG x1.num x1.den y1.num y1.den x3.num x3.den y3.num y3.den:Int):Rat)=((x1-x3)*(x1-x3)+(y1-y3)*(y1-y3))*(((x1.den:Rat)*y1.den*(x3.den*y3.den))*((x1.den:Rat)*y1.den*(x3.den*y3.den))):=by
  unfold iG;simp only[Rat.intCast_add,Rat.intCast_mul,Rat.intCast_natCast,hE,hF];grind
 have hH:((iH x1.num x1.den y1.num y1.den x2.num x2.den y2.num y2.den x3.num x3.den y3.num y3.den:Int):Rat)=((x1-x3)*(x2-x1)+(y1-y3)*(y2-y1))*(((x1.den:Rat)*x1.den*(x2.den*x3.den))*((y1.den:Rat)*y1.den*(y2.den*y3.den))):=by
  unfold iH;simp only[Rat.intCast_add,Rat.intCast_mul,Rat.intCast_natCast,hE,hF,hU,hV];grind
 have hSq:((iSq x1.den y1.den x3.den y3.den:Int):Rat)=((x1.den:Rat)*y1.den*(x3.den*y3.den))*((x1.den:Rat)*y1.den*(x3.den*y3.den)):=by
  unfold iSq;simp only[Rat.intCast_mul,Rat.intCast_natCast]
 refine⟨?_,?_,?_,hN0⟩
 ·unfold iM iA
  simp only[Rat.intCast_add,Rat.intCast_sub,Rat.intCast_mul,Rat.intCast_natCast,hN,hT,hG,hH,hSq,ns1,ns3]
  have hA:kA ⟨x3,y3,s3⟩ ⟨x1+t*(x2-x1),y1+t*(y2-y1),if neg then y2-y1 else 0-(y2-y1),if neg then 0-(x2-x1) else x2-x1,h⟩=(x1-x3)*(x1-x3)+(y1-y3)*(y1-y3)+2*t*((x1-x3)*(x2-x1)+(y1-y3)*(y2-y1))+s1-s3:=by
   have e1:kA ⟨x3,y3,s3⟩ ⟨x1+t*(x2-x1),y1+t*(y2-y1),if neg then y2-y1 else 0-(y2-y1),if neg then 0-(x2-x1) else x2-x1,h⟩=(x1-x3)*(x1-x3)+(y1-y3)*(y1-y3)+2*t*((x1-x3)*(x2-x1)+(y1-y3)*(y2-y1))+far*(t*t)+far*h-s3:=by
    unfold kA
    rw[hfar]
    cases neg
    ·simp only[Bool.false_eq_true,if_false];grind
    ·simp only[if_true];grind
   rw[e1,hh'];grind
  rw[hA]
  generalize (x1-x3)*(x1-x3)+(y1-y3)*(y1-y3)=e2
  generalize (x1-x3)*(x2-x1)+(y1-y3)*(y2-y1)=ed
  generalize (x1.den:Rat)=P1
  generalize (x2.den:Rat)=P2
  generalize (x3.den:Rat)=P3
  generalize (y1.den:Rat)=Q1
  generalize (y2.den:Rat)=Q2
  generalize (y3.den:Rat)=Q3
  generalize (s1.den:Rat)=R1
  generalize (s2.den:Rat)=R2
  generalize (s3.den:Rat)=R3
  clear hU hV hE hF hD hN hN0 hT hG hH hSq nx1 nx2 nx3 ny1 ny2 ny3 ns1 ns2 ns3 px1 px2 py1 py2 hf h2f ht' hh' hc hfar
  grind
 ·unfold iQ iK kB
  simp only[Rat.intCast_sub,Rat.intCast_mul,Rat.intCast_natCast,hE,hF,hU,hV]
  cases neg
  ·simp only[Bool.false_eq_true,if_false]
   simp
   grind
  ·simp only[if_true]
   simp
   grind
 ·unfold iCd iCn
  simp only[Rat.intCast_sub,Rat.intCast_mul,Rat.intCast_natCast,hN,hT,hD,ns1]
  generalize ((x1.den:Rat)*x2.den*(y1.den*y2.den))*((x1.den:Rat)*x2.den*(y1.den*y2.den))=D2
  generalize (s1.den:Rat)=R1
  generalize (s2.den:Rat)=R2
  have e:s1=far*h+far*(t*t):=by rw[hh'];grind
  have f4:((4:Int):Rat)=4:=by simp
  rw[f4,e]
  clear hU hV hE hF hD hN hN0 hT hG hH hSq nx1 nx2 nx3 ny1 ny2 ny3 ns1 ns2 ns3 px1 px2 py1 py2 hf h2f ht' hh' hc hfar
  grind
end
end Go.Eng

namespace Go.Eng
theorem qrq{a b c:Rat}(hc:0≤c):qcX a b c≤0↔(a≤0∧(b≤0∨c=0∨b*b*c≤a*a))∨(0<a∧b<0∧a*a≤b*b*c):=by
 have hs:=qgl (a*a-b*b*c)
 have hs':(0≤sgq (a*a-b*b*c))=(b*b*c≤a*a):=by
  have h1:=qyQ (a*a-b*b*c)
  have h2:=qgl (-(a*a-b*b*c))
  refine propext ⟨fun h=>?_,fun h=>?_⟩
  ·have:=h2▸(show sgq (-(a*a-b*b*c))≤0 by omega);grind
  ·have:sgq (-(a*a-b*b*c))≤0:=h2▸(show -(a*a-b*b*c)≤0 by grind)
   omega
 have bd:=qf0 (a*a-b*b*c)
 have pb:0<b→0<c→0<b*b*c:=fun h1 h2=>Rat.mul_pos (Rat.mul_pos h1 h1) h2
 have pa:0<a→0<a*a:=fun h1=>Rat.mul_pos h1 h1
 have za:a=0→a*a=0:=fun h=>by rw[h];grind
 have zc:c=0→b*b*c=0:=fun h=>by rw[h];grind
 unfold qcX
 generalize hz:sgq (a*a-b*b*c)=z at *
 rcases q6Z a with⟨ha,ea⟩|⟨ha,ea⟩|⟨ha,ea⟩<;>rcases q6Z b with⟨hb,eb⟩|⟨hb,eb⟩|⟨hb,eb⟩<;>rcases q6Z c with⟨hc',ec⟩|⟨hc',ec⟩|⟨hc',ec⟩<;>rw[ea,eb,ec]
 all_goals try (exfalso;grind)
 all_goals simp only[
  
  
  show (-1:Int)*0=0 by decide,show (-1:Int)*1=-1 by decide,show (0:Int)*0=0 by decide,show (0:Int)*1=0 by decide,show (1:Int)*0=0 by decide,show (1:Int)*1=1 by decide,Int.one_mul]
 all_goals simp
 all_goals first|(exfalso;grind)|skip
 all_goals grind
theorem qo2{a b:Rat}(h0:0≤a)(h:a≤b):a*a≤b*b:=by
 have:=Rat.mul_nonneg (show 0≤b-a by grind) (show 0≤b+a by grind)
 grind
theorem qwI{a b:Rat}(hb:0≤b)(h:a*a≤b*b):a≤b:=by
 apply Rat.not_lt.1
 intro hn
 have:=Rat.mul_pos (show 0<a-b by grind) (show 0<a+b by grind)
 grind
theorem qys{a b c T0 T1:Rat}(h0:0≤T0)(h1:T0≤T1)(k0:T0*T0≤c)(k1:c≤T1*T1)(e0:a+b*T0≤0)(e1:a+b*T1≤0):qcX a b c≤0:=by
 have hc:0≤c:=by have:=Rat.mul_nonneg h0 h0;grind
 rw[qrq hc]
 by_cases hb:b≤0
 ·by_cases ha:a≤0
  ·exact .inl ⟨ha,.inl hb⟩
  ·have hb':b<0:=by
    apply Rat.not_le.1;intro hn
    have h:b=0:=by grind
    rw[h] at e0;grind
   refine .inr ⟨by grind,hb',?_⟩
   have h1:=qo2 (a:=a) (b:=(-b)*T0) (by grind) (by grind)
   have h2:=Rat.mul_le_mul_of_nonneg_left k0 (show 0≤b*b by have:=Rat.mul_nonneg (show 0≤-b by grind) (show 0≤-b by grind);grind)
   grind
 ·have hb':0≤b:=by grind
  have h3:=Rat.mul_nonneg hb' h0
  refine .inl ⟨by grind,.inr (.inr ?_)⟩
  have h3:=Rat.mul_nonneg hb' (show 0≤T1 by grind)
  have h1:=qo2 (a:=b*T1) (b:=-a) h3 (by grind)
  have h2:=Rat.mul_le_mul_of_nonneg_left k1 (Rat.mul_nonneg hb' hb')
  grind
theorem qzI{a b c:Rat}(hc:0≤c)(h:qcX a b c≤0):∃T,0≤T∧T*T≤c∧∀S,T≤S→S*S≤c→a+b*S≤0:=by
 rw[qrq hc] at h
 by_cases hb:b<0
 ·by_cases ha:a≤0
  ·refine⟨0,by grind,by grind,fun S h1 h2=>?_⟩
   have:=Rat.mul_nonneg (show 0≤-b by grind) h1
   grind
  ·rcases h with h|⟨h1,h2,h3⟩
   ·exact absurd h.1 ha
   ·have hq:a/(-b)*(-b)=a:=Rat.div_mul_cancel (by grind)
    have hq0:0≤a/(-b):=by
     apply Rat.not_lt.1;intro hn
     have:=Rat.mul_pos (show 0 < -(a/(-b)) by grind) (show 0 < -b by grind)
     grind
    generalize a/(-b)=T at *
    refine⟨T,hq0,?_,fun S hS _=>?_⟩
    ·apply Rat.not_lt.1;intro hn
     have:=Rat.mul_pos (show 0<T*T-c by grind) (Rat.mul_pos (show 0 < -b by grind) (show 0 < -b by grind))
     have e:a*a=T*T*(b*b):=by rw[←hq];grind
     rw[e] at h3;clear e hq;grind
    ·have:=Rat.mul_nonneg (show 0≤-b by grind) (show 0≤S-T by grind)
     grind
 ·refine⟨0,by grind,by grind,fun S h1 h2=>?_⟩
  rcases h with⟨h3,h4⟩|⟨_,h5,_⟩
  ·rcases h4 with h4|h4|h4
   ·have:b=0:=by grind
    rw[this];grind
   ·have:S*S≤0:=by grind
    have h6:=qwI (a:=S) (b:=0) (by grind) (by grind)
    have:S=0:=by grind
    rw[this];grind
   ·have k1:=Rat.mul_le_mul_of_nonneg_left h2 (Rat.mul_nonneg (show 0≤b by grind) (show 0≤b by grind))
    have:=qwI (a:=b*S) (b:=-a) (by grind) (by grind)
    grind
  ·exact absurd h5 hb
def pw(d:DQ)(x y:Rat):Rat:=(x-d.x)*(x-d.x)+(y-d.y)*(y-d.y)-d.s
def quD(l:List DQ):Prop:=∃x y:Rat,∀d∈l,pw d x y≤0
theorem quD.mono{l l':List DQ}(h:quD l)(hs:∀d∈l',d∈l):quD l':=by
 obtain⟨x,y,h⟩:=h
 exact⟨x,y,fun d hd=>h d (hs d hd)⟩
theorem qyt(d:DQ)(p:SQ)(T:Rat):pw d (p.fx+T*p.ax) (p.fy+T*p.ay)=kA d p+kB d p*T+(p.ax*p.ax+p.ay*p.ay)*(T*T-p.h):=by
 unfold pw kA kB;grind
theorem qkl(a:Rat):0≤a*a:=by
 rcases Rat.le_total (a:=0) (b:=a) with h|h
 ·exact Rat.mul_nonneg h h
 ·have:=Rat.mul_nonneg (show 0≤-a by grind) (show 0≤-a by grind);grind
theorem qqX(p:SQ)(hn:0≤p.h):∀l:List DQ,(∀d∈l,jY d p)→∃T,0≤T∧T*T≤p.h∧∀d∈l,∀S,T≤S→S*S≤p.h→kA d p+kB d p*S≤0
 | [],_=>⟨0,by grind,by grind,fun d hd=>by cases hd⟩
 | a::l,h=>by
  obtain⟨T,h1,h2,h3⟩:=qqX p hn l fun d hd=>h d (List.mem_cons_of_mem _ hd)
  obtain⟨T',k1,k2,k3⟩:=qzI hn (h a List.mem_cons_self)
  rcases Rat.le_total (a:=T) (b:=T') with hT|hT
  ·refine⟨T',k1,k2,fun d hd S hS hS2=>?_⟩
   rcases List.mem_cons.1 hd with rfl|hd
   ·exact k3 S hS hS2
   ·exact h3 d hd S (Rat.le_trans hT hS) hS2
  ·refine⟨T,h1,h2,fun d hd S hS hS2=>?_⟩
   rcases List.mem_cons.1 hd with rfl|hd
   ·exact k3 S (Rat.le_trans hT hS) hS2
   ·exact h3 d hd S hS hS2
theorem qsD{l:List DQ}{p:SQ}(hn:0≤p.h)(h:∀d∈l,jY d p):quD l:=by
 obtain⟨T,h1,h2,h3⟩:=qqX p hn l h
 refine⟨p.fx+T*p.ax,p.fy+T*p.ay,fun d hd=>?_⟩
 rw[qyt]
 have k1:=h3 d hd T (Rat.le_refl) h2
 have k2:=Rat.mul_nonneg (show 0≤p.ax*p.ax+p.ay*p.ay by have:=qkl p.ax;have:=qkl p.ay;grind) (show 0≤p.h-T*T by grind)
 grind
def qEl(x1 y1 x2 y2 x3 y3:Rat):Rat:=(x2-x1)*(y3-y1)-(x3-x1)*(y2-y1)
end Go.Eng

namespace Go.Eng
theorem qu2{ι:Type}(f:ι→Rat):∀(L:List ι),L≠[]→∃a∈L,∀k∈L,f k≤f a
 | [],h=>absurd rfl h
 | [a],_=>⟨a,by simp,fun k hk=>by simp at hk;rw[hk];exact Rat.le_refl⟩
 | a::b::r,_=>by
  obtain⟨m,hm,h⟩:=qu2 f (b::r) (by simp)
  rcases Rat.le_total (a:=f a) (b:=f m) with hle|hle
  ·refine⟨m,List.mem_cons_of_mem _ hm,fun k hk=>?_⟩
   rcases List.mem_cons.1 hk with rfl|hk
   ·exact hle
   ·exact h k hk
  ·refine⟨a,List.mem_cons_self,fun k hk=>?_⟩
   rcases List.mem_cons.1 hk with rfl|hk
   ·exact Rat.le_refl
   ·exact Rat.le_trans (h k hk) hle
theorem hit{ι:Type}(al be:ι→Rat):∀(L:List ι),(∀k∈L,al k≤0)→(∃k∈L,0<be k)→∃t,0≤t∧(∀k∈L,al k+be k*t≤0)∧∃b∈L,0<be b∧al b+be b*t=0
 | [],_,h=>by obtain⟨k,hk,_⟩:=h;cases hk
 | a::L,h0,h1=>by
  have hLn:∀k∈L,al k≤0:=fun k hk=>h0 k (List.mem_cons_of_mem _ hk)
  have ha0:=h0 a List.mem_cons_self
  by_cases ha:0<be a
  ·obtain⟨ta,hta⟩:∃ta,ta=-al a/be a:=⟨_,rfl⟩
   have eta:ta*be a=-al a:=by rw[hta];exact Rat.div_mul_cancel (by grind)
   have ta0:0≤ta:=by
    apply Rat.not_lt.1;intro hn
    have:=Rat.mul_pos (show 0 < -ta by grind) ha
    grind
   have own:al a+be a*ta=0:=by grind
   by_cases hL:∃k∈L,0<be k
   ·obtain⟨t,k1,k2,b,hb,k3,k4⟩:=hit al be L hLn hL
    rcases Rat.le_total (a:=t) (b:=ta) with hle|hle
    ·refine⟨t,k1,fun k hk=>?_,b,List.mem_cons_of_mem _ hb,k3,k4⟩
     rcases List.mem_cons.1 hk with rfl|hk
     ·have:=Rat.mul_nonneg (show 0≤be k by grind) (show 0≤ta-t by grind);grind
     ·exact k2 k hk
    ·refine⟨ta,ta0,fun k hk=>?_,a,List.mem_cons_self,ha,own⟩
     rcases List.mem_cons.1 hk with rfl|hk
     ·grind
     ·rcases Rat.le_total (a:=0) (b:=be k) with hb|hb
      ·have:=Rat.mul_nonneg hb (show 0≤t-ta by grind);have:=k2 k hk;grind
      ·have:=Rat.mul_nonneg (show 0≤-be k by grind) ta0;have:=hLn k hk;grind
   ·refine⟨ta,ta0,fun k hk=>?_,a,List.mem_cons_self,ha,own⟩
    rcases List.mem_cons.1 hk with rfl|hk
    ·grind
    ·have hb:be k≤0:=Rat.not_lt.1 fun hn=>hL ⟨k,hk,hn⟩
     have:=Rat.mul_nonneg (show 0≤-be k by grind) ta0;have:=hLn k hk;grind
  ·have hL:∃k∈L,0<be k:=by
    obtain⟨k,hk,h⟩:=h1
    rcases List.mem_cons.1 hk with rfl|hk
    ·exact absurd h ha
    ·exact⟨k,hk,h⟩
   obtain⟨t,k1,k2,b,hb,k3,k4⟩:=hit al be L hLn hL
   refine⟨t,k1,fun k hk=>?_,b,List.mem_cons_of_mem _ hb,k3,k4⟩
   rcases List.mem_cons.1 hk with rfl|hk
   ·have:=Rat.mul_nonneg (show 0≤-be k by grind) k1;grind
   ·exact k2 k hk
theorem qsu{a:Rat}(h:a*a≤0):a=0:=by
 have:=qkl a
 rcases Rat.mul_eq_zero.1 (show a*a=0 by grind) with h|h<;>exact h
theorem qmP{a b c d:Rat}(h:uF a b c d=0):a=c∧b=d:=by
 unfold uF at h
 have s1:=qkl (a-c)
 have s2:=qkl (b-d)
 have:=qsu (a:=a-c) (by grind)
 have:=qsu (a:=b-d) (by grind)
 exact⟨by grind,by grind⟩
theorem qzq(a b c d:Rat):0≤uF a b c d:=by
 unfold uF
 have s1:=qkl (a-c)
 have s2:=qkl (b-d)
 grind
theorem qCW{l:List DQ}{x y:Rat}(hl:l≠[])(hs:∀d∈l,0≤d.s)(h:∀d∈l,pw d x y≤0) :
  (∃a∈l,∀d∈l,pw d a.x a.y≤0)∨∃a∈l,∃b∈l,∃X Y,uF b.x b.y a.x a.y≠0∧pw b X Y=pw a X Y∧(∀d∈l,pw d X Y≤pw a X Y)∧pw a X Y≤0:=by
 obtain⟨a,ha,hmax⟩:=qu2 (fun d=>pw d x y) l hl
 by_cases hc:∀d∈l,pw d a.x a.y≤0
 ·exact .inl ⟨a,ha,hc⟩
 ·have hex:∃k∈l,0<pw k a.x a.y:=by
   by_cases hn:∃k∈l,0<pw k a.x a.y
   ·exact hn
   ·exact absurd (fun d hd=>Rat.not_lt.1 fun h0=>hn ⟨d,hd,h0⟩) hc
  obtain⟨k0,hk0,hp⟩:=hex
  have hsa:=hs a ha
  have paa:pw a a.x a.y=-a.s:=by unfold pw;grind
  obtain⟨al,hal⟩:∃al:DQ→Rat,al=fun k=>pw k x y-pw a x y:=⟨_,rfl⟩
  obtain⟨be,hbe⟩:∃be:DQ→Rat,be=fun k=>pw k a.x a.y-pw a a.x a.y-(pw k x y-pw a x y):=⟨_,rfl⟩
  have al0:∀k∈l,al k≤0:=fun k hk=>by rw[hal];have:=hmax k hk;simp only at this ⊢;grind
  have be0:al k0+be k0>0:=by rw[hal,hbe];simp only;grind
  obtain⟨t,t0,ht,b,hb,hb1,hb2⟩:=hit al be l al0 ⟨k0,hk0,by have:=al0 k0 hk0;grind⟩
  have line:∀k,pw k (x+t*(a.x-x)) (y+t*(a.y-y))-pw a (x+t*(a.x-x)) (y+t*(a.y-y))=al k+be k*t:=fun k=>by
   rw[hal,hbe];simp only;unfold pw;grind
  have t1:t≤1:=by
   apply Rat.not_lt.1;intro hn
   have h1:=ht k0 hk0
   have h2:=al0 k0 hk0
   have:=Rat.mul_pos (show 0<be k0 by grind) (show 0<t-1 by grind)
   grind
  refine .inr ⟨a,ha,b,hb,x+t*(a.x-x),y+t*(a.y-y),fun hf=>?_,?_,fun d hd=>?_,?_⟩
  ·obtain⟨e1,e2⟩:=qmP hf
   have:be b=0:=by rw[hbe];simp only;unfold pw;rw[e1,e2];grind
   grind
  ·have:=line b;grind
  ·have:=line d;have:=ht d hd;grind
  ·have h1:=h a ha
   have e:pw a (x+t*(a.x-x)) (y+t*(a.y-y))=(1-t)*(1-t)*((x-a.x)*(x-a.x)+(y-a.y)*(y-a.y))-a.s:=by unfold pw;grind
   have q:0≤(x-a.x)*(x-a.x)+(y-a.y)*(y-a.y):=by have:=qkl (x-a.x);have:=qkl (y-a.y);grind
   have m:=qo2 (a:=1-t) (b:=1) (by grind) (by grind)
   have:=Rat.mul_nonneg (show 0≤1-(1-t)*(1-t) by grind) q
   rw[e]
   have:pw a x y=(x-a.x)*(x-a.x)+(y-a.y)*(y-a.y)-a.s:=rfl
   grind
theorem qmU{a b:DQ}(neg:Bool)(hf:uF b.x b.y a.x a.y≠0) :
  (ql a b neg).ax*(ql a b neg).ax+(ql a b neg).ay*(ql a b neg).ay=uF b.x b.y a.x a.y ∧
  (ql a b neg).ax*(b.x-a.x)+(ql a b neg).ay*(b.y-a.y)=0 ∧
  (ql a b neg).ax*((ql a b neg).fx-a.x)+(ql a b neg).ay*((ql a b neg).fy-a.y)=0 ∧
  2*(((ql a b neg).fx-a.x)*(b.x-a.x)+((ql a b neg).fy-a.y)*(b.y-a.y))=uF b.x b.y a.x a.y+a.s-b.s ∧
  kA a (ql a b neg)=0∧kB a (ql a b neg)=0∧kA b (ql a b neg)=0∧kB b (ql a b neg)=0:=by
 obtain⟨far,hfar⟩:∃far,far=uF b.x b.y a.x a.y:=⟨_,rfl⟩
 obtain⟨t,ht⟩:∃t,t=(far+a.s-b.s)/(2*far):=⟨_,rfl⟩
 obtain⟨h,hh⟩:∃h,h=a.s/far-t*t:=⟨_,rfl⟩
 rw[←hfar] at hf
 have h2f:2*far≠0:=by grind
 have ht':2*far*t=far+a.s-b.s:=by
  rw[ht,Rat.mul_comm];exact Rat.div_mul_cancel h2f
 have hh':far*h=a.s-far*(t*t):=by
  have:a.s/far*far=a.s:=Rat.div_mul_cancel hf
  rw[hh];grind
 have hc:ql a b neg=⟨a.x+t*(b.x-a.x),a.y+t*(b.y-a.y),if neg then b.y-a.y else 0-(b.y-a.y),if neg then 0-(b.x-a.x) else b.x-a.x,h⟩:=by
  rw[hh,ht,hfar];rfl
 have hfar':far=(b.x-a.x)*(b.x-a.x)+(b.y-a.y)*(b.y-a.y):=hfar
 rw[hc,←hfar]
 unfold kA kB
 clear hc hfar ht hh
 cases neg
 ·simp only[Bool.false_eq_true,if_false]
  refine⟨by grind,by grind,by grind,by grind,by grind,by grind,by grind,by grind⟩
 ·simp only[if_true]
  refine⟨by grind,by grind,by grind,by grind,by grind,by grind,by grind,by grind⟩
theorem qqN(a b:DQ):(ql a b true).ax=-(ql a b false).ax∧(ql a b true).ay=-(ql a b false).ay:=by
 unfold ql
 simp only[Bool.false_eq_true,if_false,if_true]
 exact⟨by grind,by grind⟩
theorem qtv{l:List DQ}{a b:DQ}{x y:Rat}(neg:Bool)(hf:uF b.x b.y a.x a.y≠0)(hab:pw b x y=pw a x y)(hm:∀d∈l,pw d x y≤pw a x y)(h0:pw a x y≤0)
  (hv:0≤(ql a b neg).ax*(x-a.x)+(ql a b neg).ay*(y-a.y)) :
  (0≤(ql a b neg).h∧∀d∈l,jY d (ql a b neg)) ∨
  ∃t k,0≤t∧k∈l∧(ql a b neg).ax*(k.x-a.x)+(ql a b neg).ay*(k.y-a.y)<0∧pw k (x+t*(ql a b neg).ax) (y+t*(ql a b neg).ay)=pw a (x+t*(ql a b neg).ax) (y+t*(ql a b neg).ay) ∧
   pw b (x+t*(ql a b neg).ax) (y+t*(ql a b neg).ay)=pw a (x+t*(ql a b neg).ax) (y+t*(ql a b neg).ay)∧(∀d∈l,pw d (x+t*(ql a b neg).ax) (y+t*(ql a b neg).ay)≤pw a (x+t*(ql a b neg).ax) (y+t*(ql a b neg).ay)) ∧
   pw a (x+t*(ql a b neg).ax) (y+t*(ql a b neg).ay)≤0:=by
 obtain⟨f1,f2,f3,f4,f5,f6,f7,f8⟩:=qmU neg hf
 have hpos:0<uF b.x b.y a.x a.y:=by have:=qzq b.x b.y a.x a.y;grind
 have hfd:uF b.x b.y a.x a.y=(b.x-a.x)*(b.x-a.x)+(b.y-a.y)*(b.y-a.y):=rfl
 have hax:(ql a b neg).ax=if neg then b.y-a.y else 0-(b.y-a.y):=rfl
 have hay:(ql a b neg).ay=if neg then 0-(b.x-a.x) else b.x-a.x:=rfl
 generalize ql a b neg=p at *
 generalize uF b.x b.y a.x a.y=far at *
 obtain⟨T0,hT0⟩:∃T0,T0=(p.ax*(x-p.fx)+p.ay*(y-p.fy))/far:=⟨_,rfl⟩
 have eT0:T0*far=p.ax*(x-p.fx)+p.ay*(y-p.fy):=by rw[hT0];exact Rat.div_mul_cancel hf
 have hp:(x-p.fx)*(b.x-a.x)+(y-p.fy)*(b.y-a.y)=0:=by
  unfold pw at hab;grind
 have cancel:∀z:Rat,z*far=0→z=0:=fun z hz=>by
  rcases Rat.mul_eq_zero.1 hz with h|h
  ·exact h
  ·exact absurd h hf
 have ex:x=p.fx+T0*p.ax:=by
  have:x-p.fx-T0*p.ax=0:=cancel _ (by
   have e:(x-p.fx-T0*p.ax)*far=(x-p.fx)*far-p.ax*(T0*far):=by grind
   rw[e,eT0,hfd]
   cases neg
   ·simp only[Bool.false_eq_true,if_false] at hax hay;rw[hax,hay];clear hax hay eT0 hT0 f1 f2 f3 f4 f5 f6 f7 f8 hv hab;grind
   ·simp only[if_true] at hax hay;rw[hax,hay];clear hax hay eT0 hT0 f1 f2 f3 f4 f5 f6 f7 f8 hv hab;grind)
  grind
 have ey:y=p.fy+T0*p.ay:=by
  have:y-p.fy-T0*p.ay=0:=cancel _ (by
   have e:(y-p.fy-T0*p.ay)*far=(y-p.fy)*far-p.ay*(T0*far):=by grind
   rw[e,eT0,hfd]
   cases neg
   ·simp only[Bool.false_eq_true,if_false] at hax hay;rw[hax,hay];clear hax hay eT0 hT0 f1 f2 f3 f4 f5 f6 f7 f8 hv hab ex;grind
   ·simp only[if_true] at hax hay;rw[hax,hay];clear hax hay eT0 hT0 f1 f2 f3 f4 f5 f6 f7 f8 hv hab ex;grind)
  grind
 have T0n:0≤T0:=by
  apply Rat.not_lt.1;intro hn
  have:=Rat.mul_pos (show 0 < -T0 by grind) hpos
  grind
 have line:∀d T,pw d (p.fx+T*p.ax) (p.fy+T*p.ay)=kA d p+kB d p*T+far*(T*T-p.h):=fun d T=>by rw[qyt,f1]
 have lineA:∀T,pw a (p.fx+T*p.ax) (p.fy+T*p.ay)=far*(T*T-p.h):=fun T=>by rw[line,f5,f6];grind
 have lineB:∀T,pw b (p.fx+T*p.ax) (p.fy+T*p.ay)=far*(T*T-p.h):=fun T=>by rw[line,f7,f8];grind
 have at0:∀d∈l,kA d p+kB d p*T0≤0:=fun d hd=>by
  have:=hm d hd
  rw[ex,ey,line,lineA] at this
  grind
 have hT:T0*T0≤p.h:=by
  rw[ex,ey,lineA] at h0
  apply Rat.not_lt.1;intro hn
  have:=Rat.mul_pos hpos (show 0<T0*T0-p.h by grind)
  grind
 have hn:0≤p.h:=by have:=qkl T0;grind
 have kb:∀d:DQ,kB d p=-(2*(p.ax*(d.x-a.x)+p.ay*(d.y-a.y))):=fun d=>by unfold kB;grind
 have all:∀T1,T0≤T1→p.h≤T1*T1→(∀d∈l,kA d p+kB d p*T1≤0)→0≤p.h∧∀d∈l,jY d p:=fun T1 h1 h2 h3=>
  ⟨hn,fun d hd=>qys T0n h1 hT h2 (at0 d hd) (h3 d hd)⟩
 by_cases hk:∃k∈l,0<kB k p
 ·obtain⟨t,t0,ht,k,hk,hk1,hk2⟩:=hit (fun d=>kA d p+kB d p*T0) (fun d=>kB d p) l at0 hk
  by_cases hle:(T0+t)*(T0+t)≤p.h
  ·have eX:x+t*p.ax=p.fx+(T0+t)*p.ax:=by grind
   have eY:y+t*p.ay=p.fy+(T0+t)*p.ay:=by grind
   refine .inr ⟨t,k,t0,hk,?_,?_,?_,fun d hd=>?_,?_⟩
   ·rw[kb] at hk1;grind
   ·rw[eX,eY,line,lineA];grind
   ·rw[eX,eY,lineA,lineB]
   ·rw[eX,eY,line,lineA];have:=ht d hd;grind
   ·rw[eX,eY,lineA]
    have:=Rat.mul_nonneg (show 0≤far by grind) (show 0≤p.h-(T0+t)*(T0+t) by grind);grind
  ·exact .inl (all (T0+t) (by grind) (by grind) fun d hd=>by have:=ht d hd;grind)
 ·refine .inl (all (T0+p.h+1) (by grind) ?_ fun d hd=>?_)
  ·have:=qo2 (a:=p.h+1) (b:=T0+p.h+1) (by grind) (by grind)
   have:=Rat.mul_nonneg hn hn
   grind
  ·have h1:kB d p≤0:=Rat.not_lt.1 fun h=>hk ⟨d,hd,h⟩
   have:=Rat.mul_nonneg (show 0≤-kB d p by grind) (show 0≤p.h+1 by grind)
   have:=at0 d hd
   grind
def Vx(l:List DQ)(x y:Rat)(t:DQ×DQ×DQ):Prop:=
 qEl t.1.x t.1.y t.2.1.x t.2.1.y t.2.2.x t.2.2.y≠0∧pw t.2.1 x y=pw t.1 x y∧pw t.2.2 x y=pw t.1 x y∧(∀d∈l,pw d x y≤pw t.1 x y)∧pw t.1 x y≤0
theorem qCo{l:List DQ}{x y x' y':Rat}{t:DQ×DQ×DQ}(h:Vx l x y t)(h':Vx l x' y' t):x=x'∧y=y':=by
 obtain⟨a,b,c⟩:=t
 obtain⟨hA,h1,h2,-,-⟩:=h
 obtain⟨-,h1',h2',-,-⟩:=h'
 unfold pw qEl at *
 simp only at *
 have e1:(x-x')*(b.x-a.x)+(y-y')*(b.y-a.y)=0:=by grind
 have e2:(x-x')*(c.x-a.x)+(y-y')*(c.y-a.y)=0:=by grind
 generalize b.x-a.x=p at *
 generalize b.y-a.y=q at *
 generalize c.x-a.x=r at *
 generalize c.y-a.y=s at *
 have k1:(x-x')*(p*s-r*q)=0:=by clear h1 h2 h1' h2' hA;grind
 have k2:(y-y')*(p*s-r*q)=0:=by clear h1 h2 h1' h2' hA;grind
 constructor
 ·rcases Rat.mul_eq_zero.1 k1 with h|h
  ·grind
  ·exact absurd h hA
 ·rcases Rat.mul_eq_zero.1 k2 with h|h
  ·grind
  ·exact absurd h hA
theorem qzM(l:List DQ):∀L:List (DQ×DQ×DQ),(∃t∈L,∃x y,Vx l x y t)→∃t∈L,∃x y,Vx l x y t∧∀t'∈L,∀x' y',Vx l x' y' t'→pw t'.1 x' y'≤pw t.1 x y
 | [],h=>by obtain⟨t,ht,_⟩:=h;cases ht
 | s::L,h=>by
  by_cases hs:∃x y,Vx l x y s
  ·obtain⟨x,y,hs⟩:=hs
   have own:∀x' y',Vx l x' y' s→pw s.1 x' y'≤pw s.1 x y:=fun x' y' h'=>by
    obtain⟨rfl,rfl⟩:=qCo h' hs;exact Rat.le_refl
   by_cases hL:∃t∈L,∃x y,Vx l x y t
   ·obtain⟨t,ht,u,v,hv,hmax⟩:=qzM l L hL
    rcases Rat.le_total (a:=pw s.1 x y) (b:=pw t.1 u v) with hle|hle
    ·refine⟨t,List.mem_cons_of_mem _ ht,u,v,hv,fun t' ht' x' y' h'=>?_⟩
     rcases List.mem_cons.1 ht' with rfl|ht'
     ·exact Rat.le_trans (own x' y' h') hle
     ·exact hmax t' ht' x' y' h'
    ·refine⟨s,List.mem_cons_self,x,y,hs,fun t' ht' x' y' h'=>?_⟩
     rcases List.mem_cons.1 ht' with rfl|ht'
     ·exact own x' y' h'
     ·exact Rat.le_trans (hmax t' ht' x' y' h') hle
   ·refine⟨s,List.mem_cons_self,x,y,hs,fun t' ht' x' y' h'=>?_⟩
    rcases List.mem_cons.1 ht' with rfl|ht'
    ·exact own x' y' h'
    ·exact absurd ⟨t',ht',x',y',h'⟩ hL
  ·have hL:∃t∈L,∃x y,Vx l x y t:=by
    obtain⟨t,ht,h⟩:=h
    rcases List.mem_cons.1 ht with rfl|ht
    ·exact absurd h hs
    ·exact⟨t,ht,h⟩
   obtain⟨t,ht,u,v,hv,hmax⟩:=qzM l L hL
   refine⟨t,List.mem_cons_of_mem _ ht,u,v,hv,fun t' ht' x' y' h'=>?_⟩
   rcases List.mem_cons.1 ht' with rfl|ht'
   ·exact absurd ⟨x',y',h'⟩ hs
   ·exact hmax t' ht' x' y' h'
theorem qzX{l:List DQ}{x y:Rat}{t:DQ×DQ×DQ}(ht:t.1∈l∧t.2.1∈l∧t.2.2∈l)(hv:Vx l x y t) :
  ∃a∈l,∃b∈l,∃neg,uF b.x b.y a.x a.y≠0∧pw a x y=pw t.1 x y∧pw b x y=pw a x y∧0≤(ql a b neg).ax*(x-a.x)+(ql a b neg).ay*(y-a.y) ∧
   ∀k∈l,pw k x y=pw a x y→0≤(ql a b neg).ax*(k.x-a.x)+(ql a b neg).ay*(k.y-a.y):=by
 obtain⟨a0,b0,c0⟩:=t
 obtain⟨hA,h1,h2,h3,h4⟩:=hv
 simp only at *
 obtain⟨I,hI⟩:∃I,I=l.filter fun k=>decide (pw k x y=pw a0 x y):=⟨_,rfl⟩
 have memI:∀k,k∈I↔k∈l∧pw k x y=pw a0 x y:=fun k=>by rw[hI];simp
 have ia:a0∈I:=(memI _).2 ⟨ht.1,rfl⟩
 have ib:b0∈I:=(memI _).2 ⟨ht.2.1,h1⟩
 have ic:c0∈I:=(memI _).2 ⟨ht.2.2,h2⟩
 obtain⟨a,haI,hmax⟩:=qu2 (fun k:DQ=>uF k.x k.y x y) I (by intro h;rw[h] at ia;cases ia)
 obtain⟨hal,hap⟩:=(memI a).1 haI
 obtain⟨D,hD⟩:∃D:DQ→Rat,D=fun k=>(x-a.x)*(k.x-a.x)+(y-a.y)*(k.y-a.y):=⟨_,rfl⟩
 obtain⟨X,hX⟩:∃X:DQ→Rat,X=fun k=>(x-a.x)*(k.y-a.y)-(y-a.y)*(k.x-a.x):=⟨_,rfl⟩
 obtain⟨J,hJ⟩:∃J,J=I.filter fun k=>decide (uF k.x k.y a.x a.y≠0):=⟨_,rfl⟩
 have memJ:∀k,k∈J↔k∈I∧uF k.x k.y a.x a.y≠0:=fun k=>by rw[hJ];simp
 have hDp:∀k∈J,0<D k:=fun k hk=>by
  obtain⟨hk1,hk2⟩:=(memJ k).1 hk
  have e1:=hmax k hk1
  have e2:=qzq k.x k.y a.x a.y
  rw[hD]
  simp only at e1 ⊢
  unfold uF at e1 e2 hk2
  grind
 have hJn:J≠[]:=by
  intro hJ0
  have all:∀k∈I,k.x=a.x∧k.y=a.y:=fun k hk=>by
   by_cases hz:uF k.x k.y a.x a.y=0
   ·exact qmP hz
   ·have:=(memJ k).2 ⟨hk,hz⟩
    rw[hJ0] at this;cases this
  obtain⟨p1,q1⟩:=all a0 ia
  obtain⟨p2,q2⟩:=all b0 ib
  obtain⟨p3,q3⟩:=all c0 ic
  apply hA
  unfold qEl
  rw[p1,p2,p3,q1,q2,q3];grind
 have slope:∀k b:DQ,0<D k→0<D b→X k/D k≤X b/D b→X k*D b≤X b*D k:=fun k b k0 b0 h=>by
  have e1:X k/D k*D k=X k:=Rat.div_mul_cancel (by grind)
  have e2:X b/D b*D b=X b:=Rat.div_mul_cancel (by grind)
  generalize X k/D k=u at *
  generalize X b/D b=v at *
  have:=Rat.mul_nonneg (show 0≤v-u by grind) (Rat.mul_nonneg (show 0≤D k by grind) (show 0≤D b by grind))
  rw[←e1,←e2];grind
 have lag:∀k b:DQ,((x-a.x)*(x-a.x)+(y-a.y)*(y-a.y))*((k.x-a.x)*(b.y-a.y)-(k.y-a.y)*(b.x-a.x))=D k*X b-X k*D b:=fun k b=>by
  rw[hD,hX];simp only;grind
 have upos:∀b,0<D b→0<(x-a.x)*(x-a.x)+(y-a.y)*(y-a.y):=fun b hb=>by
  apply Rat.not_le.1;intro hn
  have s1:=qkl (x-a.x)
  have s2:=qkl (y-a.y)
  have z1:=qsu (a:=x-a.x) (by grind)
  have z2:=qsu (a:=y-a.y) (by grind)
  rw[hD] at hb;simp only at hb;rw[z1,z2] at hb;grind
 obtain⟨b,hb,hbm⟩:=qu2 (fun k=>X k/D k) J hJn
 have hbD:=hDp b hb
 obtain⟨hbI,hbf⟩:=(memJ b).1 hb
 obtain⟨hbl,hbp⟩:=(memI b).1 hbI
 have onI:∀k∈l,pw k x y=pw a x y→k∈I:=fun k hk e=>(memI k).2 ⟨hk,by rw[e,hap]⟩
 by_cases hXb:0≤X b
 ·refine⟨a,hal,b,hbl,true,hbf,hap,by rw[hbp,hap],?_,fun k hk hkp=>?_⟩
  ·have e:(ql a b true).ax*(x-a.x)+(ql a b true).ay*(y-a.y)=X b:=by
    rw[hX];unfold ql;simp only[if_true];grind
   rw[e];exact hXb
  ·have e:(ql a b true).ax*(k.x-a.x)+(ql a b true).ay*(k.y-a.y)=(k.x-a.x)*(b.y-a.y)-(k.y-a.y)*(b.x-a.x):=by
    unfold ql;simp only[if_true];grind
   rw[e]
   by_cases hz:uF k.x k.y a.x a.y=0
   ·obtain⟨z1,z2⟩:=qmP hz
    rw[z1,z2];grind
   ·have hkJ:=(memJ k).2 ⟨onI k hk hkp,hz⟩
    have s:=slope k b (hDp k hkJ) hbD (hbm k hkJ)
    have g:=lag k b
    apply Rat.not_lt.1;intro hn
    have:=Rat.mul_pos (upos b hbD) (show 0 < -((k.x-a.x)*(b.y-a.y)-(k.y-a.y)*(b.x-a.x)) by grind)
    grind
 ·obtain⟨c,hc,hcm⟩:=qu2 (fun k=>-(X k/D k)) J hJn
  have hcD:=hDp c hc
  obtain⟨hcI,hcf⟩:=(memJ c).1 hc
  obtain⟨hcl,hcp⟩:=(memI c).1 hcI
  have hXc:X c<0:=by
   have s:=slope c b hcD hbD (hbm c hc)
   apply Rat.not_le.1;intro hn
   have m1:=Rat.mul_nonneg hn (show 0≤D b by grind)
   have m2:=Rat.mul_pos (show 0 < -X b by grind) hcD
   grind
  refine⟨a,hal,c,hcl,false,hcf,hap,by rw[hcp,hap],?_,fun k hk hkp=>?_⟩
  ·have e:(ql a c false).ax*(x-a.x)+(ql a c false).ay*(y-a.y)=-X c:=by
    rw[hX];unfold ql;simp only[Bool.false_eq_true,if_false];grind
   rw[e];grind
  ·have e:(ql a c false).ax*(k.x-a.x)+(ql a c false).ay*(k.y-a.y)=-((k.x-a.x)*(c.y-a.y)-(k.y-a.y)*(c.x-a.x)):=by
    unfold ql;simp only[Bool.false_eq_true,if_false];grind
   rw[e]
   by_cases hz:uF k.x k.y a.x a.y=0
   ·obtain⟨z1,z2⟩:=qmP hz
    rw[z1,z2];grind
   ·have hkJ:=(memJ k).2 ⟨onI k hk hkp,hz⟩
    have hle:=hcm k hkJ
    have s:=slope c k hcD (hDp k hkJ) (by grind)
    have g:=lag k c
    apply Rat.not_lt.1;intro hn
    have:=Rat.mul_pos (upos c hcD) (show 0<(k.x-a.x)*(c.y-a.y)-(k.y-a.y)*(c.x-a.x) by grind)
    grind
theorem qBQ{l:List DQ}(hl:l≠[])(hs:∀d∈l,0≤d.s)(hm:quD l) :
  (∃a∈l,∀d∈l,pw d a.x a.y≤0)∨∃a∈l,∃b∈l,∃neg,uF b.x b.y a.x a.y≠0∧0≤(ql a b neg).h∧∀d∈l,jY d (ql a b neg):=by
 obtain⟨x,y,hxy⟩:=hm
 rcases qCW hl hs hxy with h|⟨a,ha,b,hb,X,Y,hf,hab,hmx,h0⟩
 ·exact .inl h
 ·right
  have vtx:∀{a b k:DQ} {neg:Bool} {X Y:Rat},(ql a b neg).ax*(k.x-a.x)+(ql a b neg).ay*(k.y-a.y)<0→pw k X Y=pw a X Y→pw b X Y=pw a X Y→(∀d∈l,pw d X Y≤pw a X Y)→pw a X Y≤0→Vx l X Y (a,b,k):=by
   intro a b k neg X Y h1 h2 h3 h4 h5
   refine⟨fun hA=>?_,h3,h2,h4,h5⟩
   unfold qEl at hA
   simp only at hA
   unfold ql at h1
   cases neg
   ·simp only[Bool.false_eq_true,if_false] at h1;grind
   ·simp only[if_true] at h1;grind
  have hneg:∃neg,0≤(ql a b neg).ax*(X-a.x)+(ql a b neg).ay*(Y-a.y):=by
   obtain⟨e1,e2⟩:=qqN a b
   rcases Rat.le_total (a:=0) (b:=(ql a b false).ax*(X-a.x)+(ql a b false).ay*(Y-a.y)) with h|h
   ·exact⟨false,h⟩
   ·exact⟨true,by rw[e1,e2];grind⟩
  obtain⟨neg,hv⟩:=hneg
  rcases qtv neg hf hab hmx h0 hv with⟨h1,h2⟩|⟨t,k,t0,hk,k1,k2,k3,k4,k5⟩
  ·exact⟨a,ha,b,hb,neg,hf,h1,h2⟩
  ·obtain⟨L,hL⟩:∃L,L=l.flatMap fun a=>l.flatMap fun b=>l.map fun c=>(a,b,c):=⟨_,rfl⟩
   have memL:∀t:DQ×DQ×DQ,t∈L↔t.1∈l∧t.2.1∈l∧t.2.2∈l:=fun t=>by
    obtain⟨a,b,c⟩:=t
    rw[hL];simp only[List.mem_flatMap,List.mem_map,Prod.mk.injEq]
    exact⟨fun⟨a',h1,b',h2,c',h3,e1,e2,e3⟩=>⟨e1▸h1,e2▸h2,e3▸h3⟩,fun⟨h1,h2,h3⟩=>⟨a,h1,b,h2,c,h3,rfl,rfl,rfl⟩⟩
   obtain⟨s,hs,u,v,hV,hmax⟩:=qzM l L ⟨(a,b,k),(memL _).2 ⟨ha,hb,hk⟩,_,_,vtx k1 k2 k3 k4 k5⟩
   obtain⟨a',ha',b',hb',neg',hf',hp',hab',hv',hact⟩:=qzX ((memL s).1 hs) hV
   rcases qtv neg' hf' hab' (fun d hd=>by rw[hp'];exact hV.2.2.2.1 d hd) (by rw[hp'];exact hV.2.2.2.2) hv' with⟨h1,h2⟩|⟨t,k,t0,hk,k1,k2,k3,k4,k5⟩
   ·exact⟨a',ha',b',hb',neg',hf',h1,h2⟩
   ·exfalso
    have hm':=hmax (a',b',k) ((memL _).2 ⟨ha',hb',hk⟩) _ _ (vtx k1 k2 k3 k4 k5)
    simp only at hm'
    rw[←hp'] at hm'
    obtain⟨f1,-⟩:=qmU neg' hf'
    have hpos:0<uF b'.x b'.y a'.x a'.y:=by have:=qzq b'.x b'.y a'.x a'.y;grind
    generalize ql a' b' neg'=p at *
    have t1:0<t:=by
     apply Rat.not_le.1;intro hn
     have:t=0:=by grind
     rw[this] at k2
     have e1:u+0*p.ax=u:=by grind
     have e2:v+0*p.ay=v:=by grind
     rw[e1,e2] at k2
     have:=hact k hk k2
     grind
    have e:pw a' (u+t*p.ax) (v+t*p.ay)=pw a' u v+2*(t*(p.ax*(u-a'.x)+p.ay*(v-a'.y)))+t*t*(p.ax*p.ax+p.ay*p.ay):=by unfold pw;grind
    rw[e,f1] at hm'
    have m1:=Rat.mul_nonneg t0 hv'
    have m2:=Rat.mul_pos (Rat.mul_pos t1 t1) hpos
    grind
end Go.Eng

namespace Go.Eng
def cls(q:Rat):Prop:=(qn q≤12∧q.den=1)∨(qn q≤10∧qd q≤10)
def qDo(q:Rat):Prop:=qn q≤13∧qd q≤10
structure GD (d:DQ):Prop where
 x:cls d.x
 y:cls d.y
 s:qDo d.s
 nn:0≤d.s
theorem Bd.of_nl{m:Int}{k:Nat}(h:nl m≤k):Bd 1 k m:=by
 unfold Bd
 have:=qDz h
 omega
theorem Bd.of_le{C e:Nat}{x y:Int}(h:Bd C e y)(hxy:x.natAbs≤y.natAbs):Bd C e x:=Nat.le_trans hxy h
theorem qqk{q:Rat}(h:cls q):∃u v,Wt u v q∧((u=12∧v=0)∨(u=10∧v=10)):=by
 rcases h with⟨h1,h2⟩|⟨h1,h2⟩
 ·refine⟨12,0,⟨Bd.of_nl h1,?_,?_⟩,.inl ⟨rfl,rfl⟩⟩
  ·unfold Bd;rw[h2];decide
  ·unfold Bd;rw[h2];decide
 ·exact⟨10,10,⟨Bd.of_nl h1,Bd.of_nl (m:=(q.den:Int)) h2,Bd.of_nl (m:=(q.den:Int)) h2⟩,.inr ⟨rfl,rfl⟩⟩
theorem qvl{q:Rat}(h:qDo q):∃u v,Wt u v q∧u=13∧v=10:=
 ⟨13,10,⟨Bd.of_nl h.1,Bd.of_nl (m:=(q.den:Int)) h.2,(Bd.of_nl (m:=(q.den:Int)) h.2).mono (by omega) (by omega)⟩,rfl,rfl⟩
theorem zn{q:Rat}(h:cls q):bnd 12 10 q:=by
 rcases h with⟨h1,h2⟩|⟨h1,h2⟩
 ·exact⟨h1,by unfold qd;rw[h2];decide⟩
 ·exact⟨by omega,h2⟩
theorem q3U{q:Rat}(h:qDo q):bnd 13 10 q:=h
theorem GD.sh{d:DQ}(h:GD d):d.sh:=⟨zn h.x,zn h.y,q3U h.s⟩
theorem qxD{a b d:DQ}(ga:GD a)(gb:GD b)(gd:GD d)(neg:Bool)(hf:(b.x-a.x)*(b.x-a.x)+(b.y-a.y)*(b.y-a.y)≠0)(oa:okQ (kA d (ql a b neg)))(ob:okQ (kB d (ql a b neg)))(oc:okQ (ql a b neg).h) :
  RootOk (kA d (ql a b neg)) (kB d (ql a b neg)) (ql a b neg).h:=by
 obtain⟨f1,f2,f3,f4⟩:=quY a b d neg hf
 generalize kA d (ql a b neg)=A at *
 generalize kB d (ql a b neg)=B at *
 generalize (ql a b neg).h=H at *
 obtain⟨hx1,vx1,wx1,ex1⟩:=qqk ga.x
 obtain⟨hy1,vy1,wy1,ey1⟩:=qqk ga.y
 obtain⟨hs1,vs1,ws1,es1⟩:=qvl ga.s
 obtain⟨hx2,vx2,wx2,ex2⟩:=qqk gb.x
 obtain⟨hy2,vy2,wy2,ey2⟩:=qqk gb.y
 obtain⟨hs2,vs2,ws2,es2⟩:=qvl gb.s
 obtain⟨hx3,vx3,wx3,ex3⟩:=qqk gd.x
 obtain⟨hy3,vy3,wy3,ey3⟩:=qqk gd.y
 obtain⟨hs3,vs3,ws3,es3⟩:=qvl gd.s
 have k1:8*hx1+vx1≤96∧14*hx1+4*vx1≤180:=by omega
 have k2:8*hy1+vy1≤96∧14*hy1+4*vy1≤180:=by omega
 have k3:7*hx2+vx2≤84∧14*hx2+2*vx2≤168:=by omega
 have k4:7*hy2+vy2≤84∧14*hy2+2*vy2≤168:=by omega
 have k5:2*hx3+vx3≤30∧2*hx3+4*vx3≤60:=by omega
 have k6:2*hy3+vy3≤30∧2*hy3+4*vy3≤60:=by omega
 have k7:hs1+2*vs1≤33∧2*hs1+4*vs1≤66:=by omega
 have k8:hs2+2*vs2≤33∧2*hs2+4*vs2≤66:=by omega
 have k9:hs3≤13∧vs3≤10:=by omega
 clear ex1 ey1 es1 ex2 ey2 es2 ex3 ey3 es3
 have p0:∀q:Rat,(q.den:Int)≠0:=fun q=>by have:=quA q;omega
 have hM:iM a.x.num a.x.den a.y.num a.y.den a.s.den b.x.num b.x.den b.y.num b.y.den b.s.den d.x.den d.y.den d.s.den≠0:=by
  unfold iM iSq
  have:=p0 a.x;have:=p0 a.y;have:=p0 a.s;have:=p0 b.x;have:=p0 b.y;have:=p0 b.s;have:=p0 d.x;have:=p0 d.y;have:=p0 d.s
  exact Int.mul_ne_zero (Int.mul_ne_zero (Int.mul_ne_zero f4 (Int.mul_ne_zero (Int.mul_ne_zero ‹_› ‹_›) ‹_›)) (Int.mul_ne_zero (Int.mul_ne_zero (Int.mul_ne_zero ‹_› ‹_›) (Int.mul_ne_zero ‹_› ‹_›)) (Int.mul_ne_zero (Int.mul_ne_zero ‹_› ‹_›) (Int.mul_ne_zero ‹_› ‹_›)))) (Int.mul_ne_zero ‹_› ‹_›)
 have hQ:iQ a.x.den a.y.den b.x.den b.y.den d.x.den d.y.den≠0:=by
  unfold iQ
  exact Int.mul_ne_zero (Int.mul_ne_zero (Int.mul_ne_zero (p0 _) (p0 _)) (p0 _)) (Int.mul_ne_zero (Int.mul_ne_zero (p0 _) (p0 _)) (p0 _))
 have hC:iCd a.x.num a.x.den a.y.num a.y.den a.s.den b.x.num b.x.den b.y.num b.y.den b.s.den≠0:=by
  unfold iCd
  exact Int.mul_ne_zero (Int.mul_ne_zero (by omega) (Int.mul_ne_zero f4 f4)) (Int.mul_ne_zero (Int.mul_ne_zero (p0 _) (p0 _)) (Int.mul_ne_zero (p0 _) (p0 _)))
 obtain⟨g1,g2⟩:=qmI hM f1
 obtain⟨g3,g4⟩:=qmI hQ f2
 obtain⟨g5,g6⟩:=qmI hC f3
 have b1:=(bA wx1.n wx1.dh wy1.n wy1.dh wx2.n wx2.dh wy2.n wy2.dh wx3.n wx3.dh wy3.n wy3.dh ws1.n ws1.dh ws2.n ws2.dh ws3.n ws3.dh).of_le (x:=A.num) g1
 have b2:=(bM wx1.n wx1.dh wy1.n wy1.dh wx2.n wx2.dh wy2.n wy2.dh wx1.d wy1.d wx2.d wy2.d wx3.d wy3.d ws1.d ws2.d ws3.d).of_le (x:=(A.den:Int)) g2
 have b3:Bd 16 (hx1+hx2+hx3+hy1+hy2+hy3) B.num:=by
  refine(bK wx1.n wx1.dh wy1.n wy1.dh wx2.n wx2.dh wy2.n wy2.dh wx3.n wx3.dh wy3.n wy3.dh).of_le (Nat.le_trans g3 ?_)
  rw[Int.natAbs_mul]
  cases neg<;>simp
 have b4:=(bQ wx1.d wy1.d wx2.d wy2.d wx3.d wy3.d).of_le (x:=(B.den:Int)) g4
 have b5:=(bCn wx1.n wx1.dh wy1.n wy1.dh wx2.n wx2.dh wy2.n wy2.dh ws1.n ws1.dh ws2.n ws2.dh).of_le (x:=H.num) g5
 have b6:=(bCd wx1.n wx1.dh wy1.n wy1.dh wx2.n wx2.dh wy2.n wy2.dh ws1.d ws2.d).of_le (x:=(H.den:Int)) g6
 have X1:=b1.mul b4
 have X:Bd 40960 500 (rX A B H):=(X1.mul b6).mono (by omega) (by omega)
 have Y:=b3.mul b2
 have R:=b5.mul b6
 have XX:=(X.mul X).mono (C':=1677721600) (e':=1000) (by omega) (by omega)
 have YY:=Y.mul Y
 have YR:=(YY.mul R).mono (C':=553648128) (e':=972) (by omega) (by omega)
 have c10:(1000000000:Nat)≤10^9:=by decide
 exact { oa:=oa,ob:=ob,oc:=oc,x1:=X1.okL (k:=9) (by omega) (by omega) (by omega),x:=X.okL (k:=9) (by omega) (by omega) (by omega),y:=Y.okL (k:=9) (by omega) (by omega) (by omega),r:=R.okL (k:=9) (by omega) (by omega) (by omega),xx:=XX.okL (k:=10) (by decide) (by omega) (by omega),yy:=YY.okL (k:=9) (by omega) (by omega) (by omega),yr:=YR.okL (k:=9) (by omega) (by omega) (by omega),d:=((XX.mono (C':=1677721600) (e':=1000) (by omega) (by omega)).sub (YR.mono (C':=553648128) (e':=1000) (by omega) (by omega))).okL (k:=10) (by decide) (by omega) (by omega) }
end Go.Eng

namespace Go.Eng
theorem qEB{far c:Rat}(h0:far≠0)(hf:bnd 87 80 far)(hc:bnd 24 20 c):bnd 108 108 ((far+c)/(2*far)):=by
 have hn:far.num≠0:=fun h=>h0 (Rat.num_eq_zero.1 h)
 have hm:2*(far.num*(c.den:Int))≠0:=by
  have:=quA c
  exact Int.mul_ne_zero (by omega) (Int.mul_ne_zero hn (by omega))
 have h2f:2*far≠0:=by grind
 have key:(far+c)/(2*far)*((2*(far.num*(c.den:Int)):Int):Rat)=((far.num*(c.den:Int)+c.num*(far.den:Int):Int):Rat):=by
  have e1:=qdU far
  have e2:=qdU c
  have e3:(far+c)/(2*far)*(2*far)=far+c:=Rat.div_mul_cancel h2f
  have f2:((2:Int):Rat)=2:=by simp
  simp only[Rat.intCast_add,Rat.intCast_mul,Rat.intCast_natCast,e1,e2,f2]
  generalize (far+c)/(2*far)=q at *
  generalize (far.den:Rat)=fd at *
  generalize (c.den:Rat)=cd at *
  have e4:q*(2*(far*fd*cd))=q*(2*far)*(fd*cd):=by grind
  rw[e4,e3];grind
 obtain⟨k1,k2⟩:=qmI hm key
 have g1:=qaN k1
 have g2:=qzW k2
 have a1:=qqZ (far.num*(c.den:Int)) (c.num*(far.den:Int))
 have a2:=jW far.num (c.den:Int)
 have a3:=jW c.num (far.den:Int)
 have a4:=jW 2 (far.num*(c.den:Int))
 have a5:nl 2=1:=by decide
 have a6:dl (2*(far.num*(c.den:Int))).natAbs=nl (2*(far.num*(c.den:Int))):=rfl
 have b1:nl far.num≤87:=hf.1
 have b2:nl (far.den:Int)≤80:=hf.2
 have b3:nl c.num≤24:=hc.1
 have b4:nl (c.den:Int)≤20:=hc.2
 refine⟨?_,?_⟩
 ·show nl _≤108
  omega
 ·show dl _≤108
  omega
structure PB (p:SQ):Prop where
 fx:bnd 142 138 p.fx
 fy:bnd 142 138 p.fy
 ax:bnd 23 20 p.ax
 ay:bnd 23 20 p.ay
 h:bnd 314 313 p.h
theorem qEn(a:Rat):0-a=-a:=by grind
theorem quP{a b:DQ}(ga:GD a)(gb:GD b)(hf:uF b.x b.y a.x a.y≠0):bnd 108 108 ((uF b.x b.y a.x a.y+a.s-b.s)/(2*uF b.x b.y a.x a.y)):=by
 rw[show uF b.x b.y a.x a.y+a.s-b.s=uF b.x b.y a.x a.y+(a.s-b.s) by grind]
 exact qEB hf (qll (zn gb.x) (zn gb.y) (zn ga.x) (zn ga.y)) ((q3U ga.s).sub (q3U gb.s) (by omega) (by omega))
theorem qeX(a b:DQ)(neg:Bool):ql a b neg=⟨a.x+(uF b.x b.y a.x a.y+a.s-b.s)/(2*uF b.x b.y a.x a.y)*(b.x-a.x),a.y+(uF b.x b.y a.x a.y+a.s-b.s)/(2*uF b.x b.y a.x a.y)*(b.y-a.y),if neg then b.y-a.y else 0-(b.y-a.y),if neg then 0-(b.x-a.x) else b.x-a.x,a.s/uF b.x b.y a.x a.y-(uF b.x b.y a.x a.y+a.s-b.s)/(2*uF b.x b.y a.x a.y)*((uF b.x b.y a.x a.y+a.s-b.s)/(2*uF b.x b.y a.x a.y))⟩:=rfl
theorem qk6{a b:DQ}(ga:GD a)(gb:GD b)(neg:Bool)(hf:uF b.x b.y a.x a.y≠0):PB (ql a b neg):=by
 have dx:=q1R (zn gb.x) (zn ga.x)
 have dy:=q1R (zn gb.y) (zn ga.y)
 have far:=qll (zn gb.x) (zn gb.y) (zn ga.x) (zn ga.y)
 have ht:=quP ga gb hf
 rw[qeX]
 have nx:bnd 23 20 (0-(b.x-a.x)):=by rw[qEn];exact dx.neg
 have ny:bnd 23 20 (0-(b.y-a.y)):=by rw[qEn];exact dy.neg
 have hh:=((q3U ga.s).div hf far).sub (ht.mul ht) (K:=314) (by omega) (by omega)
 have hx:=(zn ga.x).add (ht.mul dx) (K:=142) (by omega) (by omega)
 have hy:=(zn ga.y).add (ht.mul dy) (K:=142) (by omega) (by omega)
 exact⟨hx,hy,by cases neg<;>assumption,by cases neg<;>assumption,hh⟩
theorem PB.m{p:SQ}{d:DQ}(hp:PB p)(gd:GD d):bnd 153 148 (p.fx-d.x)∧bnd 153 148 (p.fy-d.y):=
 ⟨hp.fx.sub (zn gd.x) (by omega) (by omega),hp.fy.sub (zn gd.y) (by omega) (by omega)⟩
theorem PB.mm{p:SQ}{d:DQ}(hp:PB p)(gd:GD d):bnd 603 592 ((p.fx-d.x)*(p.fx-d.x)+(p.fy-d.y)*(p.fy-d.y)):=
 qns (hp.m gd).1 (hp.m gd).2 (hp.m gd).1 (hp.m gd).2
theorem PB.aa{p:SQ}(hp:PB p):bnd 87 80 (p.ax*p.ax+p.ay*p.ay):=qns hp.ax hp.ay hp.ax hp.ay
theorem PB.ha{p:SQ}(hp:PB p):bnd 401 393 (p.h*(p.ax*p.ax+p.ay*p.ay)):=hp.h.mul hp.aa
theorem PB.x{p:SQ}{d:DQ}(hp:PB p)(gd:GD d):bnd 997 985 ((p.fx-d.x)*(p.fx-d.x)+(p.fy-d.y)*(p.fy-d.y)+p.h*(p.ax*p.ax+p.ay*p.ay)):=
 (hp.mm gd).add hp.ha (by omega) (by omega)
theorem PB.ma{p:SQ}{d:DQ}(hp:PB p)(gd:GD d):bnd 345 336 ((p.fx-d.x)*p.ax+(p.fy-d.y)*p.ay):=
 qns (hp.m gd).1 (hp.m gd).2 hp.ax hp.ay
theorem PB.kA{p:SQ}{d:DQ}(hp:PB p)(gd:GD d):bnd 1008 995 (kA d p):=(hp.x gd).sub (q3U gd.s) (by omega) (by omega)
theorem PB.kB{p:SQ}{d:DQ}(hp:PB p)(gd:GD d):bnd 346 337 (kB d p):=qii.mul (hp.ma gd)
structure PG (p:SQ):Prop where
 pb:PB p
 nn:0≤p.h
 root:∀d,GD d→RootOk (kA d p) (kB d p) p.h
theorem qB1{a b:DQ}(ga:GD a)(gb:GD b)(neg:Bool)(hf:uF b.x b.y a.x a.y≠0)(hn:0≤(ql a b neg).h):PG (ql a b neg):=
 ⟨qk6 ga gb neg hf,hn,fun _ gd=>qxD ga gb gd neg hf (((qk6 ga gb neg hf).kA gd).ok (by omega) (by omega)) (((qk6 ga gb neg hf).kB gd).ok (by omega) (by omega)) ((qk6 ga gb neg hf).h.ok (by omega) (by omega))⟩
theorem qDL{a:DQ}(ga:GD a):PG ⟨a.x,a.y,0,0,0⟩:=by
 refine⟨⟨(zn ga.x).mono (by omega) (by omega),(zn ga.y).mono (by omega) (by omega),q6o.mono (by omega) (by omega),q6o.mono (by omega) (by omega),q6o.mono (by omega) (by omega)⟩,Rat.le_refl,fun d gd=>?_⟩
 have e1:Go.Eng.kA d ⟨a.x,a.y,0,0,0⟩=uF a.x a.y d.x d.y-d.s:=by unfold Go.Eng.kA uF;grind
 have e2:Go.Eng.kB d ⟨a.x,a.y,0,0,0⟩=0:=by unfold Go.Eng.kB;grind
 rw[e1,e2]
 have f1:bnd 98 90 (uF a.x a.y d.x d.y-d.s):=(qll (zn ga.x) (zn ga.y) (zn gd.x) (zn gd.y)).sub (q3U gd.s) (by omega) (by omega)
 exact RootOk.of f1 q6o q6o (by omega) (by omega)
theorem qyG{d:DQ}{p:SQ}(gd:GD d)(hp:PG p) :
  (jB [.s (tQ d.x),.s (tQ d.y),.s (tQ d.s),.s (tQ p.fx),.s (tQ p.fy),.s (tQ p.ax),.s (tQ p.ay),.s (tQ p.h),.i 0]).run=some (0,[.b (decide (jY d p)),.i 0]):=by
 rw[qhK]
 have hr:=qBU (hp.root d gd) hp.nn
 obtain⟨hp,-,-⟩:=hp
 obtain⟨m1,m2⟩:=hp.m gd
 have h0:=qx0 hp.fx hp.fy (zn gd.x) (zn gd.y) (by omega) (by omega) (by omega)
 have h1:=qyo m1 m2 m1 m2 (by omega) (by omega)
 have h2:=qyo hp.ax hp.ay hp.ax hp.ay (by omega) (by omega)
 have h3:=qu6 hp.h hp.aa (by omega) (by omega)
 have h4:=qzZ (hp.mm gd) hp.ha (by omega) (by omega) (by omega)
 have h5:=qsX (hp.x gd) (q3U gd.s) (by omega) (by omega) (by omega)
 have h6:=qyo m1 m2 hp.ax hp.ay (by omega) (by omega)
 have h7:=qu6 qii (hp.ma gd) (by omega) (by omega)
 rw[qxg] at h7
 have e:jY d p=(qcX (Go.Eng.kA d p) (Go.Eng.kB d p) p.h≤0):=rfl
 unfold Go.Eng.kA Go.Eng.kB at hr e
 simp only[STD,h0,h1,h2,h3,h4,h5,h6,h7,hr,e]
 rfl
theorem qzr{d:DQ}{p:SQ}(gd:GD d)(hp:PB p) :
  (q52 [.s (tQ d.x),.s (tQ d.y),.s (tQ d.s),.s (tQ p.fx),.s (tQ p.fy),.s (tQ p.ax),.s (tQ p.ay),.s (tQ p.h)]).run=some (0,[.b (decide (jY d p))]):=by
 rw[qpJ]
 obtain⟨m1,m2⟩:=hp.m gd
 have s1:=m1.sm (K:=200) (by omega) (by omega)
 have s2:=m2.sm (K:=200) (by omega) (by omega)
 have s3:=hp.ax.sm (K:=200) (by omega) (by omega)
 have s4:=hp.ay.sm (K:=200) (by omega) (by omega)
 have h0:=qzi (hp.fx.sm (by omega) (by omega)) (hp.fy.sm (by omega) (by omega)) ((zn gd.x).sm (by omega) (by omega)) ((zn gd.y).sm (by omega) (by omega))
 have h1:=qBp (by omega) s1 s2 s1 s2
 have h2:=qBp (by omega) s3 s4 s3 s4
 have h3:=wK (hp.h.sm (by omega) (by omega)) (hp.aa.sm (by omega) (by omega))
 have h4:=q6J ((hp.mm gd).sm (by omega) (by omega)) (hp.ha.sm (by omega) (by omega))
 have h5:=uj ((hp.x gd).sm (by omega) (by omega)) ((q3U gd.s).sm (by omega) (by omega))
 have h6:=qBp (by omega) s1 s2 s3 s4
 have h7:=wK (qii.sm (by omega) (by omega)) ((hp.ma gd).sm (by omega) (by omega))
 have h8:=qtE ((hp.kA gd).sm (by omega) (by omega)) ((hp.kB gd).sm (by omega) (by omega)) (hp.h.sm (by omega) (by omega))
 rw[qxg] at h7
 have e:jY d p=(qcX (Go.Eng.kA d p) (Go.Eng.kB d p) p.h≤0):=rfl
 unfold Go.Eng.kA Go.Eng.kB at h8 e
 simp only[STD,h0,h1,h2,h3,h4,h5,h6,h7,h8,e]
 rfl
def qeE(d:DQ):List U:=[.s (tQ d.x),.s (tQ d.y),.s (tQ d.s)]
def rD(l:List DQ):R:=l.map qeE
def ix(l:List DQ)(i:Nat):DQ:=l.getD i ⟨0,0,0⟩
theorem qH(l:List DQ):qj (rD l)=(l.length:Int):=by simp[qj,rD]
theorem qkD{l:List DQ}{i:Nat}(h:i<l.length):cS (rD l) (i:Int) 0=tQ (ix l i).x∧cS (rD l) (i:Int) 1=tQ (ix l i).y∧cS (rD l) (i:Int) 2=tQ (ix l i).s:=by
 unfold cS wX rD ix
 simp[List.getD_eq_getElem?_getD,h,qeE,U.toS]
theorem qBZ{l:List DQ}{i:Nat}(h:i<l.length):ix l i∈l:=by
 unfold ix
 simp[List.getD_eq_getElem?_getD,h]
def q7a(a b:DQ)(same:Bool)(side:Int):Option SQ:=
 if same then (if side=0 then some ⟨a.x,a.y,0,0,0⟩ else none)
 else if uF b.x b.y a.x a.y=0 then none
 else if 0≤(ql a b (decide (side<0))).h∧((ql a b (decide (side<0))).h=0↔side=0) then some (ql a b (decide (side<0))) else none
theorem qwG{a b:DQ}(ga:GD a)(gb:GD b){same:Bool}{side:Int}{p:SQ}(h:q7a a b same side=some p):PG p:=by
 unfold q7a at h
 split at h
 ·split at h
  ·cases h;exact qDL ga
  ·cases h
 ·split at h
  ·cases h
  ·rename_i hf
   split at h
   ·rename_i hc
    cases h;exact qB1 ga gb _ hf hc.1
   ·cases h
def q0q(l:List DQ)(i j:Nat)(side:Int):Bool:=
 match q7a (ix l i) (ix l j) (decide (i=j)) side with
 | none=>false
 | some p=>l.all fun d=>decide (jY d p)
def qkh(l:List DQ)(i j:Nat)(side:Int):Option (Nat×Nat×Int):=if q0q l i j side then some (i,j,side) else none
def q78(l:List DQ)(i j:Nat):Option (Nat×Nat×Int):=
 match qkh l i j 0 with
 | some w=>some w
 | none=>match qkh l i j 1 with
  | some w=>some w
  | none=>qkh l i j (-1)
def q0l(l:List DQ):Option (Nat×Nat×Int):=
 match q0i (fun i=>qkh l i i 0) 0 l.length with
 | some w=>some w
 | none=>q0i (fun i=>q0i (fun k=>q78 l i (i+1+k)) 0 (l.length-(i+1))) 0 l.length
end Go.Eng

namespace Go.Eng
theorem qxW(d a:DQ):jY d ⟨a.x,a.y,0,0,0⟩↔pw d a.x a.y≤0:=by
 have e1:kA d ⟨a.x,a.y,0,0,0⟩=pw d a.x a.y:=by unfold kA pw;grind
 have e2:kB d ⟨a.x,a.y,0,0,0⟩=0:=by unfold kB;grind
 unfold jY
 rw[e1,e2]
 simp only[qqs,qgl]
theorem quh{d:DQ}{p q:SQ}(hA:kA d p=kA d q)(hB:kB d p=kB d q)(hh:p.h=q.h):jY d p↔jY d q:=by
 unfold jY;rw[hA,hB,hh]
theorem qnf{d:DQ}{p:SQ}(hh:p.h=0):jY d p↔kA d p≤0:=by
 unfold jY
 rw[hh,qrq (by grind)]
 constructor
 ·rintro (⟨h,-⟩|⟨h1,h2,h3⟩)
  ·exact h
  ·have:=Rat.mul_pos h1 h1;grind
 ·intro h;exact .inl ⟨h,.inr (.inl rfl)⟩
theorem qxT{a b:DQ}(neg:Bool)(hf:uF b.x b.y a.x a.y≠0) :
  (ql b a (!neg)).fx=(ql a b neg).fx∧(ql b a (!neg)).fy=(ql a b neg).fy∧(ql b a (!neg)).ax=(ql a b neg).ax∧(ql b a (!neg)).ay=(ql a b neg).ay∧(ql b a (!neg)).h=(ql a b neg).h:=by
 have hsw:uF a.x a.y b.x b.y=uF b.x b.y a.x a.y:=by unfold uF;grind
 rw[qeX,qeX,hsw]
 generalize uF b.x b.y a.x a.y=far at *
 have h2f:2*far≠0:=by grind
 have h1:(far+b.s-a.s)/(2*far)*(2*far)=far+b.s-a.s:=Rat.div_mul_cancel h2f
 have h2:(far+a.s-b.s)/(2*far)*(2*far)=far+a.s-b.s:=Rat.div_mul_cancel h2f
 have h3:a.s/far*far=a.s:=Rat.div_mul_cancel hf
 have h4:b.s/far*far=b.s:=Rat.div_mul_cancel hf
 generalize (far+b.s-a.s)/(2*far)=u at *
 generalize (far+a.s-b.s)/(2*far)=t at *
 generalize a.s/far=p at *
 generalize b.s/far=q at *
 have cancel:∀z:Rat,z*far=0→z=0:=fun z hz=>by
  rcases Rat.mul_eq_zero.1 hz with h|h
  ·exact h
  ·exact absurd h hf
 have hu:u=1-t:=by
  have:=cancel (u-(1-t)) (by grind)
  grind
 have hpq:q=p-t*t+(1-t)*(1-t):=by
  have:=cancel (q-(p-t*t+(1-t)*(1-t))) (by grind)
  grind
 simp only
 refine⟨by rw[hu];grind,by rw[hu];grind,?_,?_,by rw[hu,hpq];grind⟩
 ·cases neg<;>simp only[Bool.not_false,Bool.not_true,Bool.false_eq_true,if_false,if_true]<;>grind
 ·cases neg<;>simp only[Bool.not_false,Bool.not_true,Bool.false_eq_true,if_false,if_true]<;>grind
theorem qiX{l:List DQ}{d:DQ}(h:d∈l):∃i,i<l.length∧ix l i=d:=by
 obtain⟨i,hi,e⟩:=List.getElem_of_mem h
 exact⟨i,hi,by unfold ix;simp[List.getD_eq_getElem?_getD,hi,e]⟩
def Wit(l:List DQ):Prop:=(∃i,i<l.length∧q0q l i i 0=true)∨∃i j side,i<j∧j<l.length∧(side=0∨side=1∨side=-1)∧q0q l i j side=true
theorem qc6{l:List DQ}{i j:Nat}{side:Int}:q0q l i j side=true↔∃p,q7a (ix l i) (ix l j) (decide (i=j)) side=some p∧∀d∈l,jY d p:=by
 unfold q0q
 cases h:q7a (ix l i) (ix l j) (decide (i=j)) side with
 | none=>simp
 | some p=>simp
theorem qBf{a b:DQ}{same:Bool}{side:Int}{p:SQ}(h:q7a a b same side=some p):0≤p.h:=by
 unfold q7a at h
 split at h
 ·split at h
  ·cases h;exact Rat.le_refl
  ·cases h
 ·split at h
  ·cases h
  ·split at h
   ·rename_i hc
    cases h;exact hc.1
   ·cases h
theorem qpY{l:List DQ}{i j:Nat}{side:Int}(h:q0q l i j side=true):quD l:=by
 obtain⟨p,h1,h2⟩:=qc6.1 h
 exact qsD (qBf h1) h2
theorem qve{l:List DQ}(hl:l≠[])(hs:∀d∈l,0≤d.s)(hm:quD l):Wit l:=by
 rcases qBQ hl hs hm with⟨a,ha,h⟩|⟨a,ha,b,hb,neg,hf,h0,hk⟩
 ·obtain⟨i,hi,rfl⟩:=qiX ha
  refine .inl ⟨i,hi,qc6.2 ⟨⟨(ix l i).x,(ix l i).y,0,0,0⟩,?_,fun d hd=>(qxW d _).2 (h d hd)⟩⟩
  unfold q7a;simp
 ·have main:∀(i j:Nat) (neg:Bool),i<j→j<l.length→uF (ix l j).x (ix l j).y (ix l i).x (ix l i).y≠0→0≤(ql (ix l i) (ix l j) neg).h→(∀d∈l,jY d (ql (ix l i) (ix l j) neg))→Wit l:=by
   intro i j neg hij hj hf h0 hk
   by_cases hz:(ql (ix l i) (ix l j) neg).h=0
   ·have hz':(ql (ix l i) (ix l j) false).h=0:=hz
    refine .inr ⟨i,j,0,hij,hj,.inl rfl,qc6.2 ⟨ql (ix l i) (ix l j) false,?_,fun d hd=>?_⟩⟩
    ·unfold q7a
     rw[if_neg (by simp;omega),if_neg hf]
     simp[hz']
    ·have:=(qnf hz).1 (hk d hd)
     rw[qnf hz']
     have e:kA d (ql (ix l i) (ix l j) false)=kA d (ql (ix l i) (ix l j) neg):=by
      unfold kA;rw[hz,hz']
      have e1:(ql (ix l i) (ix l j) false).fx=(ql (ix l i) (ix l j) neg).fx:=rfl
      have e2:(ql (ix l i) (ix l j) false).fy=(ql (ix l i) (ix l j) neg).fy:=rfl
      rw[e1,e2];grind
     rw[e];exact this
   ·cases neg
    ·refine .inr ⟨i,j,1,hij,hj,.inr (.inl rfl),qc6.2 ⟨ql (ix l i) (ix l j) false,?_,hk⟩⟩
     unfold q7a
     rw[if_neg (by simp;omega),if_neg hf]
     simp[hz,h0]
    ·refine .inr ⟨i,j,-1,hij,hj,.inr (.inr rfl),qc6.2 ⟨ql (ix l i) (ix l j) true,?_,hk⟩⟩
     unfold q7a
     rw[if_neg (by simp;omega),if_neg hf]
     simp[hz,h0]
  obtain⟨i,hi,rfl⟩:=qiX ha
  obtain⟨j,hj,rfl⟩:=qiX hb
  rcases Nat.lt_trichotomy i j with hij|rfl|hij
  ·exact main i j neg hij hj hf h0 hk
  ·exact absurd (by unfold uF;grind) hf
  ·obtain⟨e1,e2,e3,e4,e5⟩:=qxT neg hf
   refine main j i (!neg) hij hi ?_ (by rw[e5];exact h0) fun d hd=>?_
   ·intro h;apply hf;unfold uF at *;grind
   ·refine(quh ?_ ?_ e5).2 (hk d hd)
    ·unfold kA;rw[e1,e2,e3,e4,e5]
    ·unfold kB;rw[e1,e2,e3,e4]
theorem qim{l:List DQ}{i j:Nat}{side:Int}{w:Nat×Nat×Int}(h:qkh l i j side=some w):w=(i,j,side)∧q0q l i j side=true:=by
 unfold qkh at h
 split at h
 ·cases h;exact⟨rfl,by assumption⟩
 ·cases h
theorem qk3{l:List DQ}{i j:Nat}{side:Int}(h:qkh l i j side=none):q0q l i j side=false:=by
 unfold qkh at h
 split at h
 ·cases h
 ·simp_all
theorem qeG{α:Type}{f:Nat→Option α}{a:α}:∀{k i:Nat},q0i f i k=some a→∃j,i≤j∧j<i+k∧f j=some a∧∀m,i≤m→m<j→f m=none
 | 0,i,h=>by cases h
 | k+1,i,h=>by
  simp only[q0i] at h
  cases hf:f i with
  | some b=>rw[hf] at h;exact⟨i,Nat.le_refl _,by omega,by rw[hf];exact h,fun m h1 h2=>by omega⟩
  | none=>
   rw[hf] at h
   obtain⟨j,h1,h2,h3,h4⟩:=qeG h
   refine⟨j,by omega,by omega,h3,fun m m1 m2=>?_⟩
   rcases Nat.eq_or_lt_of_le m1 with rfl|m1
   ·exact hf
   ·exact h4 m m1 m2
theorem qvW{l:List DQ}{i j:Nat}{w:Nat×Nat×Int}(h:q78 l i j=some w):∃side,w=(i,j,side)∧(side=0∨side=1∨side=-1)∧q0q l i j side=true:=by
 unfold q78 at h
 cases h0:qkh l i j 0 with
 | some v=>rw[h0] at h;simp only at h;cases h;obtain⟨e1,e2⟩:=qim h0;exact⟨0,e1,.inl rfl,e2⟩
 | none=>
  rw[h0] at h;simp only at h
  cases h1:qkh l i j 1 with
  | some v=>rw[h1] at h;simp only at h;cases h;obtain⟨e1,e2⟩:=qim h1;exact⟨1,e1,.inr (.inl rfl),e2⟩
  | none=>
   rw[h1] at h;simp only at h
   obtain⟨e1,e2⟩:=qim h;exact⟨-1,e1,.inr (.inr rfl),e2⟩
theorem qvG{l:List DQ}{i j:Nat}(h:q78 l i j=none):∀side:Int,side=0∨side=1∨side=-1→q0q l i j side=false:=by
 unfold q78 at h
 cases h0:qkh l i j 0 with
 | some v=>rw[h0] at h;cases h
 | none=>
  rw[h0] at h;simp only at h
  cases h1:qkh l i j 1 with
  | some v=>rw[h1] at h;cases h
  | none=>
   rw[h1] at h;simp only at h
   rintro side (rfl|rfl|rfl)
   ·exact qk3 h0
   ·exact qk3 h1
   ·exact qk3 h
theorem qwe{l:List DQ}{w:Nat×Nat×Int}(h:q0l l=some w):q0q l w.1 w.2.1 w.2.2=true∧w.1≤w.2.1∧w.2.1<l.length∧(w.2.2=0∨w.2.2=1∨w.2.2=-1)∧(w.1=w.2.1→w.2.2=0):=by
 unfold q0l at h
 cases h0:q0i (fun i=>qkh l i i 0) 0 l.length with
 | some v=>
  rw[h0] at h;simp only at h;cases h
  obtain⟨i,-,hi,hf,-⟩:=qeG h0
  obtain⟨rfl,e⟩:=qim hf
  exact⟨e,Nat.le_refl _,by simpa using hi,.inl rfl,fun _=>rfl⟩
 | none=>
  rw[h0] at h;simp only at h
  obtain⟨i,-,hi,hf,-⟩:=qeG h
  obtain⟨k,-,hk,hf,-⟩:=qeG hf
  obtain⟨side,rfl,h1,h2⟩:=qvW hf
  exact⟨h2,by simp only;omega,by simp only;omega,h1,fun h=>by simp only at h;omega⟩
theorem qvZ{l:List DQ}(h:q0l l=none):¬Wit l:=by
 unfold q0l at h
 cases h0:q0i (fun i=>qkh l i i 0) 0 l.length with
 | some v=>rw[h0] at h;cases h
 | none=>
  rw[h0] at h;simp only at h
  rintro (⟨i,hi,hp⟩|⟨i,j,side,hij,hj,hs,hp⟩)
  ·have:=qk3 (qbH h0 i (by omega) (by omega));simp_all
  ·have h1:=qbH h i (by omega) (by omega)
   have h2:=qbH h1 (j-(i+1)) (by omega) (by omega)
   simp only[show i+1+(j-(i+1))=j by omega] at h2
   have:=qvG h2 side hs;simp_all
theorem qxC{l:List DQ}(hl:l≠[])(hs:∀d∈l,0≤d.s):(q0l l).isSome=true↔quD l:=by
 constructor
 ·intro h
  cases hf:q0l l with
  | none=>rw[hf] at h;cases h
  | some w=>exact qpY (qwe hf).1
 ·intro h
  cases hf:q0l l with
  | none=>exact absurd (qve hl hs h) (qvZ hf)
  | some w=>rfl
end Go.Eng

namespace Go.Eng
def GDs(l:List DQ):Prop:=∀d∈l,GD d
theorem GDs.ix{l:List DQ}(h:GDs l){i:Nat}(hi:i<l.length):GD (ix l i):=h _ (qBZ hi)
theorem qAw(q:Rat):(seq (tQ q) [48]=true)=(q=0):=by rw[qS,qoi]
theorem qlg(q:Rat):(0:Int)<qm (tQ q):=by
 have h1:=qoE q
 have h2:=qoN q
 unfold qm;omega
theorem qEk(i:Nat):((i:Int)=(i:Int))=True:=by simp
def plc(p:SQ):List PV:=[.s (tQ p.fx),.s (tQ p.fy),.s (tQ p.ax),.s (tQ p.ay),.s (tQ p.h)]
theorem qlk(q:Rat):(¬(tQ q).getD 0 0=45)=(0≤q):=by
 by_cases h:0≤q
 ·exact propext ⟨fun _=>h,fun _=>qCG h⟩
 ·have:=qDG (c:=q) (by grind)
  exact propext ⟨fun h'=>absurd this h',fun h'=>absurd h' h⟩
theorem qzo(b:Bool)(p q:Prop)[Decidable p][Decidable q](hb:(b=true)=p):(Go.Eng.beq b (decide q))=decide (p↔q):=by
 subst hb
 by_cases hq:q<;>cases b<;>simp[Go.Eng.beq,hq]<;>rfl
set_option maxHeartbeats 2000000 in
theorem qCS{l:List DQ}(hl:GDs l){i j:Nat}(hi:i<l.length)(hj:j<l.length)(side:Int) :
  (q7a (ix l i) (ix l j) (decide (i=j)) side=none∧∃a b c d e,(vz [.r (rD l),.i (i:Int),.i (j:Int),.i side,.i 0]).run=some (0,[.s a,.s b,.s c,.s d,.s e,.b false,.i 0])) ∨
  ∃p,q7a (ix l i) (ix l j) (decide (i=j)) side=some p∧(vz [.r (rD l),.i (i:Int),.i (j:Int),.i side,.i 0]).run=some (0,plc p++[.b true,.i 0]):=by
 rw[qhO]
 obtain⟨x1,x2,x3⟩:=qkD hi
 obtain⟨y1,y2,y3⟩:=qkD hj
 have ga:=hl.ix hi
 have gb:=hl.ix hj
 have bi:0≤(i:Int)∧(i:Int)<qj (rD l):=by rw[qH];omega
 have bj:0≤(j:Int)∧(j:Int)<qj (rD l):=by rw[qH];omega
 obtain⟨a,ha⟩:∃a,a=ix l i:=⟨_,rfl⟩
 obtain⟨b,hb⟩:∃b,b=ix l j:=⟨_,rfl⟩
 rw[←ha] at x1 x2 x3 ga ⊢
 rw[←hb] at y1 y2 y3 gb ⊢
 simp only[x1,x2,x3,y1,y2,y3]
 clear x1 x2 x3 y1 y2 y3 hb
 unfold q7a plc
 by_cases hij:i=j
 ·subst hij
  have z:tQ 0=[48]:=rfl
  by_cases hs:side=0
  ·subst hs
   right
   refine⟨⟨a.x,a.y,0,0,0⟩,by simp,?_⟩
   have e:ieq 0 0=true:=rfl
   simp only[STD,bi,and_self,z,e]
   rfl
  ·left
   refine⟨by simp[hs],tQ a.x,tQ a.y,[48],[48],[48],?_⟩
   have e:ieq side 0=false:=by simp[ieq,hs]
   simp only[STD,bi,and_self,e]
 ·have hij':¬(i:Int)=(j:Int):=by omega
  obtain⟨a1,a2,a3⟩:=ga.sh
  obtain⟨b1,b2,b3⟩:=gb.sh
  have dx:=q1R b1 a1
  have dy:=q1R b2 a2
  have far:=qll b1 b2 a1 a2
  have h0:=qx0 b1 b2 a1 a2 (by omega) (by omega) (by omega)
  have h1:=qyo dx dy dx dy (by omega) (by omega)
  have hfd:(b.x-a.x)*(b.x-a.x)+(b.y-a.y)*(b.y-a.y)=uF b.x b.y a.x a.y:=rfl
  rw[hfd] at h1
  by_cases hf:uF b.x b.y a.x a.y=0
  ·left
   refine⟨by simp[hij,hf],[],[],[],[],[],?_⟩
   simp only[STD,bi,bj,and_self,hij',h0,h1,qAw,hf]
  ·have hpb:=fun neg=>qk6 ga gb neg hf
   have ht:=quP ga gb hf
   have n1:bnd 98 90 (uF b.x b.y a.x a.y+a.s):=far.add a3 (by omega) (by omega)
   have h2:=qzZ far a3 (by omega) (by omega) (by omega)
   have n2:bnd 112 100 (uF b.x b.y a.x a.y+a.s-b.s):=n1.sub b3 (by omega) (by omega)
   have h3:=qsX n1 b3 (by omega) (by omega) (by omega)
   have h4:=qu6 qii far (by omega) (by omega)
   rw[qxg] at h4
   have n4:=qii.mul far
   have hf2:2*uF b.x b.y a.x a.y≠0:=by grind
   have h5:=qE9 hf2 n2 n4 (by omega) (by omega)
   have h6:=qu6 ht dx (by omega) (by omega)
   have h7:=qzZ a1 (ht.mul dx) (by omega) (by omega) (by omega)
   have h8:=qu6 ht dy (by omega) (by omega)
   have h9:=qzZ a2 (ht.mul dy) (by omega) (by omega) (by omega)
   have h10:=qsX q6o dy (by omega) (by omega) (by omega)
   have h14:=qsX q6o dx (by omega) (by omega) (by omega)
   rw[show tQ 0=[48] from rfl] at h10 h14
   have h11:=qE9 hf a3 far (by omega) (by omega)
   have h12:=qu6 ht ht (by omega) (by omega)
   have h13:=qsX (a3.div hf far) (ht.mul ht) (by omega) (by omega) (by omega)
   have hbd:=fun (q:Rat)=>qzo (seq (tQ q) [48]) (q=0) (side=0) (qAw q)
   have hie:ieq side 0=decide (side=0):=rfl
   rw[if_neg (by simp[hij]),if_neg hf]
   obtain⟨p,hcr'⟩:∃p,p=ql a b (decide (side<0)):=⟨_,rfl⟩
   rw[←hcr']
   have hcr:=hcr'.symm
   clear hcr'
   rw[qeX] at hcr
   obtain⟨t,htt⟩:∃t,t=(uF b.x b.y a.x a.y+a.s-b.s)/(2*uF b.x b.y a.x a.y):=⟨_,rfl⟩
   rw[←htt] at hcr h5 h6 h7 h8 h9 h12 h13
   obtain⟨h,hh⟩:∃h,h=a.s/uF b.x b.y a.x a.y-t*t:=⟨_,rfl⟩
   rw[←hh] at hcr h13
   have hp5:p.h=h:=by rw[←hcr]
   by_cases hs:side<0
   ·simp only[hs,decide_true,if_true] at hcr
    by_cases hn:0≤h
    ·by_cases hz:(h=0↔side=0)
     ·right
      refine⟨p,by rw[if_pos ⟨by rw[hp5];exact hn,by rw[hp5];exact hz⟩],?_⟩
      rw[←hcr]
      simp only[STD,bi,bj,and_self,hij',h0,h1,h2,h3,h4,h5,h6,h7,h8,h9,h10,h11,h12,h13,h14,qAw,hf,hs,Int.le_refl,qlg,qiI,qlk,hn,hie,hbd,hz,decide_true]
      rfl
     ·left
      refine⟨by rw[if_neg (by rw[hp5];exact fun c=>hz c.2)],tQ p.fx,tQ p.fy,tQ p.ax,tQ p.ay,tQ p.h,?_⟩
      rw[←hcr]
      simp only[STD,bi,bj,and_self,hij',h0,h1,h2,h3,h4,h5,h6,h7,h8,h9,h10,h11,h12,h13,h14,qAw,hf,hs,Int.le_refl,qlg,qiI,qlk,hn,hie,hbd,hz,decide_false]
    ·left
     refine⟨by rw[if_neg (by rw[hp5];exact fun c=>hn c.1)],tQ p.fx,tQ p.fy,tQ p.ax,tQ p.ay,tQ p.h,?_⟩
     rw[←hcr]
     simp only[STD,bi,bj,and_self,hij',h0,h1,h2,h3,h4,h5,h6,h7,h8,h9,h10,h11,h12,h13,h14,qAw,hf,hs,Int.le_refl,qlg,qiI,qlk,hn]
   ·simp only[hs,decide_false,Bool.false_eq_true,if_false] at hcr
    by_cases hn:0≤h
    ·by_cases hz:(h=0↔side=0)
     ·right
      refine⟨p,by rw[if_pos ⟨by rw[hp5];exact hn,by rw[hp5];exact hz⟩],?_⟩
      rw[←hcr]
      simp only[STD,bi,bj,and_self,hij',h0,h1,h2,h3,h4,h5,h6,h7,h8,h9,h10,h11,h12,h13,h14,qAw,hf,hs,Int.le_refl,qlg,qiI,qlk,hn,hie,hbd,hz,decide_true]
      rfl
     ·left
      refine⟨by rw[if_neg (by rw[hp5];exact fun c=>hz c.2)],tQ p.fx,tQ p.fy,tQ p.ax,tQ p.ay,tQ p.h,?_⟩
      rw[←hcr]
      simp only[STD,bi,bj,and_self,hij',h0,h1,h2,h3,h4,h5,h6,h7,h8,h9,h10,h11,h12,h13,h14,qAw,hf,hs,Int.le_refl,qlg,qiI,qlk,hn,hie,hbd,hz,decide_false]
    ·left
     refine⟨by rw[if_neg (by rw[hp5];exact fun c=>hn c.1)],tQ p.fx,tQ p.fy,tQ p.ax,tQ p.ay,tQ p.h,?_⟩
     rw[←hcr]
     simp only[STD,bi,bj,and_self,hij',h0,h1,h2,h3,h4,h5,h6,h7,h8,h9,h10,h11,h12,h13,h14,qAw,hf,hs,Int.le_refl,qlg,qiI,qlk,hn]
end Go.Eng

namespace Go.Eng
theorem qxQ{a b:DQ}(ga:GD a)(gb:GD b) :
  (q3Q [.s (tQ a.x),.s (tQ a.y),.s (tQ a.s),.s (tQ b.x),.s (tQ b.y),.s (tQ b.s)]).run=some (0,if uF b.x b.y a.x a.y=0 then [.s [],.s [],.s [],.s [],.s [],.b false] else plc (ql a b false)++[.b (decide (0≤(ql a b false).h))]):=by
 rw[qkQ]
 obtain⟨a1,a2,a3⟩:=ga.sh
 obtain⟨b1,b2,b3⟩:=gb.sh
 have dx:=q1R b1 a1
 have dy:=q1R b2 a2
 have far:=qll b1 b2 a1 a2
 have h0:=qzi (b1.sm (by omega) (by omega)) (b2.sm (by omega) (by omega)) (a1.sm (by omega) (by omega)) (a2.sm (by omega) (by omega))
 have s1:=dx.sm (K:=100) (by omega) (by omega)
 have s2:=dy.sm (K:=100) (by omega) (by omega)
 have h1:=qBp (K:=100) (by omega) s1 s2 s1 s2
 have hfd:(b.x-a.x)*(b.x-a.x)+(b.y-a.y)*(b.y-a.y)=uF b.x b.y a.x a.y:=rfl
 rw[hfd] at h1
 by_cases hf:uF b.x b.y a.x a.y=0
 ·rw[if_pos hf]
  simp only[STD,h0,h1,qAw,hf]
 ·rw[if_neg hf]
  have ht:=quP ga gb hf
  have n1:bnd 98 90 (uF b.x b.y a.x a.y+a.s):=far.add a3 (by omega) (by omega)
  have h2:=q6J (far.sm (by omega) (by omega)) (a3.sm (by omega) (by omega))
  have n2:bnd 112 100 (uF b.x b.y a.x a.y+a.s-b.s):=n1.sub b3 (by omega) (by omega)
  have h3:=uj (n1.sm (by omega) (by omega)) (b3.sm (by omega) (by omega))
  have h4:=wK (qii.sm (by omega) (by omega)) (far.sm (by omega) (by omega))
  rw[qxg] at h4
  have n4:=qii.mul far
  have hf2:2*uF b.x b.y a.x a.y≠0:=by grind
  have h5:=qr3 hf2 (n2.sm (by omega) (by omega)) (n4.sm (by omega) (by omega))
  have h6:=qr3 hf (a3.sm (by omega) (by omega)) (far.sm (by omega) (by omega))
  have h7:=wK (ht.sm (by omega) (by omega)) (ht.sm (by omega) (by omega))
  have h8:=uj ((a3.div hf far).sm (by omega) (by omega)) ((ht.mul ht).sm (by omega) (by omega))
  have n8:=(a3.div hf far).sub (ht.mul ht) (K:=314) (by omega) (by omega)
  have h9:=wK (ht.sm (by omega) (by omega)) (dx.sm (by omega) (by omega))
  have h10:=q6J (a1.sm (by omega) (by omega)) ((ht.mul dx).sm (by omega) (by omega))
  have h11:=wK (ht.sm (by omega) (by omega)) (dy.sm (by omega) (by omega))
  have h12:=q6J (a2.sm (by omega) (by omega)) ((ht.mul dy).sm (by omega) (by omega))
  have h13:=qbc (dy.sm (by omega) (by omega))
  have h14:=q6F (n8.sm (by omega) (by omega))
  have hle:∀q:Rat,ile 0 (sgq q)=decide (0≤q):=fun q=>by
   unfold ile
   rcases q6Z q with⟨h,e⟩|⟨h,e⟩|⟨h,e⟩<;>rw[e]
   ·simp;grind
   ·simp[h]
   ·simp;grind
  rw[qeX]
  unfold plc
  simp only[STD,h0,h1,h2,h3,h4,h5,h6,h7,h8,h9,h10,h11,h12,h13,h14,qAw,hf,hle,qEn]
  rfl
theorem qrr(a b:DQ)(neg:Bool):(ql a b neg).h=(ql a b false).h:=rfl
theorem qzx{l:List DQ}(hl:GDs l){i j:Nat}(hi:i<l.length)(hj:j<l.length)(side:Int) :
  (q7a (ix l i) (ix l j) (decide (i=j)) side=none∧∃a b c d e,(kH [.r (rD l),.i (i:Int),.i (j:Int),.i side]).run=some (0,[.s a,.s b,.s c,.s d,.s e,.b false])) ∨
  ∃p,q7a (ix l i) (ix l j) (decide (i=j)) side=some p∧(kH [.r (rD l),.i (i:Int),.i (j:Int),.i side]).run=some (0,plc p++[.b true]):=by
 rw[qmz]
 obtain⟨x1,x2,x3⟩:=qkD hi
 obtain⟨y1,y2,y3⟩:=qkD hj
 have ga:=hl.ix hi
 have gb:=hl.ix hj
 have bi:0≤(i:Int)∧(i:Int)<qj (rD l):=by rw[qH];omega
 have bj:0≤(j:Int)∧(j:Int)<qj (rD l):=by rw[qH];omega
 obtain⟨a,ha⟩:∃a,a=ix l i:=⟨_,rfl⟩
 obtain⟨b,hb⟩:∃b,b=ix l j:=⟨_,rfl⟩
 rw[←ha] at x1 x2 x3 ga ⊢
 rw[←hb] at y1 y2 y3 gb ⊢
 have hc:=qxQ ga gb
 simp only[x1,x2,x3,y1,y2,y3]
 clear x1 x2 x3 y1 y2 y3 hb
 unfold q7a plc
 by_cases hij:i=j
 ·subst hij
  have z:tQ 0=[48]:=rfl
  by_cases hs:side=0
  ·subst hs
   right
   refine⟨⟨a.x,a.y,0,0,0⟩,by simp,?_⟩
   have e:ieq 0 0=true:=rfl
   simp only[STD,bi,and_self,z,e]
   rfl
  ·left
   refine⟨by simp[hs],tQ a.x,tQ a.y,[48],[48],[48],?_⟩
   have e:ieq side 0=false:=by simp[ieq,hs]
   simp only[STD,bi,and_self,e]
 ·have hij':¬(i:Int)=(j:Int):=by omega
  by_cases hf:uF b.x b.y a.x a.y=0
  ·left
   rw[if_pos hf] at hc
   refine⟨by simp[hij,hf],[],[],[],[],[],?_⟩
   simp only[STD,bi,bj,and_self,hij',hc]
  ·rw[if_neg hf] at hc
   have hpl:∀(p:SQ) (x:PV),plc p++[x]=[.s (tQ p.fx),.s (tQ p.fy),.s (tQ p.ax),.s (tQ p.ay),.s (tQ p.h),x]:=fun _ _=>rfl
   rw[hpl] at hc
   have hbd:=fun (q:Rat)=>qzo (seq (tQ q) [48]) (q=0) (side=0) (qAw q)
   have hie:ieq side 0=decide (side=0):=rfl
   rw[if_neg (by simp[hij]),if_neg hf,qrr]
   by_cases hn:0≤(ql a b false).h
   ·by_cases hz:((ql a b false).h=0↔side=0)
    ·right
     refine⟨ql a b (decide (side<0)),by rw[if_pos ⟨hn,hz⟩],?_⟩
     by_cases hs:side<0
     ·have dx:=q1R (zn gb.x) (zn ga.x)
      have dy:=q1R (zn gb.y) (zn ga.y)
      have t1:=qbc (a:=(ql a b false).ax) (by show sm _ (0-(b.y-a.y));rw[qEn];exact dy.neg.sm (by omega) (by omega))
      have t2:=qbc (a:=(ql a b false).ay) (by show sm _ (b.x-a.x);exact dx.sm (by omega) (by omega))
      obtain⟨f1,f2⟩:=qqN a b
      simp only[STD,bi,bj,and_self,hij',hc,hn,hie,hbd,hz,hs,decide_true,t1,t2,f1,f2]
      rfl
     ·simp only[STD,bi,bj,and_self,hij',hc,hn,hie,hbd,hz,hs,decide_true,decide_false]
      rfl
    ·left
     refine⟨by rw[if_neg (fun c=>hz c.2)],[],[],[],[],[],?_⟩
     simp only[STD,bi,bj,and_self,hij',hc,hn,hie,hbd,hz,decide_true,decide_false]
   ·left
    refine⟨by rw[if_neg (fun c=>hn c.1)],[],[],[],[],[],?_⟩
    simp only[STD,bi,bj,and_self,hij',hc,hn,decide_false]
theorem quO{α:Type}(p:Nat→Bool)(g:Nat→α)(n:Nat):(q0i (fun i=>if p i=true then none else some (g i)) 0 n=none∧∀i,i<n→p i=true)∨∃i,i<n∧p i=false∧q0i (fun i=>if p i=true then none else some (g i)) 0 n=some (g i):=by
 cases h:q0i (fun i=>if p i=true then none else some (g i)) 0 n with
 | none=>
  refine .inl ⟨rfl,fun i hi=>?_⟩
  have:=qbH h i (by omega) (by omega)
  cases hp:p i
  ·rw[hp] at this;simp at this
  ·rfl
 | some a=>
  obtain⟨j,-,hj,hf,-⟩:=qeG h
  cases hp:p j
  ·rw[hp] at hf;simp at hf
   exact .inr ⟨j,by omega,hp,by rw[hf]⟩
  ·rw[hp] at hf;simp at hf
theorem qxb(l:List DQ)(p:DQ→Bool):l.all p=true↔∀i,i<l.length→p (ix l i)=true:=by
 rw[List.all_eq_true]
 constructor
 ·intro h i hi;exact h _ (qBZ hi)
 ·intro h d hd
  obtain⟨i,hi,rfl⟩:=qiX hd
  exact h i hi
theorem qvg{l:List DQ}{p:DQ→Bool}{i:Nat}(hi:i<l.length)(h:p (ix l i)=false):l.all p=false:=by
 cases ha:l.all p
 ·rfl
 ·have:=(qxb l p).1 ha i hi;simp_all
theorem qwW{l:List DQ}(hl:GDs l)(hn:l.length<1000000){i j:Nat}(hi:i<l.length)(hj:j<l.length)(side:Int) :
  (ze [.r (rD l),.i (i:Int),.i (j:Int),.i side,.i 0]).run=some (0,[.b (q0q l i j side),.i 0]):=by
 rw[qgA]
 unfold q0q
 rcases qCS hl hi hj side with⟨h1,a,b,c,d,e,h2⟩|⟨p,h1,h2⟩
 ·rw[h1]
  simp only[STD,h2]
 ·rw[h1]
  have hp:=qwG (hl.ix hi) (hl.ix hj) h1
  unfold plc at h2
  simp only[List.cons_append,List.nil_append] at h2
  have key:=q4V (S:=wz)
   (fun k=>[.r (rD l),.i (qj (rD l)),.i (k:Int),.r (rD l),.r (rD l),.r (rD l),.i (i:Int),.i (j:Int),.i side,.b true,.s (tQ p.fx),.s (tQ p.fy),.s (tQ p.ax),.s (tQ p.ay),.s (tQ p.h),.b true,.r (rD l),.i (i:Int),.i (j:Int),.i side,.s (tQ p.fx),.s (tQ p.fy),.s (tQ p.ax),.s (tQ p.ay),.s (tQ p.h),.b true,.s (tQ p.fx),.s (tQ p.fy),.s (tQ p.ax),.s (tQ p.ay),.s (tQ p.h),.b true,.b true,.r (rD l),.i 0,.i (i:Int),.i (j:Int),.i side,.s (tQ p.fx),.s (tQ p.fy),.s (tQ p.ax),.s (tQ p.ay),.s (tQ p.h)])
   (fun k=>if decide (jY (ix l k) p)=true then none else some (1,[.i (k:Int),.r (rD l),.r (rD l),.r (rD l),.i (i:Int),.i (j:Int),.i side,.b true,.s (tQ p.fx),.s (tQ p.fy),.s (tQ p.ax),.s (tQ p.ay),.s (tQ p.h),.b true,.r (rD l),.i (i:Int),.i (j:Int),.i side,.s (tQ p.fx),.s (tQ p.fy),.s (tQ p.ax),.s (tQ p.ay),.s (tQ p.h),.b true,.s (tQ p.fx),.s (tQ p.fy),.s (tQ p.ax),.s (tQ p.ay),.s (tQ p.h),.b true,.b true,.r (rD l),.i 0,.i (i:Int),.i (j:Int),.i side,.s (tQ p.fx),.s (tQ p.fy),.s (tQ p.ax),.s (tQ p.ay),.s (tQ p.h)]))
   (0,[.r (rD l),.r (rD l),.r (rD l),.i (i:Int),.i (j:Int),.i side,.b true,.s (tQ p.fx),.s (tQ p.fy),.s (tQ p.ax),.s (tQ p.ay),.s (tQ p.h),.b true,.r (rD l),.i (i:Int),.i (j:Int),.i side,.s (tQ p.fx),.s (tQ p.fy),.s (tQ p.ax),.s (tQ p.ay),.s (tQ p.h),.b true,.s (tQ p.fx),.s (tQ p.fy),.s (tQ p.ax),.s (tQ p.ay),.s (tQ p.h),.b true,.b true,.r (rD l),.i 0,.i (i:Int),.i (j:Int),.i side,.s (tQ p.fx),.s (tQ p.fy),.s (tQ p.ax),.s (tQ p.ay),.s (tQ p.h)])
   l.length (by omega)
   (fun k hk hf=>by
    rw[yY]
    obtain⟨x1,x2,x3⟩:=qkD hk
    have hK:=qyG (hl.ix hk) hp
    by_cases hd:jY (ix l k) p
    ·simp only[x1,x2,x3,STD,hK,hd,qH,q1m hk (show l.length<9223372036854775808 by omega),show (k:Int)<(l.length:Int) by omega,show (0:Int)≤(k:Int) by omega,and_self,decide_true]
    ·simp[hd] at hf)
   (fun k r hk hf=>by
    rw[yY]
    obtain⟨x1,x2,x3⟩:=qkD hk
    have hK:=qyG (hl.ix hk) hp
    by_cases hd:jY (ix l k) p
    ·simp[hd] at hf
    ·simp only[hd,decide_false,Bool.false_eq_true,if_false,Option.some.injEq] at hf
     subst hf
     simp only[x1,x2,x3,STD,hK,hd,qH,show (k:Int)<(l.length:Int) by omega,show (0:Int)≤(k:Int) by omega,and_self,decide_false])
   (by rw[yY];simp only[STD,qH,show ¬(l.length:Int)<(l.length:Int) by omega])
  rcases quO (fun k=>decide (jY (ix l k) p)) (fun k=>((1,[.i (k:Int),.r (rD l),.r (rD l),.r (rD l),.i (i:Int),.i (j:Int),.i side,.b true,.s (tQ p.fx),.s (tQ p.fy),.s (tQ p.ax),.s (tQ p.ay),.s (tQ p.h),.b true,.r (rD l),.i (i:Int),.i (j:Int),.i side,.s (tQ p.fx),.s (tQ p.fy),.s (tQ p.ax),.s (tQ p.ay),.s (tQ p.h),.b true,.s (tQ p.fx),.s (tQ p.fy),.s (tQ p.ax),.s (tQ p.ay),.s (tQ p.h),.b true,.b true,.r (rD l),.i 0,.i (i:Int),.i (j:Int),.i side,.s (tQ p.fx),.s (tQ p.fy),.s (tQ p.ax),.s (tQ p.ay),.s (tQ p.h)]):Nat×List PV)) l.length with⟨s1,s2⟩|⟨k,hk,s2,s1⟩
  ·rw[s1] at key
   have hall:(l.all fun d=>decide (jY d p))=true:=(qxb l _).2 s2
   simp only[Option.getD_none] at key
   simp only[STD,h2,hall]
   have key':=key
   simp only[show ((0:Nat):Int)=0 from rfl] at key'
   simp only[STD,key',qw key',show ieq 0 0=true from rfl]
  ·rw[s1] at key
   have hall:=qvg (p:=fun d=>decide (jY d p)) hk s2
   simp only[Option.getD_some] at key
   simp only[STD,h2,hall]
   have key':=key
   simp only[show ((0:Nat):Int)=0 from rfl] at key'
   simp only[STD,key',qw key',show ¬(1=0) by omega,show (0:Int)≤(k:Int) by omega]
theorem qwL{l:List DQ}(hl:GDs l)(hn:l.length<1000000){i j:Nat}(hi:i<l.length)(hj:j<l.length)(side:Int) :
  (vV [.r (rD l),.i (i:Int),.i (j:Int),.i side]).run=some (0,[.b (q0q l i j side)]):=by
 rw[qnz]
 unfold q0q
 rcases qzx hl hi hj side with⟨h1,a,b,c,d,e,h2⟩|⟨p,h1,h2⟩
 ·rw[h1]
  simp only[STD,h2]
 ·rw[h1]
  have hp:=qwG (hl.ix hi) (hl.ix hj) h1
  unfold plc at h2
  simp only[List.cons_append,List.nil_append] at h2
  have key:=q4V (S:=q45)
   (fun k=>[.r (rD l),.i (k:Int),.s (tQ p.fx),.s (tQ p.fy),.s (tQ p.ax),.s (tQ p.ay),.s (tQ p.h)])
   (fun k=>if decide (jY (ix l k) p)=true then none else some (1,[.b false]))
   (0,[]) l.length (by omega)
   (fun k hk hf=>by
    rw[q5Q]
    obtain⟨x1,x2,x3⟩:=qkD hk
    have hK:=qzr (hl.ix hk) hp.pb
    by_cases hd:jY (ix l k) p
    ·simp only[x1,x2,x3,STD,hK,hd,qH,q1m hk (show l.length<9223372036854775808 by omega),show (k:Int)<(l.length:Int) by omega,show (0:Int)≤(k:Int) by omega,and_self,decide_true]
    ·simp[hd] at hf)
   (fun k r hk hf=>by
    rw[q5Q]
    obtain⟨x1,x2,x3⟩:=qkD hk
    have hK:=qzr (hl.ix hk) hp.pb
    by_cases hd:jY (ix l k) p
    ·simp[hd] at hf
    ·simp only[hd,decide_false,Bool.false_eq_true,if_false,Option.some.injEq] at hf
     subst hf
     simp only[x1,x2,x3,STD,hK,hd,qH,show (k:Int)<(l.length:Int) by omega,show (0:Int)≤(k:Int) by omega,and_self,decide_false])
   (by rw[q5Q];simp only[STD,qH,show ¬(l.length:Int)<(l.length:Int) by omega])
  rcases quO (fun k=>decide (jY (ix l k) p)) (fun k=>((1,[.b false]):Nat×List PV)) l.length with⟨s1,s2⟩|⟨k,hk,s2,s1⟩
  ·rw[s1] at key
   have hall:(l.all fun d=>decide (jY d p))=true:=(qxb l _).2 s2
   simp only[Option.getD_none,show ((0:Nat):Int)=0 from rfl] at key
   simp only[STD,h2,hall,key,qw key]
  ·rw[s1] at key
   have hall:=qvg (p:=fun d=>decide (jY d p)) hk s2
   simp only[Option.getD_some,show ((0:Nat):Int)=0 from rfl] at key
   simp only[STD,h2,hall,key,qw key,show ¬(1=0) by omega]
end Go.Eng

namespace Go.Eng
theorem q0G{S:List PV→TR}{α:Type}(st:Nat→List PV)(f:Nat→Option α)(g:α→List PV)(fin:List PV)(n:Nat)(hn:n<9223372036854775808)
  (h:∀i,i<n→(S (st i)).run=(f i).elim (some (0,st (i+1))) (fun a=>some (2,g a))) (h3:(S (st n)).run=some (1,fin)) :
  (qg S (st 0)).run=some ((q0i f 0 n).elim (0,fin) (fun a=>(1,g a))):=by
 have key:=q4V st (fun i=>(f i).map fun a=>(1,g a)) (0,fin) n hn (fun i hi hf=>by
  rw[h i hi]
  cases hfi:f i with
  | none=>rfl
  | some a=>rw[hfi] at hf;cases hf) (fun i r hi hf=>by
  rw[h i hi]
  cases hfi:f i with
  | none=>rw[hfi] at hf;cases hf
  | some a=>rw[hfi] at hf;simp at hf;rw[←hf];rfl) h3
 rw[key,qdH]
 cases q0i f 0 n<;>rfl
def sd(s:Nat):Int:=cI [[.i 0],[.i 1],[.i (-1)]] (s:Int) 0
theorem qqR(l:List DQ)(i j:Nat):q0i (fun s=>qkh l i j (sd s)) 0 3=q78 l i j:=by
 have e0:sd 0=0:=rfl
 have e1:sd 1=1:=rfl
 have e2:sd 2=-1:=rfl
 simp only[q0i,e0,e1,e2]
 unfold q78
 cases qkh l i j 0
 ·cases qkh l i j 1
  ·cases qkh l i j (-1)<;>rfl
  ·rfl
 ·rfl
def dex(l:List DQ)(w:Nat×Nat×Int):List PV:=[.i 0,.r (rD l),.i (w.1:Int),.i (w.2.1:Int),.i w.2.2,.b true,.i (l.length:Int)]
def rex(w:Nat×Nat×Int):List PV:=[.b true,.i (w.1:Int),.i (w.2.1:Int),.i w.2.2]
def fW(o:Option (Nat×Nat×Int)):List PV:=o.elim [.i 0,.i 0,.i 0,.b false] (fun w=>[.i (w.1:Int),.i (w.2.1:Int),.i w.2.2,.b true])
theorem n3:qj [[U.i 0],[U.i 1],[U.i (-1)]]=3:=rfl
set_option maxHeartbeats 600000 in
theorem qvU{l:List DQ}(hl:GDs l)(hn:l.length<1000000):(qC [.r (rD l),.i 0]).run=some (0,fW (q0l l)++[.i 0]):=by
 rw[qhD]
 have big:l.length<9223372036854775808:=by omega
 have A:=q0G (S:=v7) (fun k=>[.i (l.length:Int),.i (k:Int),.i 0,.r (rD l),.i 0,.i 0,.i 0,.b false,.i (l.length:Int)]) (fun k=>qkh l k k 0) (dex l)
  [.i 0,.r (rD l),.i 0,.i 0,.i 0,.b false,.i (l.length:Int)] l.length big
  (fun k hk=>by
   rw[q3z]
   have hp:=qwW hl hn hk hk 0
   unfold qkh
   by_cases c:q0q l k k 0=true
   ·rw[if_pos c]
    simp only[STD,hp,c,show (k:Int)<(l.length:Int) by omega,dex]
   ·rw[if_neg c]
    simp only[STD,hp,c,show (k:Int)<(l.length:Int) by omega,q1m hk big]
    rfl)
  (by rw[q3z];simp only[STD,show ¬(l.length:Int)<(l.length:Int) by omega])
 have B:=fun i j (hi:i<l.length) (hj:j<l.length)=>q0G (S:=wB) (fun s=>[.i (i:Int),.i (j:Int),.i (l.length:Int),.i (i:Int),.i 3,.i (s:Int),.i 0,.r (rD l),.i 0,.i 0,.i 0,.b false,.i (l.length:Int),.r [[.i 0],[.i 1],[.i (-1)]]]) (fun s=>qkh l i j (sd s)) (dex l)
  [.i (i:Int),.i (j:Int),.i (l.length:Int),.i (i:Int),.i 0,.r (rD l),.i 0,.i 0,.i 0,.b false,.i (l.length:Int)] 3 (by omega)
  (fun s hs=>by
   rw[q36]
   have hp:=qwW hl hn hi hj (sd s)
   have esd:cI [[.i 0],[.i 1],[.i (-1)]] (s:Int) 0=sd s:=rfl
   unfold qkh
   by_cases c:q0q l i j (sd s)=true
   ·rw[if_pos c]
    simp only[STD,hp,c,esd,n3,show (s:Int)<3 by omega,show (0:Int)≤(s:Int) by omega,and_self,dex]
   ·rw[if_neg c]
    simp only[STD,hp,c,esd,n3,show (s:Int)<3 by omega,show (0:Int)≤(s:Int) by omega,and_self,q1m hs (show 3<9223372036854775808 by omega)]
    rfl)
  (by rw[q36];simp only[STD,show ((3:Nat):Int)=3 from rfl,show ¬(3:Int)<3 by omega])
 have C:=fun i (hi:i<l.length)=>q0G (S:=wt) (fun k=>[.i (i:Int),.i ((i+1+k:Nat):Int),.i (l.length:Int),.i (i:Int),.i 0,.r (rD l),.i 0,.i 0,.i 0,.b false,.i (l.length:Int)]) (fun k=>q78 l i (i+1+k)) (dex l)
  [.i (l.length:Int),.i (i:Int),.i 0,.r (rD l),.i 0,.i 0,.i 0,.b false,.i (l.length:Int)] (l.length-(i+1)) (by omega)
  (fun k hk=>by
   rw[q37]
   have hj:i+1+k<l.length:=by omega
   have b:=B i (i+1+k) hi hj
   rw[qqR] at b
   simp only[show ((0:Nat):Int)=0 from rfl] at b
   have w:=q1m hj big
   cases hs:q78 l i (i+1+k) with
   | none=>
    rw[hs] at b
    simp only[Option.elim] at b ⊢
    simp only[STD,b,qw b,n3,show ((i+1+k:Nat):Int)<(l.length:Int) by omega,w]
    rfl
   | some v=>
    rw[hs] at b
    simp only[Option.elim,dex] at b ⊢
    simp only[STD,b,qw b,n3,show ((i+1+k:Nat):Int)<(l.length:Int) by omega,show ¬(1=0) by omega])
  (by rw[q37];simp only[STD,show ¬((i+1+(l.length-(i+1)):Nat):Int)<(l.length:Int) by omega])
 have D:=q0G (S:=wS) (fun i=>[.i (l.length:Int),.i (i:Int),.i 0,.r (rD l),.i 0,.i 0,.i 0,.b false,.i (l.length:Int)]) (fun i=>q0i (fun k=>q78 l i (i+1+k)) 0 (l.length-(i+1))) (dex l)
  [.i 0,.r (rD l),.i 0,.i 0,.i 0,.b false,.i (l.length:Int)] l.length big
  (fun i hi=>by
   rw[q3K]
   have c:=C i hi
   simp only[Nat.add_zero] at c
   have w:=q1m hi big
   cases hs:q0i (fun k=>q78 l i (i+1+k)) 0 (l.length-(i+1)) with
   | none=>
    rw[hs] at c
    simp only[Option.elim] at c ⊢
    simp only[STD,w,c,qw c,show (i:Int)<(l.length:Int) by omega]
   | some v=>
    rw[hs] at c
    simp only[Option.elim,dex] at c ⊢
    simp only[STD,w,c,qw c,show (i:Int)<(l.length:Int) by omega,show ¬(1=0) by omega])
  (by rw[q3K];simp only[STD,show ¬(l.length:Int)<(l.length:Int) by omega])
 simp only[show ((0:Nat):Int)=0 from rfl] at A D
 unfold q0l
 cases hs:q0i (fun i=>qkh l i i 0) 0 l.length with
 | some v=>
  rw[hs] at A
  simp only[Option.elim,dex] at A
  simp only[STD,qH,A,qw A,show ¬(1=0) by omega,fW,Option.elim]
  rfl
 | none=>
  rw[hs] at A
  simp only[Option.elim] at A
  simp only[]
  cases hs':q0i (fun i=>q0i (fun k=>q78 l i (i+1+k)) 0 (l.length-(i+1))) 0 l.length with
  | none=>
   rw[hs'] at D
   simp only[Option.elim] at D
   simp only[STD,qH,A,qw A,D,qw D,fW,Option.elim]
   rfl
  | some v=>
   rw[hs'] at D
   simp only[Option.elim,dex] at D
   simp only[STD,qH,A,qw A,D,qw D,fW,Option.elim,show ¬(1=0) by omega]
   rfl
set_option maxHeartbeats 600000 in
theorem qCD{l:List DQ}(hl:GDs l)(hn:l.length<1000000):(q8d [.r (rD l)]).run=some (0,fW (q0l l)):=by
 rw[qpT]
 have big:l.length<9223372036854775808:=by omega
 have A:=q0G (S:=q5n) (fun k=>[.r (rD l),.i (k:Int),.i 0,.i 0,.i 0]) (fun k=>qkh l k k 0) rex
  [.r (rD l),.i 0,.i 0,.i 0] l.length big
  (fun k hk=>by
   rw[qeo]
   have hp:=qwL hl hn hk hk 0
   unfold qkh
   by_cases c:q0q l k k 0=true
   ·rw[if_pos c]
    simp only[STD,hp,c,qH,show (k:Int)<(l.length:Int) by omega,rex]
   ·rw[if_neg c]
    simp only[STD,hp,c,qH,show (k:Int)<(l.length:Int) by omega,q1m hk big]
    rfl)
  (by rw[qeo];simp only[STD,qH,show ¬(l.length:Int)<(l.length:Int) by omega])
 have B:=fun i j (hi:i<l.length) (hj:j<l.length)=>q0G (S:=q4a) (fun s=>[.r (rD l),.i (i:Int),.i (j:Int),.i 3,.i (s:Int),.i 0,.i 0,.i 0,.r [[.i 0],[.i 1],[.i (-1)]]]) (fun s=>qkh l i j (sd s)) rex
  [.r (rD l),.i (i:Int),.i (j:Int),.i 0,.i 0,.i 0] 3 (by omega)
  (fun s hs=>by
   rw[qc5]
   have hp:=qwL hl hn hi hj (sd s)
   have esd:cI [[.i 0],[.i 1],[.i (-1)]] (s:Int) 0=sd s:=rfl
   unfold qkh
   by_cases c:q0q l i j (sd s)=true
   ·rw[if_pos c]
    simp only[STD,hp,c,esd,n3,show (s:Int)<3 by omega,show (0:Int)≤(s:Int) by omega,and_self,rex]
   ·rw[if_neg c]
    simp only[STD,hp,c,esd,n3,show (s:Int)<3 by omega,show (0:Int)≤(s:Int) by omega,and_self,q1m hs (show 3<9223372036854775808 by omega)]
    rfl)
  (by rw[qc5];simp only[STD,show ((3:Nat):Int)=3 from rfl,show ¬(3:Int)<3 by omega])
 have C:=fun i (hi:i<l.length)=>q0G (S:=q3X) (fun k=>[.r (rD l),.i (i:Int),.i ((i+1+k:Nat):Int),.i 0,.i 0,.i 0]) (fun k=>q78 l i (i+1+k)) rex
  [.r (rD l),.i (i:Int),.i 0,.i 0,.i 0] (l.length-(i+1)) (by omega)
  (fun k hk=>by
   rw[qcu]
   have hj:i+1+k<l.length:=by omega
   have b:=B i (i+1+k) hi hj
   rw[qqR] at b
   simp only[show ((0:Nat):Int)=0 from rfl] at b
   have w:=q1m hj big
   cases hs:q78 l i (i+1+k) with
   | none=>
    rw[hs] at b
    simp only[Option.elim] at b ⊢
    simp only[STD,b,qw b,n3,qH,show ((i+1+k:Nat):Int)<(l.length:Int) by omega,w]
    rfl
   | some v=>
    rw[hs] at b
    simp only[Option.elim,rex] at b ⊢
    simp only[STD,b,qw b,n3,qH,show ((i+1+k:Nat):Int)<(l.length:Int) by omega,show ¬(1=0) by omega])
  (by rw[qcu];simp only[STD,qH,show ¬((i+1+(l.length-(i+1)):Nat):Int)<(l.length:Int) by omega])
 have D:=q0G (S:=q41) (fun i=>[.r (rD l),.i (i:Int),.i 0,.i 0,.i 0]) (fun i=>q0i (fun k=>q78 l i (i+1+k)) 0 (l.length-(i+1))) rex
  [.i 0,.i 0,.i 0] l.length big
  (fun i hi=>by
   rw[qbM]
   have c:=C i hi
   simp only[Nat.add_zero] at c
   have w:=q1m hi big
   cases hs:q0i (fun k=>q78 l i (i+1+k)) 0 (l.length-(i+1)) with
   | none=>
    rw[hs] at c
    simp only[Option.elim] at c ⊢
    simp only[STD,w,c,qw c,qH,show (i:Int)<(l.length:Int) by omega]
   | some v=>
    rw[hs] at c
    simp only[Option.elim,rex] at c ⊢
    simp only[STD,w,c,qw c,qH,show (i:Int)<(l.length:Int) by omega,show ¬(1=0) by omega])
  (by rw[qbM];simp only[STD,qH,show ¬(l.length:Int)<(l.length:Int) by omega])
 simp only[show ((0:Nat):Int)=0 from rfl] at A D
 unfold q0l
 cases hs:q0i (fun i=>qkh l i i 0) 0 l.length with
 | some v=>
  rw[hs] at A
  simp only[Option.elim,rex] at A
  simp only[STD,A,qw A,show ¬(1=0) by omega,fW,Option.elim]
 | none=>
  rw[hs] at A
  simp only[Option.elim] at A
  simp only[]
  cases hs':q0i (fun i=>q0i (fun k=>q78 l i (i+1+k)) 0 (l.length-(i+1))) 0 l.length with
  | none=>
   rw[hs'] at D
   simp only[Option.elim] at D
   simp only[STD,A,qw A,D,qw D,fW,Option.elim]
  | some v=>
   rw[hs'] at D
   simp only[Option.elim,rex] at D
   simp only[STD,A,qw A,D,qw D,fW,Option.elim,show ¬(1=0) by omega]
end Go.Eng

namespace Go.Eng
theorem qzs{d:DQ}(h:GD d):qDa (tQ d.x) (tQ d.y) (tQ d.s)=0:=
 qD2 ((zn h.x).ok (by omega) (by omega)) ((zn h.y).ok (by omega) (by omega)) ((q3U h.s).ok (by omega) (by omega)) h.nn
theorem qqU{d:DQ}{px py:Rat}(gd:GD d)(hx:bnd 12 10 px)(hy:bnd 12 10 py) :
  (zQ [.s (tQ d.x),.s (tQ d.y),.s (tQ d.s),.s (tQ px),.s (tQ py)]).run=some (0,[.b (decide (uF d.x d.y px py≤d.s)),.i 0]):=by
 rw[qcj]
 have ca:=qdC _ _ _ (show (tQ d.x).length≤1000000 from by have:=q9o ((zn gd.x).ok (by omega) (by omega));omega) (show (tQ d.y).length≤1000000 from by have:=q9o ((zn gd.y).ok (by omega) (by omega));omega) (show (tQ d.s).length≤1000000 from by have:=q9o ((q3U gd.s).ok (by omega) (by omega));omega)
 rw[qzs gd] at ca
 have c0:=q48 (hx.ok (by omega) (by omega))
 have c1:=q48 (hy.ok (by omega) (by omega))
 have L:=q0G (S:=jE) (fun k=>[.i 2,.i (k:Int),.s (tQ d.x),.s (tQ d.y),.s (tQ d.s),.s (tQ px),.s (tQ py),.r [[.s (tQ px)],[.s (tQ py)]]]) (fun _=>(none:Option Nat)) (fun _=>[])
  [.s (tQ d.x),.s (tQ d.y),.s (tQ d.s),.s (tQ px),.s (tQ py)] 2 (by omega)
  (fun k hk=>by
   rw[q0F]
   have w:=q1m hk (show 2<9223372036854775808 by omega)
   rcases (show k=0∨k=1 by omega) with rfl|rfl
   ·have c:(qE [.s (cS [[.s (tQ px)],[.s (tQ py)]] ((0:Nat):Int) 0)]).run=_:=c0
    simp only[STD,c,w,show ((0:Nat):Int)<2 by omega,show (0:Int)≤((0:Nat):Int) by omega,show qj [[U.s (tQ px)],[U.s (tQ py)]]=2 from rfl,and_self]
    rfl
   ·have c:(qE [.s (cS [[.s (tQ px)],[.s (tQ py)]] ((1:Nat):Int) 0)]).run=_:=c1
    simp only[STD,c,w,show ((1:Nat):Int)<2 by omega,show (0:Int)≤((1:Nat):Int) by omega,show qj [[U.s (tQ px)],[U.s (tQ py)]]=2 from rfl,and_self]
    rfl)
  (by rw[q0F];simp only[STD,show ((2:Nat):Int)=2 from rfl,show ¬(2:Int)<2 by omega])
 simp only[show ((0:Nat):Int)=0 from rfl,q0i,Option.elim] at L
 obtain⟨d1,d2,d3⟩:=gd.sh
 have f:=qEF d1 d2 hx hy
 have fb:=qll d1 d2 hx hy
 have o:=qyu fb d3 (by omega) (by omega) (by omega)
 by_cases c:uF d.x d.y px py≤d.s
 ·simp only[STD,ca,show qj [[U.s (tQ px)],[U.s (tQ py)]]=2 from rfl,L,qw L,f,o,qg2,c,show ieq 0 0=true from rfl,decide_true]
 ·simp only[STD,ca,show qj [[U.s (tQ px)],[U.s (tQ py)]]=2 from rfl,L,qw L,f,o,qg2,c,decide_false]
end Go.Eng

namespace Go.Eng
noncomputable def cD(x:R)(i:Nat):Int:=qDa (cS x (i:Int) 0) (cS x (i:Int) 1) (cS x (i:Int) 2)
noncomputable def lE(x:R):Int:=if 64<x.length then 5 else if qat (cD x) x.length=0 then (if x.length=0 then 13 else 0) else qat (cD x) x.length
theorem qu0(x:R)(h:64<x.length∨∀i,i<x.length→∀j,(cS x (i:Int) j).length≤1000000):(zL [.r x]).run=some (0,[.i (lE x)]):=by
 rw[qsk]
 unfold lE
 by_cases hn:64<x.length
 ·have:(64:Int)<qj x:=by unfold qj;omega
  simp only[STD,this,hn]
 ·have h':∀i,i<x.length→∀j,(cS x (i:Int) j).length≤1000000:=by
   rcases h with h|h
   ·omega
   ·exact h
  have hn':¬(64:Int)<qj x:=by unfold qj;omega
  have L:=qrQ (S:=q3H) (fun k=>[.r x,.r x,.i (qj x),.i (k:Int)]) (cD x) [] [.r x] x.length (by omega)
   (fun i hi=>by
    rw[qfB]
    have c:=qdC _ _ _ (h' i hi 0) (h' i hi 1) (h' i hi 2)
    have w:=q1m hi (show x.length<9223372036854775808 by omega)
    by_cases e:qDa (cS x (i:Int) 0) (cS x (i:Int) 1) (cS x (i:Int) 2)=0
    ·simp only[STD,c,e,w,qBS hi,q4v,and_self,cD]
    ·simp only[STD,c,e,qBS hi,q4v,and_self,cD])
   (by rw[qfB];simp only[STD,qCR])
  simp only[show ((0:Nat):Int)=0 from rfl] at L
  by_cases e:qat (cD x) x.length=0
  ·rw[if_pos e] at L
   by_cases z:x.length=0
   ·have:qj x=0:=by unfold qj;omega
    rw[if_neg hn,if_pos e,if_pos z]
    have L':=L
    rw[this] at L'
    simp only[STD,this,show ¬(64:Int)<0 by omega,L',qw L']
   ·have:¬qj x=0:=by unfold qj;omega
    simp only[STD,hn',L,qw L,hn,e,z,this]
  ·rw[if_neg e] at L
   simp only[STD,hn',L,qw L,hn,e,show ¬(1=0) by omega]
instance (s:List UInt8):Decidable (shT s):=by unfold shT;infer_instance
theorem qCF(x:R)(i:Nat)(j:Nat):cS x (i:Int) j=((x.getD i []).getD j (.i 0)).toS:=rfl
theorem qEK{l:List DQ}(hl:GDs l)(h0:l≠[])(hn:l.length≤64):lE (rD l)=0:=by
 have hlen:(rD l).length=l.length:=by simp[rD]
 have hz:l.length≠0:=fun h=>h0 (List.length_eq_zero_iff.1 h)
 unfold lE
 rw[hlen,if_neg (by omega),if_neg hz,if_pos]
 refine qz6 fun i hi=>?_
 obtain⟨x1,x2,x3⟩:=qkD hi
 unfold cD
 rw[x1,x2,x3]
 exact qzs (hl.ix hi)
theorem qCs{l:List DQ}(hl:GDs l):∀i,i<(rD l).length→∀j,(cS (rD l) (i:Int) j).length≤1000000:=by
 intro i hi j
 have hi':i<l.length:=by simpa[rD] using hi
 obtain⟨x1,x2,x3⟩:=qkD hi'
 have g:=hl.ix hi'
 match j with
 | 0=>rw[x1];have:=q9o ((zn g.x).ok (by omega) (by omega));omega
 | 1=>rw[x2];have:=q9o ((zn g.y).ok (by omega) (by omega));omega
 | 2=>rw[x3];have:=q9o ((q3U g.s).ok (by omega) (by omega));omega
 | j+3=>
  rw[qCF]
  have e:(rD l).getD i []=qeE (ix l i):=by
   unfold rD ix
   simp[List.getD_eq_getElem?_getD,hi']
  rw[e];simp[qeE,List.getD_eq_getElem?_getD,U.toS]
theorem qsO{l:List DQ}(hl:GDs l)(h0:l≠[])(hn:l.length≤64):(zL [.r (rD l)]).run=some (0,[.i 0]):=by
 rw[qu0 _ (.inr (qCs hl)),qEK hl h0 hn]
def cW(o:Option (Nat×Nat×Int)):List PV:=o.elim [.b false,.i 0,.i 0,.i 0,.i 0] (fun w=>[.b true,.i (w.1:Int),.i (w.2.1:Int),.i w.2.2,.i 0])
theorem qoP{l:List DQ}(hl:GDs l)(h0:l≠[])(hn:l.length≤64):(uV [.r (rD l)]).run=some (0,cW (q0l l)):=by
 rw[qn3]
 have a:=qsO hl h0 hn
 have b:=qvU hl (by omega)
 cases hf:q0l l with
 | none=>
  rw[hf] at b
  simp only[fW,Option.elim,List.cons_append,List.nil_append] at b
  simp only[STD,a,b,cW,Option.elim]
 | some w=>
  rw[hf] at b
  simp only[fW,Option.elim,List.cons_append,List.nil_append] at b
  simp only[STD,a,b,cW,Option.elim]
end Go.Eng

namespace Go.Eng
theorem qhR(l:R)(h:l.length<9223372036854775808):(vM [.r l,.r l]).run=some (0,[.b true]):=by
 have e:(qg wR [.r l,.r l,.i (qj l),.i 0]).run=some (0,[]):=by
  refine jy (fun i=>[.r l,.r l,.i (qj l),.i (i:Int)]) (0,[]) l.length h (fun i hi=>?_) ?_
  ·have h1:(i:Int)<qj l:=by unfold qj;omega
   rw[q3D]
   simp only[STD,h1,q1m hi h,show (0:Int)≤(i:Int) by omega,and_self]
  ·rw[q3D]
   simp only[STD,show ¬((l.length:Int)<qj l) by unfold qj;omega]
 rw[qcG]
 simp only[STD,e,qw e]
end Go.Eng

namespace Go.Eng
def two(i j:Nat):R:=[[.i (i:Int)],[.i (j:Int)]]
def qqb(i j k:Nat):R:=[[.i (i:Int)],[.i (j:Int)],[.i (k:Int)]]
def qk0(l:List DQ)(i j:Nat):Option R:=if (q0l [ix l i,ix l j]).isSome=true then none else some (two i j)
def qjM(l:List DQ)(i j k:Nat):Option R:=if (q0l [ix l i,ix l j,ix l k]).isSome=true then none else some (qqb i j k)
def qCT(l:List DQ):Option R:=q0i (fun i=>q0i (fun k=>qk0 l i (i+1+k)) 0 (l.length-(i+1))) 0 l.length
def qDS(l:List DQ):Option R:=q0i (fun i=>q0i (fun k=>q0i (fun m=>qjM l i (i+1+k) (i+1+k+1+m)) 0 (l.length-(i+1+k+1))) 0 (l.length-(i+1))) 0 l.length
def qn5(l:List DQ):R:=(qCT l).elim ((qDS l).getD []) id
theorem qEW{a b:DQ}(ga:GD a)(gb:GD b):GDs [a,b]:=fun d hd=>by
 simp only[List.mem_cons,List.not_mem_nil,or_false] at hd
 rcases hd with rfl|rfl<;>assumption
theorem qEX{a b c:DQ}(ga:GD a)(gb:GD b)(gc:GD c):GDs [a,b,c]:=fun d hd=>by
 simp only[List.mem_cons,List.not_mem_nil,or_false] at hd
 rcases hd with rfl|rfl|rfl<;>assumption
theorem qAb(o:Option (Nat×Nat×Int)):∃a b c,fW o=[.i a,.i b,.i c,.b o.isSome]:=by
 cases o with
 | none=>exact⟨_,_,_,rfl⟩
 | some w=>exact⟨_,_,_,rfl⟩
theorem qEs(l:List DQ)(i j k:Nat)(hk:k<2):∃m,(m=i∨m=j)∧cI (two i j) (k:Int) 0=(m:Int)∧[qeE (ix l i),qeE (ix l j)].take (k+1)=[qeE (ix l i),qeE (ix l j)].take k++[qeE (ix l m)]:=by
 rcases (show k=0∨k=1 by omega) with rfl|rfl
 ·exact⟨i,.inl rfl,rfl,rfl⟩
 ·exact⟨j,.inr rfl,rfl,rfl⟩
theorem qEG(l:List DQ)(i j o k:Nat)(hk:k<3):∃m,(m=i∨m=j∨m=o)∧cI (qqb i j o) (k:Int) 0=(m:Int)∧[qeE (ix l i),qeE (ix l j),qeE (ix l o)].take (k+1)=[qeE (ix l i),qeE (ix l j),qeE (ix l o)].take k++[qeE (ix l m)]:=by
 rcases (show k=0∨k=1∨k=2 by omega) with rfl|rfl|rfl
 ·exact⟨i,.inl rfl,rfl,rfl⟩
 ·exact⟨j,.inr (.inl rfl),rfl,rfl⟩
 ·exact⟨o,.inr (.inr rfl),rfl,rfl⟩
theorem qsR{x:R}{k:Nat}:qj (x.take k)≤qj x:=by unfold qj;rw[List.length_take];omega
theorem qwR(i j:Nat):qj (two i j)=2:=rfl
theorem qqD(i j k:Nat):qj (qqb i j k)=3:=rfl
theorem qAp{l:List DQ}(_:l.length<1000000){i j:Nat}(hi:i<l.length)(hj:j<l.length)(a b c d e f g h:Int) :
  (qg qU [.i (qj (two i j)),.i 0,.i a,.i b,.i c,.i d,.i e,.r (rD l),.i f,.i g,.i h,.r (rD l),.i 0,.r (two i j),.r []]).run=some (0,[.i a,.i b,.i c,.i d,.i e,.r (rD l),.i f,.i g,.i h,.r (rD l),.i 0,.r (two i j),.r (rD [ix l i,ix l j])]):=by
 have key:=jy (S:=qU) (fun k=>[.i (qj (two i j)),.i (k:Int),.i a,.i b,.i c,.i d,.i e,.r (rD l),.i f,.i g,.i h,.r (rD l),.i 0,.r (two i j),.r ([qeE (ix l i),qeE (ix l j)].take k)])
  (0,[.i a,.i b,.i c,.i d,.i e,.r (rD l),.i f,.i g,.i h,.r (rD l),.i 0,.r (two i j),.r (rD [ix l i,ix l j])]) 2 (by omega)
  (fun k hk=>by
   rw[q0m]
   obtain⟨m,hm,e1,e2⟩:=qEs l i j k hk
   have hml:m<l.length:=by rcases hm with rfl|rfl<;>assumption
   obtain⟨x1,x2,x3⟩:=qkD hml
   have w:=q1m hk (show 2<9223372036854775808 by omega)
   have t:=qsR (x:=[qeE (ix l i),qeE (ix l j)]) (k:=k)
   have t2:qj [qeE (ix l i),qeE (ix l j)]=2:=rfl
   have t1:qj [[U.s (tQ (ix l m).x),U.s (tQ (ix l m).y),U.s (tQ (ix l m).s)]]=1:=rfl
   rw[e1,x1,x2,x3,e2]
   simp only[STD,qwR,show (k:Int)<2 by omega,q4v,qH,show (m:Int)<(l.length:Int) by omega,and_self,w,show qj ([qeE (ix l i),qeE (ix l j)].take k)+qj [[U.s (tQ (ix l m).x),U.s (tQ (ix l m).y),U.s (tQ (ix l m).s)]]≤2932031007402 by omega]
   rfl)
  (by rw[q0m];simp only[STD,qwR,show ¬((2:Nat):Int)<2 by omega];rfl)
 exact key
theorem qzc{l:List DQ}(_:l.length<1000000){i j o:Nat}(hi:i<l.length)(hj:j<l.length)(ho:o<l.length)(a b c d e f g h p q:Int) :
  (qg qV [.i (qj (qqb i j o)),.i 0,.i a,.i b,.i c,.i d,.i e,.i f,.r (rD l),.i g,.i h,.i p,.i q,.r (rD l),.i 0,.r (qqb i j o),.r []]).run=some (0,[.i a,.i b,.i c,.i d,.i e,.i f,.r (rD l),.i g,.i h,.i p,.i q,.r (rD l),.i 0,.r (qqb i j o),.r (rD [ix l i,ix l j,ix l o])]):=by
 have key:=jy (S:=qV) (fun k=>[.i (qj (qqb i j o)),.i (k:Int),.i a,.i b,.i c,.i d,.i e,.i f,.r (rD l),.i g,.i h,.i p,.i q,.r (rD l),.i 0,.r (qqb i j o),.r ([qeE (ix l i),qeE (ix l j),qeE (ix l o)].take k)])
  (0,[.i a,.i b,.i c,.i d,.i e,.i f,.r (rD l),.i g,.i h,.i p,.i q,.r (rD l),.i 0,.r (qqb i j o),.r (rD [ix l i,ix l j,ix l o])]) 3 (by omega)
  (fun k hk=>by
   rw[q0j]
   obtain⟨m,hm,e1,e2⟩:=qEG l i j o k hk
   have hml:m<l.length:=by rcases hm with rfl|rfl|rfl<;>assumption
   obtain⟨x1,x2,x3⟩:=qkD hml
   have w:=q1m hk (show 3<9223372036854775808 by omega)
   have t:=qsR (x:=[qeE (ix l i),qeE (ix l j),qeE (ix l o)]) (k:=k)
   have t2:qj [qeE (ix l i),qeE (ix l j),qeE (ix l o)]=3:=rfl
   have t1:qj [[U.s (tQ (ix l m).x),U.s (tQ (ix l m).y),U.s (tQ (ix l m).s)]]=1:=rfl
   rw[e1,x1,x2,x3,e2]
   simp only[STD,qqD,show (k:Int)<3 by omega,q4v,qH,show (m:Int)<(l.length:Int) by omega,and_self,w,show qj ([qeE (ix l i),qeE (ix l j),qeE (ix l o)].take k)+qj [[U.s (tQ (ix l m).x),U.s (tQ (ix l m).y),U.s (tQ (ix l m).s)]]≤2932031007402 by omega]
   rfl)
  (by rw[q0j];simp only[STD,qqD,show ¬((3:Nat):Int)<3 by omega];rfl)
 exact key
theorem qvv{l:List DQ}(hl:GDs l)(h0:l≠[])(hn:l.length≤64):(jf [.r (rD l)]).run=some (0,[.r (qn5 l),.i 0]):=by
 rw[qeA]
 have a:=qsO hl h0 hn
 have big:l.length<9223372036854775808:=by omega
 have A:=fun i (hi:i<l.length)=>q0G (S:=v8) (fun k=>[.i (i:Int),.i ((i+1+k:Nat):Int),.i (l.length:Int),.i (i:Int),.r (rD l),.i 0]) (fun k=>qk0 l i (i+1+k)) (fun r=>[.i 0,.r r])
  [.i (l.length:Int),.i (i:Int),.r (rD l),.i 0] (l.length-(i+1)) (by omega)
  (fun k hk=>by
   rw[q3w]
   have hj:i+1+k<l.length:=by omega
   have g:=qAp (l:=l) (by omega) hi hj (i:Int) ((i+1+k:Nat):Int) (l.length:Int) (i:Int) ((i+1+k:Nat):Int) (l.length:Int) (i:Int) ((i+1+k:Nat):Int)
   have f:=qvU (qEW (hl.ix hi) (hl.ix hj)) (by simp)
   obtain⟨u,v,w,hfw⟩:=qAb (q0l [ix l i,ix l (i+1+k)])
   rw[hfw] at f
   simp only[List.cons_append,List.nil_append] at f
   have ws:=q1m hj big
   have tw:[[U.i (i:Int)],[U.i ((i+1+k:Nat):Int)]]=two i (i+1+k):=rfl
   rw[tw]
   unfold qk0
   cases hs:(q0l [ix l i,ix l (i+1+k)]).isSome
   ·rw[hs] at f
    simp only[STD,qH,g,f,show ((i+1+k:Nat):Int)<(l.length:Int) by omega,show ieq 0 0=true from rfl,Option.elim,tw]
   ·rw[hs] at f
    simp only[STD,qH,g,f,show ((i+1+k:Nat):Int)<(l.length:Int) by omega,Option.elim,ws]
    rfl)
  (by rw[q3w];simp only[STD,qH,show ¬((i+1+(l.length-(i+1)):Nat):Int)<(l.length:Int) by omega])
 have B:=q0G (S:=vl) (fun i=>[.i (l.length:Int),.i (i:Int),.r (rD l),.i 0]) (fun i=>q0i (fun k=>qk0 l i (i+1+k)) 0 (l.length-(i+1))) (fun r=>[.i 0,.r r])
  [.r (rD l),.i 0] l.length big
  (fun i hi=>by
   rw[q4q]
   have c:=A i hi
   simp only[Nat.add_zero] at c
   have w:=q1m hi big
   cases hs:q0i (fun k=>qk0 l i (i+1+k)) 0 (l.length-(i+1)) with
   | none=>
    rw[hs] at c
    simp only[Option.elim] at c ⊢
    simp only[STD,w,c,qw c,show (i:Int)<(l.length:Int) by omega]
   | some v=>
    rw[hs] at c
    simp only[Option.elim] at c ⊢
    simp only[STD,w,c,qw c,show (i:Int)<(l.length:Int) by omega,show ¬(1=0) by omega])
  (by rw[q4q];simp only[STD,show ¬(l.length:Int)<(l.length:Int) by omega])
 have C:=fun i j (hi:i<l.length) (hj:j<l.length)=>q0G (S:=wU) (fun k=>[.i (i:Int),.i (j:Int),.i ((j+1+k:Nat):Int),.i (l.length:Int),.i (i:Int),.r (rD l),.i 0]) (fun k=>qjM l i j (j+1+k)) (fun r=>[.i 0,.r r])
  [.i (i:Int),.i (j:Int),.i (l.length:Int),.i (i:Int),.r (rD l),.i 0] (l.length-(j+1)) (by omega)
  (fun k hk=>by
   rw[q3x]
   have ho:j+1+k<l.length:=by omega
   have g:=qzc (l:=l) (by omega) hi hj ho (i:Int) (j:Int) ((j+1+k:Nat):Int) (l.length:Int) (i:Int) ((j+1+k:Nat):Int) (l.length:Int) (i:Int) (j:Int) ((j+1+k:Nat):Int)
   have f:=qvU (qEX (hl.ix hi) (hl.ix hj) (hl.ix ho)) (by simp)
   obtain⟨u,v,w,hfw⟩:=qAb (q0l [ix l i,ix l j,ix l (j+1+k)])
   rw[hfw] at f
   simp only[List.cons_append,List.nil_append] at f
   have ws:=q1m ho big
   have tw:[[U.i (i:Int)],[U.i (j:Int)],[U.i ((j+1+k:Nat):Int)]]=qqb i j (j+1+k):=rfl
   rw[tw]
   unfold qjM
   cases hs:(q0l [ix l i,ix l j,ix l (j+1+k)]).isSome
   ·rw[hs] at f
    simp only[STD,qH,g,f,show ((j+1+k:Nat):Int)<(l.length:Int) by omega,show ieq 0 0=true from rfl,Option.elim,tw]
   ·rw[hs] at f
    simp only[STD,qH,g,f,show ((j+1+k:Nat):Int)<(l.length:Int) by omega,Option.elim,ws]
    rfl)
  (by rw[q3x];simp only[STD,qH,show ¬((j+1+(l.length-(j+1)):Nat):Int)<(l.length:Int) by omega])
 have D:=fun i (hi:i<l.length)=>q0G (S:=wV) (fun k=>[.i (i:Int),.i ((i+1+k:Nat):Int),.i (l.length:Int),.i (i:Int),.r (rD l),.i 0]) (fun k=>q0i (fun m=>qjM l i (i+1+k) (i+1+k+1+m)) 0 (l.length-(i+1+k+1))) (fun r=>[.i 0,.r r])
  [.i (l.length:Int),.i (i:Int),.r (rD l),.i 0] (l.length-(i+1)) (by omega)
  (fun k hk=>by
   rw[q3t]
   have hj:i+1+k<l.length:=by omega
   have c:=C i (i+1+k) hi hj
   simp only[Nat.add_zero] at c
   have w:=q1m hj big
   cases hs:q0i (fun m=>qjM l i (i+1+k) (i+1+k+1+m)) 0 (l.length-(i+1+k+1)) with
   | none=>
    rw[hs] at c
    simp only[Option.elim] at c ⊢
    simp only[STD,w,c,qw c,qH,show ((i+1+k:Nat):Int)<(l.length:Int) by omega]
    rfl
   | some v=>
    rw[hs] at c
    simp only[Option.elim] at c ⊢
    simp only[STD,w,c,qw c,qH,show ((i+1+k:Nat):Int)<(l.length:Int) by omega,show ¬(1=0) by omega])
  (by rw[q3t];simp only[STD,qH,show ¬((i+1+(l.length-(i+1)):Nat):Int)<(l.length:Int) by omega])
 have E:=q0G (S:=wT) (fun i=>[.i (l.length:Int),.i (i:Int),.r (rD l),.i 0]) (fun i=>q0i (fun k=>q0i (fun m=>qjM l i (i+1+k) (i+1+k+1+m)) 0 (l.length-(i+1+k+1))) 0 (l.length-(i+1))) (fun r=>[.i 0,.r r])
  [.i 0] l.length big
  (fun i hi=>by
   rw[q3N]
   have c:=D i hi
   simp only[Nat.add_zero] at c
   have w:=q1m hi big
   cases hs:q0i (fun k=>q0i (fun m=>qjM l i (i+1+k) (i+1+k+1+m)) 0 (l.length-(i+1+k+1))) 0 (l.length-(i+1)) with
   | none=>
    rw[hs] at c
    simp only[Option.elim] at c ⊢
    simp only[STD,w,c,qw c,show (i:Int)<(l.length:Int) by omega]
   | some v=>
    rw[hs] at c
    simp only[Option.elim] at c ⊢
    simp only[STD,w,c,qw c,show (i:Int)<(l.length:Int) by omega,show ¬(1=0) by omega])
  (by rw[q3N];simp only[STD,show ¬(l.length:Int)<(l.length:Int) by omega])
 simp only[show ((0:Nat):Int)=0 from rfl] at B E
 unfold qn5
 cases hp:qCT l with
 | some r=>
  rw[show q0i (fun i=>q0i (fun k=>qk0 l i (i+1+k)) 0 (l.length-(i+1))) 0 l.length=some r from hp] at B
  simp only[Option.elim] at B
  simp only[STD,a,qH,B,qw B,Option.elim,id,show ¬(1=0) by omega]
 | none=>
  rw[show q0i (fun i=>q0i (fun k=>qk0 l i (i+1+k)) 0 (l.length-(i+1))) 0 l.length=none from hp] at B
  simp only[Option.elim] at B
  cases ht:qDS l with
  | some r=>
   rw[show q0i (fun i=>q0i (fun k=>q0i (fun m=>qjM l i (i+1+k) (i+1+k+1+m)) 0 (l.length-(i+1+k+1))) 0 (l.length-(i+1))) 0 l.length=some r from ht] at E
   simp only[Option.elim] at E
   simp only[STD,a,qH,B,qw B,E,qw E,Option.elim,Option.getD_some,show ¬(1=0) by omega]
  | none=>
   rw[show q0i (fun i=>q0i (fun k=>q0i (fun m=>qjM l i (i+1+k) (i+1+k+1+m)) 0 (l.length-(i+1+k+1))) 0 (l.length-(i+1))) 0 l.length=none from ht] at E
   simp only[Option.elim] at E
   simp only[STD,a,qH,B,qw B,E,qw E,Option.elim,Option.getD_none]
end Go.Eng

namespace Go.Eng
theorem qzz{l l':List DQ}(h:quD l)(hg:∀d'∈l',∃d∈l,d.x=d'.x∧d.y=d'.y∧d.s≤d'.s):quD l':=by
 obtain⟨x,y,hm⟩:=h
 refine⟨x,y,fun d' hd'=>?_⟩
 obtain⟨d,hd,e1,e2,e3⟩:=hg d' hd'
 have:=hm d hd
 unfold pw at *
 rw[←e1,←e2]
 grind
def mvD(u v:Rat)(d:DQ):DQ:=⟨d.x+u,d.y+v,d.s⟩
theorem qEO(d:DQ)(u v x y:Rat):pw (mvD u v d) (x+u) (y+v)=pw d x y:=by
 unfold pw mvD;grind
theorem qtq{l:List DQ}(u v:Rat)(h:quD l):quD (l.map (mvD u v)):=by
 obtain⟨x,y,hm⟩:=h
 refine⟨x+u,y+v,fun d' hd'=>?_⟩
 obtain⟨d,hd,rfl⟩:=List.mem_map.1 hd'
 rw[qEO];exact hm d hd
theorem qCm(u v:Rat)(l:List DQ):(l.map (mvD u v)).map (mvD (-u) (-v))=l:=by
 rw[List.map_map]
 have:(mvD (-u) (-v)∘mvD u v)=id:=by
  funext d
  show (⟨d.x+u+-u,d.y+v+-v,d.s⟩:DQ)=d
  have e1:d.x+u+-u=d.x:=by grind
  have e2:d.y+v+-v=d.y:=by grind
  rw[e1,e2]
 rw[this,List.map_id]
theorem qrk(u v:Rat)(l:List DQ):quD (l.map (mvD u v))↔quD l:=
 ⟨fun h=>by have:=qtq (-u) (-v) h;rwa [qCm] at this,qtq u v⟩
end Go.Eng

namespace Go.Eng
def chk(x0 x1 x2 x3 x4 x5:Int)(x6:Bool):Int:=
 if ¬(-100000≤x0∧x0≤100000∧-100000≤x1∧x1≤100000∧1≤x2∧x2≤100000∧1≤x3∧x3≤100000) then 2
 else if x3<x2 then 9
 else if x4<0∨100000<x4∨(x6=false∧x2≤x4) then 2
 else if x5<0∨2<x5 then 1 else 0
theorem qkj(x:Int):(yC [.i x]).run=some (0,[.b (decide (-100000≤x∧x≤100000))]):=by
 rw[qwd];simp only[qjn,q8e,qeT];by_cases h:-100000≤x<;>simp[h,ile]
theorem qqO(x:Int):(q4z [.i x]).run=some (0,[.b (decide (-100000≤x∧x≤100000))]):=by
 rw[qvQ];simp only[qjn,q8e,qeT];by_cases h:-100000≤x<;>simp[h,ile]
theorem qeW(x:Int):(jj [.i x]).run=some (0,[.b (decide (1≤x∧x≤100000))]):=by
 rw[qsv];simp only[qjn,q8e,qeT];by_cases h:1≤x<;>simp[h,ile]
theorem qfF(x:Int):(jk [.i x]).run=some (0,[.b (decide (1≤x∧x≤100000))]):=by
 rw[qrt];simp only[qjn,q8e,qeT];by_cases h:1≤x<;>simp[h,ile]
theorem qdA(x y:Int):(yg [.i x,.i y]).run=some (0,[.b (decide (-100000≤x∧x≤100000∧-100000≤y∧y≤100000))]):=by
 rw[qph];simp only[qjn,q8e,qun (qqO _),gB,qA8 (qqO _),List.getD_cons_zero,PV.toB,if_true,decide_eq_true_eq]
 by_cases h:-100000≤x<;>by_cases h2:x≤100000<;>simp[h,h2]
theorem qdu(x0 x1 x2 x3 x4 x5:Int)(x6:Bool):(yf [.i x0,.i x1,.i x2,.i x3,.i x4,.i x5,.b x6]).run=some (0,[.i (chk x0 x1 x2 x3 x4 x5 x6)]):=by
 rw[qpK]
 simp only[qjn,q8e,qun (qkj _),gB,qA8 (qkj _),qun (qeW _),qA8 (qeW _),List.getD_cons_zero,PV.toB,if_true,Bool.not_eq_true',decide_eq_false_iff_not,qsc,qeT]
 unfold chk
 cases x6<;>simp only[reduceCtorEq,if_true,if_false,false_and,true_and,or_false]<;>repeat' split
 all_goals first|rfl|omega
theorem qiw(x0 x1 x2 x3 x4 x5:Int)(x6:Bool):(q0I [.i x0,.i x1,.i x2,.i x3,.i x4,.i x5,.b x6]).run=some (0,[.i (chk x0 x1 x2 x3 x4 x5 x6)]):=by
 rw[qpr]
 simp only[qjn,q8e,qun (qdA _ _),gB,qA8 (qdA _ _),qun (qfF _),qA8 (qfF _),List.getD_cons_zero,PV.toB,if_true,Bool.not_eq_true',decide_eq_false_iff_not,qsc,qeT]
 unfold chk
 cases x6<;>simp only[reduceCtorEq,if_true,if_false,false_and,true_and,or_false]<;>repeat' split
 all_goals first|rfl|omega
theorem qmH{x0 x1 x2 x3 x4 x5:Int}{x6:Bool}(h:chk x0 x1 x2 x3 x4 x5 x6=0):-100000≤x0∧x0≤100000∧-100000≤x1∧x1≤100000∧1≤x2∧x2≤100000∧1≤x3∧x3≤100000∧x2≤x3∧0≤x4∧x4≤100000∧(x6=false→x4<x2)∧0≤x5∧x5≤2:=by
 unfold chk at h
 repeat' split at h
 all_goals first|omega|skip
 rename_i h1 h2 h3 h4
 cases x6<;>simp at h3 ⊢<;>omega
def side(x5:Int)(x6:Bool):Int:=if (x5=2)=(x6=true) then -1 else 1
theorem qy6(x0 x1 x2 x3 x4 x5:Int)(x6:Bool)(h:0≤x5∧x5≤2):(qbO [.i x0,.i x1,.i x2,.i x3,.i x4,.i x5,.b x6]).run=some (0,[.i x0,.i x1,.i x2,.i x3,.i x4,.i x5,.b x6,.i (side x5 x6)]):=by
 rw[qvK]
 have h012:x5=0∨x5=1∨x5=2:=by omega
 cases x6<;>rcases h012 with rfl|rfl|rfl<;>rfl
theorem qfz(x0 x1 x2 x3 x4 x5:Int)(x6:Bool)(x7 x8:Int):(jl [.i x0,.i x1,.i x2,.i x3,.i x4,.i x5,.b x6,.i x7,.i x8]).run=some (0,[.i (if x8<0 then x2 else x3)]):=by
 rw[qeC]
 simp only[qjn,q8e,qsc]
 split<;>rfl
end Go.Eng

namespace Go.Eng
def ext(x2 x3 x5:Int)(x6:Bool)(n:Int):Int:=if x5=0 then 0 else if (x5=1)=(x6=true) then x3-n else n-x2
theorem qq6(x0 x1 x2 x3 x4 x5:Int)(x6:Bool)(n:Int):(q3P [.i x0,.i x1,.i x2,.i x3,.i x4,.i x5,.b x6,.i n]).run=some (0,[.b (decide (x2≤n∧n≤x3))]):=by
 rw[qoe];simp only[STD];by_cases h:x2≤n<;>simp[h,ile]
theorem qpE(x0 x1 x2 x3 x4 x5:Int)(x6:Bool)(n:Int):(q1f [.i x0,.i x1,.i x2,.i x3,.i x4,.i x5,.b x6,.i n]).run=some (0,[.b (decide (x2≤n∧n≤x3))]):=by
 rw[qoa];simp only[STD];by_cases h:x2≤n<;>simp[h,ile]
theorem qsr(x0 x1 x2 x3 x4 x5:Int)(x6:Bool)(n:Int)(h:1≤x2∧x2≤100000∧1≤x3∧x3≤100000∧0≤x5∧x5≤2)(hn:1≤n∧n≤100000) :
  (vu [.i x0,.i x1,.i x2,.i x3,.i x4,.i x5,.b x6,.i (side x5 x6),.i n]).run=some (0,[.i (ext x2 x3 x5 x6 n)]):=by
 rw[qbP]
 simp only[STD,qfz]
 have e1:qv .i64 x2 n=x2-n:=wO (by omega)
 have e2:qv .i64 x3 n=x3-n:=wO (by omega)
 have e3:u7 .i64 (-1) (x2-n)=-1*(x2-n):=q4G (by omega)
 have e4:u7 .i64 1 (x3-n)=1*(x3-n):=q4G (by omega)
 unfold ext side
 by_cases h0:x5=0
 ·simp[h0]
 ·have h12:x5=1∨x5=2:=by omega
  rcases h12 with rfl|rfl<;>cases x6<;>simp[e1,e2,e3,e4]<;>omega
theorem qsA(x0 x1 x2 x3 x4 x5:Int)(x6:Bool)(n:Int)(h:1≤x2∧x2≤100000∧1≤x3∧x3≤100000∧0≤x5∧x5≤2)(hn:1≤n∧n≤100000) :
  (q2W [.i x0,.i x1,.i x2,.i x3,.i x4,.i x5,.b x6,.i n]).run=some (0,[.i (ext x2 x3 x5 x6 n)]):=by
 rw[qq3]
 have e1:qv .i64 n x2=n-x2:=wO (by omega)
 have e2:qv .i64 x3 n=x3-n:=wO (by omega)
 simp only[STD,e1,e2]
 unfold ext
 by_cases h0:x5=0
 ·simp[h0]
 ·have h12:x5=1∨x5=2:=by omega
  rcases h12 with rfl|rfl<;>cases x6<;>simp[ieq]
def qA5(x0 x1 x2 x3 x4 x5:Int)(x6:Bool)(n:Int):List PV:=
 if chk x0 x1 x2 x3 x4 x5 x6=0 then (if x2≤n∧n≤x3 then [.i (ext x2 x3 x5 x6 n),.i 0] else [.i 0,.i 2]) else [.i 0,.i (chk x0 x1 x2 x3 x4 x5 x6)]
def qs2(x0 x1 x2 x3 x4 x5:Int)(x6:Bool)(n:Int):List PV:=
 if chk x0 x1 x2 x3 x4 x5 x6=0 then (if x2≤n∧n≤x3 then [.i (x4+ext x2 x3 x5 x6 n),.i 0] else [.i 0,.i 2]) else [.i 0,.i (chk x0 x1 x2 x3 x4 x5 x6)]
theorem qtL{x2 x3 x5:Int}{x6:Bool}{n:Int}(h:1≤x2∧x2≤100000∧1≤x3∧x3≤100000)(hn:1≤n∧n≤100000):-100000≤ext x2 x3 x5 x6 n∧ext x2 x3 x5 x6 n≤100000:=by
 unfold ext;split
 ·omega
 ·split<;>omega
theorem qsi(x0 x1 x2 x3 x4 x5:Int)(x6:Bool)(n:Int):(q53 [.i x0,.i x1,.i x2,.i x3,.i x4,.i x5,.b x6,.i n]).run=some (0,qA5 x0 x1 x2 x3 x4 x5 x6 n):=by
 rw[qq1]
 simp only[STD,qdu,qq6]
 unfold qA5
 by_cases hc:chk x0 x1 x2 x3 x4 x5 x6=0
 ·obtain⟨h1,h2,h3,h4,h5,h6,h7,h8,h9,h10,h11,h12,h13,h14⟩:=qmH hc
  by_cases hw:x2≤n∧n≤x3
  ·simp only[hc,hw,STD,and_self,qy6 _ _ _ _ _ _ _ ⟨h13,h14⟩,qsr x0 x1 x2 x3 x4 x5 x6 n ⟨h5,h6,h7,h8,h13,h14⟩ ⟨by omega,by omega⟩]
  ·simp[hc,hw]
 ·simp[hc]
theorem qou(x0 x1 x2 x3 x4 x5:Int)(x6:Bool)(n:Int):(yS [.i x0,.i x1,.i x2,.i x3,.i x4,.i x5,.b x6,.i n]).run=some (0,qs2 x0 x1 x2 x3 x4 x5 x6 n):=by
 rw[qm4]
 simp only[STD,qsi]
 unfold qA5 qs2
 by_cases hc:chk x0 x1 x2 x3 x4 x5 x6=0
 ·obtain⟨h1,h2,h3,h4,h5,h6,h7,h8,h9,h10,h11,h12,h13,h14⟩:=qmH hc
  by_cases hw:x2≤n∧n≤x3
  ·have hb:=qtL (x5:=x5) (x6:=x6) (n:=n) ⟨h5,h6,h7,h8⟩ ⟨by omega,by omega⟩
   have e:qh .i64 x4 (ext x2 x3 x5 x6 n)=x4+ext x2 x3 x5 x6 n:=qN (by omega)
   simp[hc,hw,e,PV.toI]
  ·simp[hc,hw,PV.toI]
 ·simp[hc,PV.toI]
end Go.Eng

namespace Go.Eng
def qvJ(a b c:Int):Int:=if -100000≤a∧a≤100000∧-100000≤b∧b≤100000∧1≤c∧c≤100000 then 0 else 2
theorem qqH{a b c:Int}(h:qvJ a b c=0):-100000≤a∧a≤100000∧-100000≤b∧b≤100000∧1≤c∧c≤100000:=by
 unfold qvJ at h;split at h
 ·assumption
 ·omega
theorem qlX(a b c:Int):(q25 [.i a,.i b,.i c]).run=some (0,[.i (qvJ a b c)]):=by
 rw[qsJ];simp only[STD,qkj,qeW];unfold qvJ
 repeat' split
 all_goals first|rfl|omega
theorem qlz(a b c:Int):(q21 [.i a,.i b,.i c]).run=some (0,[.i (qvJ a b c)]):=by
 rw[qsB];simp only[STD,qdA,qfF];unfold qvJ
 repeat' split
 all_goals first|rfl|omega
end Go.Eng

namespace Go.Eng
def qzO(l:R)(i:Nat):Int:=chk (cI l i 0) (cI l i 1) (cI l i 2) (cI l i 3) (cI l i 4) (cI l i 5) (cB l i 6)
def qz3(l:R)(i:Nat):Int:=qvJ (cI l i 0) (cI l i 1) (cI l i 2)
def qhj(x0 x1:R):Int:=
 if 16<qj x0 then 5 else match q0i (q7j (qzO x0)) 0 x0.length with
 | some e=>e
 | none=>if qj x1≠qj x0 then 8 else match q0i (q7j (qz3 x1)) 0 x1.length with
  | some e=>e
  | none=>0
theorem qga{f:Nat→Int}{i:Nat}(h:(q7j f i).map (fun e=>(1,[PV.i e]))=none):f i=0:=by
 unfold q7j at h;split at h
 ·assumption
 ·simp at h
theorem qg7{f:Nat→Int}{i:Nat}{r:Nat×List PV}(h:(q7j f i).map (fun e=>(1,[PV.i e]))=some r):f i≠0∧r=(1,[.i (f i)]):=by
 unfold q7j at h;split at h
 ·simp at h
 ·simp at h;exact⟨by assumption,h.symm⟩
theorem qfS(x0 x1:R)(h:x0.length<9223372036854775808):(qg jV [.r x0,.r x1,.r x0,.i (qj x0),.i 0]).run =
  some (((q0i (q7j (qzO x0)) 0 x0.length).map fun e=>(1,[PV.i e])).getD (0,[.r x0,.r x1])):=by
 rw[←qdH]
 refine q4V (fun i=>[.r x0,.r x1,.r x0,.i (qj x0),.i (i:Int)]) _ (0,[.r x0,.r x1]) x0.length h (fun i hi hf=>?_) (fun i r hi hf=>?_) ?_
 ·have h1:(i:Int)<qj x0:=by unfold qj;omega
  have h2:=qga hf
  unfold qzO at h2
  rw[q26]
  simp only[STD,h1,qdu,h2,q1m hi h,show (0:Int)≤(i:Int) by omega,and_self]
 ·have h1:(i:Int)<qj x0:=by unfold qj;omega
  obtain⟨h2,rfl⟩:=qg7 hf
  unfold qzO at h2 ⊢
  rw[q26]
  simp only[STD,h1,qdu,h2,show (0:Int)≤(i:Int) by omega,and_self]
 ·rw[q26]
  simp only[STD,show ¬((x0.length:Int)<qj x0) by unfold qj;omega]
theorem qez(x1:R)(h:x1.length<9223372036854775808):(qg ja [.r x1,.i (qj x1),.i 0]).run =
  some (((q0i (q7j (qz3 x1)) 0 x1.length).map fun e=>(1,[PV.i e])).getD (0,[])):=by
 rw[←qdH]
 refine q4V (fun i=>[.r x1,.i (qj x1),.i (i:Int)]) _ (0,[]) x1.length h (fun i hi hf=>?_) (fun i r hi hf=>?_) ?_
 ·have h1:(i:Int)<qj x1:=by unfold qj;omega
  have h2:=qga hf
  unfold qz3 at h2
  rw[q1n]
  simp only[STD,h1,qlX,h2,q1m hi h,show (0:Int)≤(i:Int) by omega,and_self]
 ·have h1:(i:Int)<qj x1:=by unfold qj;omega
  obtain⟨h2,rfl⟩:=qg7 hf
  unfold qz3 at h2 ⊢
  rw[q1n]
  simp only[STD,h1,qlX,h2,show (0:Int)≤(i:Int) by omega,and_self]
 ·rw[q1n]
  simp only[STD,show ¬((x1.length:Int)<qj x1) by unfold qj;omega]
theorem q1w(x0 x1:R)(h:x0.length<9223372036854775808)(k:x1.length<9223372036854775808):(jC [.r x0,.r x1]).run=some (0,[.i (qhj x0 x1)]):=by
 rw[qik]
 unfold qhj
 have e1:=qfS x0 x1 h
 have e2:=qez x1 k
 by_cases h16:16<qj x0
 ·simp[h16,STD]
 ·cases hs:q0i (q7j (qzO x0)) 0 x0.length with
  | some e=>
   rw[hs] at e1
   simp only[Option.map_some,Option.getD_some] at e1
   simp[h16,STD,e1,qw e1]
  | none=>
   rw[hs] at e1
   simp only[Option.map_none,Option.getD_none] at e1
   by_cases hl:qj x1=qj x0
   ·cases ht:q0i (q7j (qz3 x1)) 0 x1.length with
    | some e=>
     rw[ht] at e2
     simp only[Option.map_some,Option.getD_some] at e2
     rw[hl] at e2
     simp[h16,STD,e1,qw e1,hl,e2,qw e2]
    | none=>
     rw[ht] at e2
     simp only[Option.map_none,Option.getD_none] at e2
     rw[hl] at e2
     simp[h16,STD,e1,qw e1,hl,e2,qw e2]
   ·simp[h16,STD,e1,qw e1,hl]
theorem qfL(x0 x1:R)(h:x0.length<9223372036854775808):(qg jU [.r x0,.r x1,.i 0]).run =
  some (((q0i (q7j (qzO x0)) 0 x0.length).map fun e=>(1,[PV.i e])).getD (0,[.r x0,.r x1])):=by
 rw[←qdH]
 refine q4V (fun i=>[.r x0,.r x1,.i (i:Int)]) _ (0,[.r x0,.r x1]) x0.length h (fun i hi hf=>?_) (fun i r hi hf=>?_) ?_
 ·have h1:(i:Int)<qj x0:=by unfold qj;omega
  have h2:=qga hf
  unfold qzO at h2
  rw[q2l]
  simp only[STD,h1,qiw,h2,q1m hi h,show (0:Int)≤(i:Int) by omega,and_self]
 ·have h1:(i:Int)<qj x0:=by unfold qj;omega
  obtain⟨h2,rfl⟩:=qg7 hf
  unfold qzO at h2 ⊢
  rw[q2l]
  simp only[STD,h1,qiw,h2,show (0:Int)≤(i:Int) by omega,and_self]
 ·rw[q2l]
  simp only[STD,show ¬((x0.length:Int)<qj x0) by unfold qj;omega]
theorem qex(x1:R)(h:x1.length<9223372036854775808):(qg jm [.r x1,.i 0]).run =
  some (((q0i (q7j (qz3 x1)) 0 x1.length).map fun e=>(1,[PV.i e])).getD (0,[])):=by
 rw[←qdH]
 refine q4V (fun i=>[.r x1,.i (i:Int)]) _ (0,[]) x1.length h (fun i hi hf=>?_) (fun i r hi hf=>?_) ?_
 ·have h1:(i:Int)<qj x1:=by unfold qj;omega
  have h2:=qga hf
  unfold qz3 at h2
  rw[q1j]
  simp only[STD,h1,qlz,h2,q1m hi h,show (0:Int)≤(i:Int) by omega,and_self]
 ·have h1:(i:Int)<qj x1:=by unfold qj;omega
  obtain⟨h2,rfl⟩:=qg7 hf
  unfold qz3 at h2 ⊢
  rw[q1j]
  simp only[STD,h1,qlz,h2,show (0:Int)≤(i:Int) by omega,and_self]
 ·rw[q1j]
  simp only[STD,show ¬((x1.length:Int)<qj x1) by unfold qj;omega]
theorem q1G(x0 x1:R)(h:x0.length<9223372036854775808)(k:x1.length<9223372036854775808):(jx [.r x0,.r x1]).run=some (0,[.i (qhj x0 x1)]):=by
 rw[qic]
 unfold qhj
 have e1:=qfL x0 x1 h
 have e2:=qex x1 k
 by_cases h16:16<qj x0
 ·simp[h16,STD]
 ·cases hs:q0i (q7j (qzO x0)) 0 x0.length with
  | some e=>
   rw[hs] at e1
   simp only[Option.map_some,Option.getD_some] at e1
   simp[h16,STD,e1,qw e1]
  | none=>
   rw[hs] at e1
   simp only[Option.map_none,Option.getD_none] at e1
   by_cases hl:qj x1=qj x0
   ·cases ht:q0i (q7j (qz3 x1)) 0 x1.length with
    | some e=>
     rw[ht] at e2
     simp only[Option.map_some,Option.getD_some] at e2
     simp[h16,STD,e1,qw e1,hl,e2,qw e2]
    | none=>
     rw[ht] at e2
     simp only[Option.map_none,Option.getD_none] at e2
     simp[h16,STD,e1,qw e1,hl,e2,qw e2]
   ·simp[h16,STD,e1,qw e1,hl]
theorem qhv{x0 x1:R}(h:qhj x0 x1=0):x0.length≤16∧x1.length=x0.length∧(∀i,i<x0.length→qzO x0 i=0)∧(∀i,i<x1.length→qz3 x1 i=0):=by
 unfold qhj at h
 split at h
 ·omega
 ·rename_i h16
  split at h
  ·rename_i e he;exact absurd h (qiL he)
  ·rename_i he
   split at h
   ·omega
   ·rename_i hl
    split at h
    ·rename_i e hf;exact absurd h (qiL hf)
    ·rename_i hf
     unfold qj at hl h16
     exact⟨by omega,by omega,qnA he,qnA hf⟩
end Go.Eng

namespace Go.Eng
def zD(x y n:Int):DQ:=⟨(x:Rat),(y:Rat),Rat.divInt n 2*Rat.divInt n 2⟩
theorem qDk(n:Int):Rat.divInt (n*n) 4=Rat.divInt n 2*Rat.divInt n 2:=by
 rw[Rat.divInt_mul_divInt];rfl
theorem qri{x:Int}(h:-999999≤x∧x≤999999):nl x≤6:=by
 have:=qaN (m:=x) (n:=999999) (by omega)
 have e:nl 999999=6:=by decide
 omega
theorem qE1{x:Int}(h:-999999999999≤x∧x≤999999999999):nl x≤12:=by
 have:=qaN (m:=x) (n:=999999999999) (by omega)
 have e:nl 999999999999=12:=by decide
 omega
theorem qrH{n:Int}(h:-999999≤n∧n≤999999):0≤n*n∧n*n≤999998000001:=by
 have b:=qDs (a:=n) (b:=n) (A:=999999) (B:=999999) (by omega) (by omega) (by omega) (by omega)
 refine⟨?_,by omega⟩
 rcases Int.le_total 0 n with h0|h0
 ·exact Int.mul_nonneg h0 h0
 ·exact Int.mul_nonneg_of_nonpos_of_nonpos h0 h0
theorem qyV{x:Int}(h:-999999≤x∧x≤999999):cls (x:Rat):=by
 refine .inl ⟨?_,by simp⟩
 have:=qri h
 unfold qn;simp;omega
theorem quv{n:Int}(h:-999999≤n∧n≤999999):qDo (Rat.divInt n 2*Rat.divInt n 2):=by
 rw[←qDk]
 have r:=qrH h
 have e:Rat.divInt (n*n) 4=mkRat (n*n) 4:=rfl
 rw[e]
 have m:=qaH (n*n) 4
 have l:=qE1 (x:=n*n) (by omega)
 have d:dl 4=1:=by decide
 unfold qDo qn qd
 omega
theorem qDT{x y n:Int}(hx:-999999≤x∧x≤999999)(hy:-999999≤y∧y≤999999)(hn:-999999≤n∧n≤999999):GD (zD x y n):=
 ⟨qyV hx,qyV hy,quv hn,qkl _⟩
theorem qCB{m n:Int}(h0:0≤m)(h:m≤n):Rat.divInt m 2*Rat.divInt m 2≤Rat.divInt n 2*Rat.divInt n 2:=by
 have e:∀k:Int,Rat.divInt k 2=(k:Rat)/2:=fun k=>by rw[Rat.divInt_eq_div];rfl
 have a:(0:Rat)≤(m:Rat):=by exact_mod_cast h0
 have b:(m:Rat)≤(n:Rat):=by exact_mod_cast h
 rw[e,e]
 refine qo2 ?_ ?_<;>grind
end Go.Eng

namespace Go.Eng
theorem qtM{m n:Int}(hn0:n≠0)(hm:okL m)(hn:okL n):(q6W [.s (tI m),.s (tI n)]).run=some (0,[.s (tQ (Rat.divInt m n)),.i 0]):=by
 rw[qrT]
 have key:=jy (S:=q13) (fun i=>[.s (tI m),.s (tI n),.i 2,.i (i:Int),.r [[.s (tI m)],[.s (tI n)]]]) (0,[.s (tI m),.s (tI n)]) 2 (by omega) (fun i hi=>by
  rw[qfn]
  rcases (show i=0∨i=1 by omega) with rfl|rfl
  ·have e:cS [[.s (tI m)],[.s (tI n)]] ((0:Nat):Int) 0=tI m:=rfl
   simp only[e,STD,qcH hm,show qj [[U.s (tI m)],[.s (tI n)]]=2 from rfl]
   rfl
  ·have e:cS [[.s (tI m)],[.s (tI n)]] ((1:Nat):Int) 0=tI n:=rfl
   simp only[e,STD,qcH hn,show qj [[U.s (tI m)],[.s (tI n)]]=2 from rfl]
   rfl) (by rw[qfn];simp only[STD,show ((2:Nat):Int)=2 from rfl,show ¬(2:Int)<2 by omega])
 have key':(qg q13 [.s (tI m),.s (tI n),.i (qj [[U.s (tI m)],[.s (tI n)]]),.i 0,.r [[.s (tI m)],[.s (tI n)]]]).run=some (0,[.s (tI m),.s (tI n)]):=key
 have z:(seq (tI n) [48]=true)=False:=by rw[qS,q5Z];exact eq_false hn0
 simp only[STD,key',qw key',z,(qjG hn0 hm hn).1]
theorem qyp{m n:Int}(hn0:n≠0)(hm:-999999999999999≤m∧m≤999999999999999)(hn:-999999999999999≤n∧n≤999999999999999):(qc9 [.i m,.i n]).run=some (0,[.s (tQ (Rat.divInt m n)),.i 0]):=by
 have ok:∀k:Int,-999999999999999≤k∧k≤999999999999999→okL k:=fun k hk=>by
  have:=qaN (m:=k) (n:=999999999999999) (by omega)
  have e:nl 999999999999999=15:=by decide
  unfold okL;omega
 rw[qvj]
 simp only[STD,q5S m (by omega),q5S n (by omega),qtM hn0 (ok m hm) (ok n hn)]
theorem qis{m:Int}(hm:-999999999999999≤m∧m≤999999999999999):(q2C [.i m]).run=some (0,[.s (tQ (m:Rat))]):=by
 rw[qpj,qvN]
 simp only[STD,q5S m (by omega)]
theorem q83{m:Int}(hm:-999999999999999≤m∧m≤999999999999999):(j9 [.i m]).run=some (0,[.s (tQ (m:Rat))]):=by
 rw[qpy,qvN]
 simp only[STD,ub m (by omega) (by omega)]
theorem qu8{m n:Int}(hn0:n≠0)(hm:-999999999999999≤m∧m≤999999999999999)(hn:-999999999999999≤n∧n≤999999999999999):(qa7 [.i m,.i n]).run=some (0,[.s (tQ (Rat.divInt m n))]):=by
 have ok:∀k:Int,-999999999999999≤k∧k≤999999999999999→nl k≤400000:=fun k hk=>by
  have:=qaN (m:=k) (n:=999999999999999) (by omega)
  have e:nl 999999999999999=15:=by decide
  omega
 rw[qrB]
 simp only[STD,ub m (by omega) (by omega),ub n (by omega) (by omega),qj0 m n hn0 (ok m hm) (ok n hn)]
def inR(x:Int):Prop:=-999999≤x∧x≤999999
theorem qEN{n:Int}(h:inR n):-999999999999999≤n*n∧n*n≤999999999999999:=by have:=qrH h;omega
theorem wsq{n:Int}(h:inR n):u7 .i64 n n=n*n:=q4G (by have:=qrH h;omega)
theorem qgU{x y n:Int}(hx:inR x)(hy:inR y)(hn:inR n):(yp [.i x,.i y,.i n]).run=some (0,[.s (tQ (zD x y n).x),.s (tQ (zD x y n).y),.s (tQ (zD x y n).s),.i 0]):=by
 unfold inR at hx hy
 rw[qom]
 simp only[STD,wsq hn,qyp (m:=n*n) (n:=4) (by omega) (qEN hn) (by omega),qis (m:=x) (by omega),qis (m:=y) (by omega),qDk]
 rfl
theorem qCy{n:Int}(hn:inR n):sm 100000 (Rat.divInt n 2):=by
 have m:=qaH n 2
 have l:=qri (x:=n) hn
 have d:dl 2=1:=by decide
 have e:Rat.divInt n 2=mkRat n 2:=rfl
 rw[e];unfold sm qn qd;omega
theorem qhd{x y n:Int}(hx:inR x)(hy:inR y)(hn:inR n):(q16 [.i x,.i y,.i n]).run=some (0,[.s (tQ (zD x y n).x),.s (tQ (zD x y n).y),.s (tQ (zD x y n).s)]):=by
 have h:=qCy hn
 unfold inR at hx hy hn
 rw[qoV]
 simp only[STD,qu8 (m:=n) (n:=2) (by omega) (by omega) (by omega),q83 (m:=x) (by omega),q83 (m:=y) (by omega),wK h h]
 rfl
def qB2(x0 x1:R)(i:Nat):Int:=if cI x0 i 2≤cI x1 i 2∧cI x1 i 2≤cI x0 i 3 then 0 else 14
def yX(x0 x1:R)(p:Int):Int:=
 if qhj x0 x1=0 then (if x0.length=0 then 13 else if qat (qB2 x0 x1) x0.length=0 then (if p < -1∨100000<p then 2 else 0) else qat (qB2 x0 x1) x0.length) else qhj x0 x1
theorem qcd(l:R):(qj l=0)=(l.length=0):=by unfold qj;exact propext ⟨fun h=>by omega,fun h=>by omega⟩
theorem q58(x0 x1:R)(p:Int)(h:x0.length<9223372036854775808)(k:x1.length<9223372036854775808):(q0z [.r x0,.r x1,.i p]).run=some (0,[.i (yX x0 x1 p)]):=by
 rw[qpf]
 unfold yX
 by_cases hc:qhj x0 x1=0
 ·obtain⟨h1,h2,h3,h4⟩:=qhv hc
  by_cases hz:x0.length=0
  ·simp only[STD,q1w x0 x1 h k,hc,qcd,hz]
  ·have key:=qrQ (S:=q11) (fun i=>[.r x0,.i (qj x0),.i (i:Int),.r x0,.r x1,.i p]) (qB2 x0 x1) [] [.r x0,.r x1,.i p] x0.length h (fun i hi=>by
    rw[qcb]
    have a1:(i:Int)<qj x0:=by unfold qj;omega
    have a2:(i:Int)<qj x1:=by unfold qj;omega
    simp only[STD,a1,a2,q4v,and_self,q1m hi h]
    unfold qB2
    by_cases c1:cI x1 i 2<cI x0 i 2
    ·rw[if_pos c1,if_neg (show ¬(cI x0 i 2≤cI x1 i 2∧cI x1 i 2≤cI x0 i 3) by omega)];rfl
    ·rw[if_neg c1]
     by_cases c2:cI x0 i 3<cI x1 i 2
     ·rw[if_pos c2,if_neg (show ¬(cI x0 i 2≤cI x1 i 2∧cI x1 i 2≤cI x0 i 3) by omega)];rfl
     ·rw[if_neg c2,if_pos (show (cI x0 i 2≤cI x1 i 2∧cI x1 i 2≤cI x0 i 3) by omega)];rfl) (by
    rw[qcb]
    have a1:¬((x0.length:Int)<qj x0):=by unfold qj;omega
    simp only[STD,a1])
   simp only[show (((0:Nat)):Int)=0 from rfl] at key
   by_cases hi:qat (qB2 x0 x1) x0.length=0
   ·rw[if_pos hi] at key
    simp only[STD,q1w x0 x1 h k,hc,qcd,hz,key,qw key,hi]
    by_cases c1:p < -1
    ·simp[c1]
    ·by_cases c2:100000<p<;>simp[c1,c2]
   ·rw[if_neg hi] at key
    simp only[STD,q1w x0 x1 h k,hc,qcd,hz,key,qw key,hi]
    rfl
 ·simp only[STD,q1w x0 x1 h k,hc]
theorem q4J(x0 x1:R)(p:Int)(h:x0.length<9223372036854775808)(k:x1.length<9223372036854775808):(vn [.r x0,.r x1,.i p]).run=some (0,[.i (yX x0 x1 p)]):=by
 rw[qpa]
 unfold yX
 by_cases hc:qhj x0 x1=0
 ·obtain⟨h1,h2,h3,h4⟩:=qhv hc
  by_cases hz:x0.length=0
  ·simp only[STD,q1G x0 x1 h k,hc,qcd,hz]
  ·have key:=qrQ (S:=q0L) (fun i=>[.i (i:Int),.r x0,.r x1,.i p]) (qB2 x0 x1) [] [.r x0,.r x1,.i p] x0.length h (fun i hi=>by
    rw[qci]
    have a1:(i:Int)<qj x0:=by unfold qj;omega
    have a2:(i:Int)<qj x1:=by unfold qj;omega
    simp only[STD,a1,a2,q4v,and_self,q1m hi h,qpE]
    unfold qB2
    by_cases c:cI x0 i 2≤cI x1 i 2∧cI x1 i 2≤cI x0 i 3
    ·simp only[c,and_self,not_true_eq_false,if_false,if_true]
    ·simp only[c,not_false_eq_true,if_false,if_true];rfl) (by
    rw[qci]
    have a1:¬((x0.length:Int)<qj x0):=by unfold qj;omega
    simp only[STD,a1])
   simp only[show (((0:Nat)):Int)=0 from rfl] at key
   by_cases hi:qat (qB2 x0 x1) x0.length=0
   ·rw[if_pos hi] at key
    simp only[STD,q1G x0 x1 h k,hc,qcd,hz,key,qw key,hi]
    by_cases c1:p < -1
    ·simp[c1]
    ·by_cases c2:100000<p<;>simp[c1,c2]
   ·rw[if_neg hi] at key
    simp only[STD,q1G x0 x1 h k,hc,qcd,hz,key,qw key,hi]
    rfl
 ·simp only[STD,q1G x0 x1 h k,hc]
structure Rt (x0 x1:R):Prop where
 n:x0.length≤16
 e:x1.length=x0.length
 ne:x0.length≠0
 t:∀i,i<x0.length→qzO x0 i=0
 r:∀i,i<x0.length→qz3 x1 i=0
 i:∀i:Nat,i<x0.length→cI x0 i 2≤cI x1 i 2∧cI x1 i 2≤cI x0 i 3
theorem q4n{x0 x1:R}{p:Int}(h:yX x0 x1 p=0):Rt x0 x1∧-1≤p∧p≤100000:=by
 unfold yX at h
 split at h
 ·rename_i hc
  obtain⟨h1,h2,h3,h4⟩:=qhv hc
  split at h
  ·omega
  ·rename_i hz
   split at h
   ·rename_i hf
    refine⟨⟨h1,h2,hz,h3,fun i hi=>h4 i (by omega),fun i hi=>?_⟩,by split at h<;>omega,by split at h<;>omega⟩
    have:=qvX hf i hi
    unfold qB2 at this
    split at this
    ·assumption
    ·omega
   ·rename_i hf;exact absurd h hf
 ·rename_i hc;exact absurd h hc
end Go.Eng

namespace Go.Eng
def qyL(x0 x1:R)(i:Nat):Int:=ext (cI x0 i 2) (cI x0 i 3) (cI x0 i 5) (cB x0 i 6) (cI x1 i 2)
def zAt(x0 x1:R)(i:Nat):DQ:=zD (cI x0 i 0-cI x1 i 0) (cI x0 i 1-cI x1 i 1) (cI x0 i 4+qyL x0 x1 i)
def q1A(x0 x1:R):List DQ:=(List.range x0.length).map (zAt x0 x1)
def qmu(p:Int):List DQ:=if 0≤p then [zD 0 0 p] else []
def wM(x0 x1:R)(p:Int):List DQ:=q1A x0 x1++qmu p
theorem qDN{x2 x3 x5:Int}{x6:Bool}{n:Int}(h:x2≤n∧n≤x3):0≤ext x2 x3 x5 x6 n:=by
 unfold ext;split
 ·omega
 ·split<;>omega
theorem Rt.nums{x0 x1:R}(h:Rt x0 x1){i:Nat}(hi:i<x0.length):-100000≤cI x0 i 0∧cI x0 i 0≤100000∧-100000≤cI x0 i 1∧cI x0 i 1≤100000∧-100000≤cI x1 i 0∧cI x1 i 0≤100000∧-100000≤cI x1 i 1∧cI x1 i 1≤100000 ∧
  0≤cI x0 i 4∧cI x0 i 4≤100000∧0≤qyL x0 x1 i∧qyL x0 x1 i≤100000:=by
 obtain⟨h1,h2,h3,h4,h5,h6,h7,h8,h9,h10,h11,h12,h13,h14⟩:=qmH (h.t i hi)
 obtain⟨k1,k2,k3,k4,k5,k6⟩:=qqH (h.r i hi)
 have b:=qtL (x5:=cI x0 i 5) (x6:=cB x0 i 6) (n:=cI x1 i 2) ⟨h5,h6,h7,h8⟩ ⟨k5,k6⟩
 have n:=qDN (x5:=cI x0 i 5) (x6:=cB x0 i 6) (h.i i hi)
 unfold qyL
 omega
theorem Rt.gd{x0 x1:R}(h:Rt x0 x1){i:Nat}(hi:i<x0.length):GD (zAt x0 x1 i):=by
 have n:=h.nums hi
 exact qDT (by omega) (by omega) (by omega)
theorem qxS{x0 x1:R}(h:Rt x0 x1):GDs (q1A x0 x1):=fun d hd=>by
 obtain⟨i,hi,rfl⟩:=List.mem_map.1 hd
 exact h.gd (List.mem_range.1 hi)
theorem qzw{p:Int}(h:-1≤p∧p≤100000):GDs (qmu p):=fun d hd=>by
 unfold qmu at hd
 split at hd
 ·simp only[List.mem_cons,List.not_mem_nil,or_false] at hd
  rw[hd];exact qDT (by omega) (by omega) (by omega)
 ·cases hd
theorem q8K{x0 x1:R}{p:Int}(h:Rt x0 x1)(hp:-1≤p∧p≤100000):GDs (wM x0 x1 p):=fun d hd=>by
 rcases List.mem_append.1 hd with hd|hd
 ·exact qxS h d hd
 ·exact qzw hp d hd
theorem qbR(x0 x1:R):(q1A x0 x1).length=x0.length:=by simp[q1A]
theorem qyw(p:Int):(qmu p).length≤1:=by unfold qmu;split<;>simp
theorem qcy{x0 x1:R}{p:Int}(h:Rt x0 x1):(wM x0 x1 p).length≤17:=by
 have:=qyw p
 have:=h.n
 unfold wM;rw[List.length_append,qbR];omega
theorem qk8{x0 x1:R}{p:Int}(h:Rt x0 x1):wM x0 x1 p≠[]:=by
 intro e
 have:=congrArg List.length e
 unfold wM at this
 rw[List.length_append,qbR] at this
 simp only[List.length_nil] at this
 have:=h.ne
 omega
theorem qzB(l m:List DQ):rD (l++m)=rD l++rD m:=List.map_append
theorem qmE(l:List DQ)(d:DQ):qc3 (rD l) [[.s (tQ d.x),.s (tQ d.y),.s (tQ d.s)]]=rD (l++[d]):=by
 rw[qzB];rfl
def zT(x0 x1:R)(k:Nat):List DQ:=(List.range k).map (zAt x0 x1)
theorem qAh(x0 x1:R)(k:Nat):zT x0 x1 (k+1)=zT x0 x1 k++[zAt x0 x1 k]:=by unfold zT;rw[List.range_succ,List.map_append];rfl
theorem qC4(x0 x1:R)(k:Nat):(zT x0 x1 k).length=k:=by simp[zT]
theorem q9A{x0 x1:R}(p:Int)(h:Rt x0 x1):(we [.r x0,.r x1,.i p]).run=some (0,[.r (rD (q1A x0 x1)),.i 0]):=by
 rw[qfl]
 have hn:=h.n
 have key:=jy (S:=wo) (fun i=>[.r x0,.i (qj x0),.i (i:Int),.r x0,.r x1,.i p,.r (rD (zT x0 x1 i))]) (0,[.r (rD (q1A x0 x1))]) x0.length (by omega) (fun i hi=>by
  rw[q5k]
  have a1:(i:Int)<qj x0:=by unfold qj;omega
  have a2:(i:Int)<qj x1:=by unfold qj;have:=h.e;omega
  have n:=h.nums hi
  have al:(yS [.i (cI x0 i 0),.i (cI x0 i 1),.i (cI x0 i 2),.i (cI x0 i 3),.i (cI x0 i 4),.i (cI x0 i 5),.b (cB x0 i 6),.i (cI x1 i 2)]).run=some (0,[.i (cI x0 i 4+qyL x0 x1 i),.i 0]):=by
   rw[qou];unfold qs2
   have t:chk (cI x0 i 0) (cI x0 i 1) (cI x0 i 2) (cI x0 i 3) (cI x0 i 4) (cI x0 i 5) (cB x0 i 6)=0:=h.t i hi
   rw[if_pos t,if_pos (h.i i hi)];rfl
  have w1:qv .i64 (cI x0 i 0) (cI x1 i 0)=cI x0 i 0-cI x1 i 0:=wO (by omega)
  have w2:qv .i64 (cI x0 i 1) (cI x1 i 1)=cI x0 i 1-cI x1 i 1:=wO (by omega)
  have ar:=qgU (x:=cI x0 i 0-cI x1 i 0) (y:=cI x0 i 1-cI x1 i 1) (n:=cI x0 i 4+qyL x0 x1 i) (by unfold inR;omega) (by unfold inR;omega) (by unfold inR;omega)
  have room:qj (rD (zT x0 x1 i))+qj [[U.s (tQ (zAt x0 x1 i).x),.s (tQ (zAt x0 x1 i).y),.s (tQ (zAt x0 x1 i).s)]]≤2932031007402:=by
   rw[qH,qC4];unfold qj;simp;omega
  have room':=room
  unfold zAt at room'
  have row:=qmE (zT x0 x1 i) (zAt x0 x1 i)
  unfold zAt at row
  simp only[STD,a1,a2,q4v,and_self,al,w1,w2,ar,room',row,q1m hi (show x0.length<9223372036854775808 by omega)]
  rw[qAh]
  rfl) (by
  rw[q5k]
  have a1:¬((x0.length:Int)<qj x0):=by unfold qj;omega
  simp only[STD,a1]
  rfl)
 have key':(qg wo [.r x0,.i (qj x0),.i 0,.r x0,.r x1,.i p,.r []]).run=some (0,[.r (rD (q1A x0 x1))]):=key
 simp only[STD,key',qw key']
theorem quS{x0 x1:R}{p:Int}(h:Rt x0 x1)(hp:-1≤p∧p≤100000):(qd1 [.r x0,.r x1,.i p]).run=some (0,[.r (rD (wM x0 x1 p))]):=by
 rw[qta]
 have hn:=h.n
 have key:=jy (S:=q5G) (fun i=>[.i (i:Int),.r x0,.r x1,.i p,.r (rD (zT x0 x1 i))]) (0,[.r x0,.r x1,.i p,.r (rD (q1A x0 x1))]) x0.length (by omega) (fun i hi=>by
  rw[qhh]
  have a1:(i:Int)<qj x0:=by unfold qj;omega
  have a2:(i:Int)<qj x1:=by unfold qj;have:=h.e;omega
  have n:=h.nums hi
  obtain⟨h1,h2,h3,h4,h5,h6,h7,h8,h9,h10,h11,h12,h13,h14⟩:=qmH (h.t i hi)
  obtain⟨k1,k2,k3,k4,k5,k6⟩:=qqH (h.r i hi)
  have al:(q2W [.i (cI x0 i 0),.i (cI x0 i 1),.i (cI x0 i 2),.i (cI x0 i 3),.i (cI x0 i 4),.i (cI x0 i 5),.b (cB x0 i 6),.i (cI x1 i 2)]).run=some (0,[.i (qyL x0 x1 i)]):=
   qsA _ _ _ _ _ _ _ _ ⟨h5,h6,h7,h8,h13,h14⟩ ⟨k5,k6⟩
  have w1:qv .i64 (cI x0 i 0) (cI x1 i 0)=cI x0 i 0-cI x1 i 0:=wO (by omega)
  have w2:qv .i64 (cI x0 i 1) (cI x1 i 1)=cI x0 i 1-cI x1 i 1:=wO (by omega)
  have w3:qh .i64 (cI x0 i 4) (qyL x0 x1 i)=cI x0 i 4+qyL x0 x1 i:=qN (by omega)
  have ar:=qhd (x:=cI x0 i 0-cI x1 i 0) (y:=cI x0 i 1-cI x1 i 1) (n:=cI x0 i 4+qyL x0 x1 i) (by unfold inR;omega) (by unfold inR;omega) (by unfold inR;omega)
  have room:qj (rD (zT x0 x1 i))+qj [[U.s (tQ (zAt x0 x1 i).x),.s (tQ (zAt x0 x1 i).y),.s (tQ (zAt x0 x1 i).s)]]≤2932031007402:=by
   rw[qH,qC4];unfold qj;simp;omega
  have room':=room
  unfold zAt at room'
  have row:=qmE (zT x0 x1 i) (zAt x0 x1 i)
  unfold zAt at row
  simp only[STD,a1,a2,q4v,and_self,al,w1,w2,w3,ar,room',row,q1m hi (show x0.length<9223372036854775808 by omega)]
  rw[qAh]
  rfl) (by
  rw[qhh]
  have a1:¬((x0.length:Int)<qj x0):=by unfold qj;omega
  simp only[STD,a1]
  rfl)
 have key':(qg q5G [.i 0,.r x0,.r x1,.i p,.r []]).run=some (0,[.r x0,.r x1,.i p,.r (rD (q1A x0 x1))]):=key
 unfold wM qmu
 by_cases c:0≤p
 ·have ar:=qhd (x:=0) (y:=0) (n:=p) (by unfold inR;omega) (by unfold inR;omega) (by unfold inR;omega)
  have room:qj (rD (q1A x0 x1))+qj [[U.s (tQ (zD 0 0 p).x),.s (tQ (zD 0 0 p).y),.s (tQ (zD 0 0 p).s)]]≤2932031007402:=by
   rw[qH,qbR];unfold qj;simp;omega
  simp only[STD,key',c,ar,room,qmE]
 ·simp only[STD,key',c,List.append_nil]
theorem qBa(l:R):qt3 l 0 (qj l)=l:=by unfold qt3 qj;simp
theorem qfu{l:List DQ}{p:Int}(hl:l.length≤100)(hp:-1≤p∧p≤100000):(yM [.r (rD l),.i p]).run=some (0,[.r (rD (l++qmu p)),.i 0]):=by
 rw[qm8]
 unfold qmu
 by_cases c:p<0
 ·simp only[STD,c,show ¬(0≤p) by omega,List.append_nil]
 ·have ar:=qgU (x:=0) (y:=0) (n:=p) (by unfold inR;omega) (by unfold inR;omega) (by unfold inR;omega)
  have room:qj (rD l)+qj [[U.s (tQ (zD 0 0 p).x),.s (tQ (zD 0 0 p).y),.s (tQ (zD 0 0 p).s)]]≤2932031007402:=by
   rw[qH];unfold qj;simp;omega
  have b1:q4D (qj (rD l)) (qj (rD l))=true:=by rw[qH];unfold q4D;simp
  have b2:q4D 0 (qj (rD l))=true:=by rw[qH];unfold q4D;simp
  have b3:(0:Int)<qj [[U.s (tQ (zD 0 0 p).x),.s (tQ (zD 0 0 p).y),.s (tQ (zD 0 0 p).s)]]:=by unfold qj;simp
  simp only[STD,c,ar,room,qBa,qmE,show 0≤p by omega,b1,b2,b3]
theorem un(x0 x1:R)(p:Int)(h:x0.length<9223372036854775808)(k:x1.length<9223372036854775808):(zY [.r x0,.r x1,.i p]).run=some (0,if yX x0 x1 p=0 then [.r (rD (wM x0 x1 p)),.i 0] else [.r [],.i (yX x0 x1 p)]):=by
 rw[qpt]
 by_cases hc:yX x0 x1 p=0
 ·obtain⟨hr,hp⟩:=q4n hc
  simp only[STD,q58 x0 x1 p h k,hc,q9A p hr,qfu (l:=q1A x0 x1) (p:=p) (by rw[qbR];have:=hr.n;omega) hp]
  rfl
 ·simp only[STD,q58 x0 x1 p h k,hc]
end Go.Eng

namespace Go.Eng
def qB3(x0 x1:R)(p:Int):List PV:=if yX x0 x1 p=0 then cW (q0l (wM x0 x1 p)) else [.b false,.i 0,.i 0,.i 0,.i (yX x0 x1 p)]
theorem q44(x0 x1:R)(p:Int)(h:x0.length<9223372036854775808)(k:x1.length<9223372036854775808):(zP [.r x0,.r x1,.i p]).run=some (0,qB3 x0 x1 p):=by
 rw[qkG]
 unfold qB3
 by_cases hc:yX x0 x1 p=0
 ·obtain⟨hr,hp⟩:=q4n hc
  have c:=qoP (q8K hr hp) (qk8 hr) (by have:=qcy (p:=p) hr;omega)
  simp only[STD,un x0 x1 p h k,hc,c]
  cases q0l (wM x0 x1 p)<;>rfl
 ·simp only[STD,un x0 x1 p h k,hc]
def qD9(x0 x1:R)(p:Int):List PV:=if yX x0 x1 p=0 then [.r (qn5 (wM x0 x1 p)),.i 0] else [.r [],.i (yX x0 x1 p)]
theorem qfe(x0 x1:R)(p:Int)(h:x0.length<9223372036854775808)(k:x1.length<9223372036854775808):(jd [.r x0,.r x1,.i p]).run=some (0,qD9 x0 x1 p):=by
 rw[qeD]
 unfold qD9
 by_cases hc:yX x0 x1 p=0
 ·obtain⟨hr,hp⟩:=q4n hc
  have c:=qvv (q8K hr hp) (qk8 hr) (by have:=qcy (p:=p) hr;omega)
  simp only[STD,un x0 x1 p h k,hc,c]
 ·simp only[STD,un x0 x1 p h k,hc]
def qhV(l:List DQ)(px py:Rat):Bool:=l.all fun d=>decide (uF d.x d.y px py≤d.s)
theorem qza{l:List DQ}(hl:GDs l)(hn:l.length<1000000){px py:Rat}(hx:∀d,GD d→(zQ [.s (tQ d.x),.s (tQ d.y),.s (tQ d.s),.s (tQ px),.s (tQ py)]).run=some (0,[.b (decide (uF d.x d.y px py≤d.s)),.i 0])) :
  (qg q08 [.r (rD l),.i (qj (rD l)),.i 0,.s (tQ px),.s (tQ py)]).run=some (if qhV l px py=true then (0,[]) else (1,[.b false,.i 0])):=by
 have L:=q0G (S:=q08) (fun k=>[.r (rD l),.i (qj (rD l)),.i (k:Int),.s (tQ px),.s (tQ py)])
  (fun k=>if decide (uF (ix l k).x (ix l k).y px py≤(ix l k).s)=true then none else some ()) (fun _=>[.b false,.i 0]) [] l.length (by omega) (fun k hk=>by
   rw[qed]
   obtain⟨x1,x2,x3⟩:=qkD hk
   rw[x1,x2,x3]
   have a1:(k:Int)<qj (rD l):=by rw[qH];omega
   have c:=hx _ (hl.ix hk)
   by_cases e:uF (ix l k).x (ix l k).y px py≤(ix l k).s
   ·simp only[STD,a1,q4v,and_self,c,e,q1m hk (show l.length<9223372036854775808 by omega),decide_true]
    rfl
   ·simp only[STD,a1,q4v,and_self,c,e,decide_false]) (by
   rw[qed]
   simp only[STD,qH,show ¬((l.length:Int)<(l.length:Int)) by omega])
 simp only[show (((0:Nat)):Int)=0 from rfl] at L
 rw[L]
 rcases quO (fun k=>decide (uF (ix l k).x (ix l k).y px py≤(ix l k).s)) (fun _=>()) l.length with⟨s1,s2⟩|⟨k,hk,s2,s1⟩
 ·rw[s1]
  have:qhV l px py=true:=(qxb l _).2 s2
  rw[if_pos this];rfl
 ·rw[s1]
  have:qhV l px py=false:=qvg (p:=fun d=>decide (uF d.x d.y px py≤d.s)) hk s2
  rw[if_neg (by rw[this];decide)];rfl
def qBz(x0 x1:R)(p:Int)(px py:Rat):List PV:=if yX x0 x1 p=0 then [.b (qhV (wM x0 x1 p) px py),.i 0] else [.b false,.i (yX x0 x1 p)]
theorem q51{x0 x1:R}{p:Int}(h:x0.length<9223372036854775808)(k:x1.length<9223372036854775808){px py:Rat}(ox:okQ px)(oy:okQ py)
  (hx:∀d,GD d→(zQ [.s (tQ d.x),.s (tQ d.y),.s (tQ d.s),.s (tQ px),.s (tQ py)]).run=some (0,[.b (decide (uF d.x d.y px py≤d.s)),.i 0])) :
  (yv [.r x0,.r x1,.i p,.s (tQ px),.s (tQ py)]).run=some (0,qBz x0 x1 p px py):=by
 rw[qsK]
 unfold qBz
 by_cases hc:yX x0 x1 p=0
 ·obtain⟨hr,hp⟩:=q4n hc
  have key:=jy (S:=q1c) (fun i=>[.r (rD (wM x0 x1 p)),.i 2,.i (i:Int),.s (tQ px),.s (tQ py),.r [[.s (tQ px)],[.s (tQ py)]]]) (0,[.r (rD (wM x0 x1 p)),.s (tQ px),.s (tQ py)]) 2 (by omega) (fun i hi=>by
   rw[qfT]
   rcases (show i=0∨i=1 by omega) with rfl|rfl
   ·have e:cS [[.s (tQ px)],[.s (tQ py)]] ((0:Nat):Int) 0=tQ px:=rfl
    simp only[e,STD,q48 ox,show qj [[U.s (tQ px)],[.s (tQ py)]]=2 from rfl]
    rfl
   ·have e:cS [[.s (tQ px)],[.s (tQ py)]] ((1:Nat):Int) 0=tQ py:=rfl
    simp only[e,STD,q48 oy,show qj [[U.s (tQ px)],[.s (tQ py)]]=2 from rfl]
    rfl) (by rw[qfT];simp only[STD,show ((2:Nat):Int)=2 from rfl,show ¬(2:Int)<2 by omega])
  have key':(qg q1c [.r (rD (wM x0 x1 p)),.i (qj [[U.s (tQ px)],[.s (tQ py)]]),.i 0,.s (tQ px),.s (tQ py),.r [[.s (tQ px)],[.s (tQ py)]]]).run=some (0,[.r (rD (wM x0 x1 p)),.s (tQ px),.s (tQ py)]):=key
  have L:=qza (q8K hr hp) (by have:=qcy (p:=p) hr;omega) hx
  by_cases e:qhV (wM x0 x1 p) px py=true
  ·rw[if_pos e] at L
   simp only[STD,un x0 x1 p h k,hc,key',qw key',L,qw L,e]
  ·rw[if_neg e] at L
   have e':qhV (wM x0 x1 p) px py=false:=by simpa using e
   simp only[STD,un x0 x1 p h k,hc,key',qw key',L,qw L,e']
   rfl
 ·simp only[STD,un x0 x1 p h k,hc]
end Go.Eng

namespace Go.Eng
def qew(x0 x1:R)(p:Int):Bool:=(q0l (wM x0 x1 p)).isSome
theorem qjc{x0 x1:R}{p:Int}(h:Rt x0 x1)(hp:-1≤p∧p≤100000):qew x0 x1 p=true↔quD (wM x0 x1 p):=
 qxC (qk8 h) fun d hd=>(q8K h hp d hd).nn
theorem qo5{x0 x1:R}{p q:Int}(h:Rt x0 x1)(hp:0≤p∧p≤q∧q≤100000)(hc:qew x0 x1 p=true):qew x0 x1 q=true:=by
 rw[qjc h (by omega)] at hc ⊢
 refine qzz hc fun d hd=>?_
 rcases List.mem_append.1 hd with hd|hd
 ·exact⟨d,List.mem_append_left _ hd,rfl,rfl,Rat.le_refl⟩
 ·unfold qmu at hd
  rw[if_pos (by omega)] at hd
  simp only[List.mem_cons,List.not_mem_nil,or_false] at hd
  refine⟨zD 0 0 p,List.mem_append_right _ (by unfold qmu;rw[if_pos (by omega)];simp),?_,?_,?_⟩
  ·rw[hd];rfl
  ·rw[hd];rfl
  ·rw[hd];exact qCB (by omega) (by omega)
theorem qwp{x0 x1:R}{p:Int}(e:Int)(h:Rt x0 x1)(hp:-1≤p∧p≤100000):(zo [.i p,.r (rD (q1A x0 x1)),.i e]).run=some (0,[.b (qew x0 x1 p),.r (rD (q1A x0 x1)),.i e]):=by
 rw[qeB]
 have l:=qfu (l:=q1A x0 x1) (p:=p) (by rw[qbR];have:=h.n;omega) hp
 have c:=qoP (q8K h hp) (qk8 h) (by have:=qcy (p:=p) h;omega)
 unfold wM at c
 unfold qew wM
 simp only[STD,l,c]
 cases q0l (q1A x0 x1++qmu p)<;>rfl
theorem qqg{x0 x1:R}{p:Int}(y:Int)(h:Rt x0 x1)(hp:-1≤p∧p≤100000):(u6 [.r x0,.r x1,.i y,.i p]).run=some (0,[.b (qew x0 x1 p)]):=by
 rw[qku]
 have c:=qCD (q8K h hp) (by have:=qcy (p:=p) h;omega)
 unfold qew
 simp only[STD,qs7,quS h hp,c]
 cases q0l (wM x0 x1 p)<;>rfl
def qlH(x0 x1:R)(n:Int):Prop:=0≤n∧n≤100000∧qew x0 x1 n=true∧∀q,0≤q→q<n→qew x0 x1 q=false
theorem qqi{x0 x1:R}{m n:Int}(hm:qlH x0 x1 m)(hn:qlH x0 x1 n):m=n:=by
 obtain⟨a1,a2,a3,a4⟩:=hm
 obtain⟨b1,b2,b3,b4⟩:=hn
 rcases Int.lt_trichotomy m n with h|h|h
 ·have:=b4 m a1 h;rw[a3] at this;cases this
 ·exact h
 ·have:=a4 n b1 h;rw[b3] at this;cases this
theorem qEd{x:Int}(h:0≤x∧x≤1000000):jo .i64 x 2=x/2:=by
 obtain⟨n,rfl⟩:∃n:Nat,x=n:=⟨x.toNat,by omega⟩
 have:=qr4 (a:=n) (b:=2) (by omega)
 rw[show ((2:Nat):Int)=2 from rfl] at this
 rw[this];omega
theorem qDb{x0 x1:R}(h:Rt x0 x1)(hc:qew x0 x1 100000=true):∃n,qlH x0 x1 n∧(q5F [.i 0,.i 100000,.r (rD (q1A x0 x1)),.i 0]).run=some (0,[.i n,.r (rD (q1A x0 x1)),.i 0]):=by
 obtain⟨j,qs,h1,rfl,n,rfl,hl⟩:=vr (S:=q22)
  (fun k ps=>∃a b:Int,ps=[.i a,.i b,.r (rD (q1A x0 x1)),.i 0]∧0≤a∧a≤b∧b≤100000∧b-a=k∧(∀q,0≤q→q<a→qew x0 x1 q=false)∧qew x0 x1 b=true)
  (fun j qs=>j=0∧∃n,qs=[.i n,.r (rD (q1A x0 x1)),.i 0]∧qlH x0 x1 n) (n:=100000) (by omega) (fun k ps hk ⟨a,b,e,a1,a2,a3,a4,a5,a6⟩=>by
  subst e
  rw[qm5]
  by_cases c:a<b
  ·left
   have w1:qh .i64 a b=a+b:=qN (by omega)
   have w2:jo .i64 (a+b) 2=(a+b)/2:=qEd (by omega)
   have w3:qh .i64 ((a+b)/2) 1=(a+b)/2+1:=qN (by omega)
   have en:=qwp (p:=(a+b)/2) 0 h (by omega)
   by_cases d:qew x0 x1 ((a+b)/2)=true
   ·refine⟨((a+b)/2-a).toNat,[.i a,.i ((a+b)/2),.r (rD (q1A x0 x1)),.i 0],by omega,?_,a,(a+b)/2,rfl,a1,by omega,by omega,by omega,a5,d⟩
    simp only[STD,c,w1,w2,en,d]
   ·have d':qew x0 x1 ((a+b)/2)=false:=by simpa using d
    refine⟨(b-((a+b)/2+1)).toNat,[.i ((a+b)/2+1),.i b,.r (rD (q1A x0 x1)),.i 0],by omega,?_,(a+b)/2+1,b,rfl,by omega,by omega,a3,by omega,fun q q0 q1=>?_,a6⟩
    ·simp only[STD,c,w1,w2,w3,en,d']
    ·cases hq:qew x0 x1 q with
     | false=>rfl
     | true=>exact absurd (qo5 (q:=(a+b)/2) h (by omega) hq) d
  ·right
   obtain rfl:a=b:=by omega
   refine⟨0,[.i a,.r (rD (q1A x0 x1)),.i 0],?_,rfl,a,rfl,a1,a3,a6,a5⟩
   simp only[STD,c]) (ps:=[.i 0,.i 100000,.r (rD (q1A x0 x1)),.i 0]) ⟨0,100000,rfl,by omega,by omega,by omega,by omega,fun q q0 q1=>by omega,hc⟩
 refine⟨n,hl,?_⟩
 rw[qpD]
 simp only[STD,h1]
theorem qAX{x0 x1:R}(y:Int)(h:Rt x0 x1)(hc:qew x0 x1 100000=true):∃n,qlH x0 x1 (n+1)∧(qg kZ [.i (-1),.i 65536,.r x0,.r x1,.i y]).run=some (0,[.i n]):=by
 obtain⟨j,qs,h1,rfl,n,rfl,hl⟩:=vr (S:=kZ)
  (fun k ps=>∃(a s:Int) (j:Nat),ps=[.i a,.i s,.r x0,.r x1,.i y]∧(s=0∨s=((2^j:Nat):Int))∧j≤16∧-1≤a∧a<100000∧100000-a+s≤k∧(a=-1∨qew x0 x1 a=false) ∧
   ∀q,a+(if s=0 then 1 else 2*s)≤q→q≤100000→qew x0 x1 q=true)
  (fun j qs=>j=0∧∃n,qs=[.i n]∧qlH x0 x1 (n+1)) (n:=1000000) (by omega) (fun k ps hk ⟨a,s,j,e,b1,bj,b2,b3,b4,b5,b6⟩=>by
  subst e
  have hj:((2^j:Nat):Int)≤65536:=by
   have:=Nat.pow_le_pow_right (n:=2) (by omega) bj
   have e:(2:Nat)^16=65536:=by decide
   omega
  have hj1:1≤((2^j:Nat):Int):=by have:=Nat.two_pow_pos j;omega
  rw[qiJ]
  by_cases c:0<s
  ·left
   have hs:s=((2^j:Nat):Int):=by rcases b1 with b1|b1<;>omega
   have w1:qh .i64 a s=a+s:=qN (by omega)
   have w2:jo .i64 s 2=s/2:=qEd (by omega)
   have b6':∀q,a+2*s≤q→q≤100000→qew x0 x1 q=true:=by
    intro q h1 h2;refine b6 q ?_ h2;rw[if_neg (by omega)];exact h1
   have halve:(∀q,a+s≤q→q≤100000→qew x0 x1 q=true)→∃k' qs,k'<k∧some ((0:Nat),([.i a,.i (s/2),.r x0,.r x1,.i y]:List PV))=some (0,qs)∧∃(a s:Int) (j:Nat),qs=[.i a,.i s,.r x0,.r x1,.i y]∧(s=0∨s=((2^j:Nat):Int))∧j≤16∧-1≤a∧a<100000∧100000-a+s≤(k':Nat)∧(a=-1∨qew x0 x1 a=false) ∧
     ∀q,a+(if s=0 then 1 else 2*s)≤q→q≤100000→qew x0 x1 q=true:=by
    intro hq
    refine⟨k-1,_,by omega,rfl,a,s/2,j-1,rfl,?_,by omega,b2,b3,by omega,b5,fun q q1 q2=>hq q ?_ q2⟩
    ·cases j with
     | zero=>left;have e:((2^0:Nat):Int)=1:=rfl;omega
     | succ j=>
      right
      rw[hs,Nat.pow_succ]
      show ((2^j*2:Nat):Int)/2=((2^j:Nat):Int)
      omega
    ·split at q1
     ·omega
     ·have:2*(s/2)=s:=by
       cases j with
       | zero=>have e:((2^0:Nat):Int)=1:=rfl;omega
       | succ j=>rw[hs,Nat.pow_succ];omega
      omega
   by_cases d:a+s≤100000
   ·have po:=qqg (p:=a+s) y h (by omega)
    by_cases f:qew x0 x1 (a+s)=true
    ·obtain⟨k',qs,r1,r2,r3⟩:=halve fun q q1 q2=>qo5 (p:=a+s) h (by omega) f
     refine⟨k',qs,r1,?_,r3⟩
     rw[←r2]
     simp only[STD,c,w1,w2,d,po,f]
    ·have f':qew x0 x1 (a+s)=false:=by simpa using f
     refine⟨k-1,[.i (a+s),.i s,.r x0,.r x1,.i y],by omega,?_,a+s,s,j,rfl,b1,bj,by omega,?_,by omega,.inr f',fun q q1 q2=>b6' q (by rw[if_neg (by omega)] at q1;omega) q2⟩
     ·simp only[STD,c,w1,d,po,f']
     ·rcases Int.lt_or_eq_of_le d with d|d
      ·exact d
      ·rw[d,hc] at f';cases f'
   ·obtain⟨k',qs,r1,r2,r3⟩:=halve fun q q1 q2=>by omega
    refine⟨k',qs,r1,?_,r3⟩
    rw[←r2]
    simp only[STD,c,w1,w2,d]
  ·right
   have hs:s=0:=by omega
   subst hs
   refine⟨0,[.i a],?_,rfl,a,rfl,by omega,by omega,b6 (a+1) (by simp) (by omega),fun q q0 q1=>?_⟩
   ·simp only[STD,c]
   ·rcases b5 with b5|b5
    ·omega
    ·cases hq:qew x0 x1 q with
     | false=>rfl
     | true=>rw[qo5 (q:=a) h (by omega) hq] at b5;cases b5) (ps:=[.i (-1),.i 65536,.r x0,.r x1,.i y])
  ⟨-1,65536,16,rfl,.inr (by decide),by omega,by omega,by omega,by omega,.inl rfl,fun q q1 q2=>by rw[if_neg (by omega)] at q1;omega⟩
 exact⟨n,hl,h1⟩
theorem qAL(x0 x1:R)(y:Int)(h:x0.length<9223372036854775808)(k:x1.length<9223372036854775808) :
  (yX x0 x1 y≠0∧(yn [.r x0,.r x1,.i y]).run=some (0,[.i 0,.i (yX x0 x1 y)])∧(q6C [.r x0,.r x1,.i y]).run=some (0,[.i 0,.i (yX x0 x1 y)])) ∨
  (yX x0 x1 y=0∧qew x0 x1 100000=false∧(yn [.r x0,.r x1,.i y]).run=some (0,[.i 0,.i 6])∧(q6C [.r x0,.r x1,.i y]).run=some (0,[.i 0,.i 6])) ∨
  (yX x0 x1 y=0∧qew x0 x1 100000=true∧∃n,qlH x0 x1 n∧(yn [.r x0,.r x1,.i y]).run=some (0,[.i n,.i 0])∧(q6C [.r x0,.r x1,.i y]).run=some (0,[.i n,.i 0])):=by
 rw[qnw,qnT]
 by_cases hc:yX x0 x1 y=0
 ·obtain⟨hr,hp⟩:=q4n hc
  right
  have e1:=qwp (p:=100000) 0 hr (by omega)
  have e2:=qqg (p:=100000) y hr (by omega)
  by_cases c:qew x0 x1 100000=true
  ·right
   obtain⟨n,l1,l2⟩:=qDb hr c
   obtain⟨m,m1,m2⟩:=qAX y hr c
   obtain rfl:=qqi l1 m1
   have w:qh .i64 m 1=m+1:=qN (by have:=m1.1;have:=m1.2.1;omega)
   refine⟨hc,c,m+1,m1,?_,?_⟩
   ·simp only[STD,q58 x0 x1 y h k,hc,q9A y hr,e1,c,l2]
   ·simp only[STD,q4J x0 x1 y h k,hc,e2,c,m2,w]
  ·have c':qew x0 x1 100000=false:=by simpa using c
   left
   refine⟨hc,c',?_,?_⟩
   ·simp only[STD,q58 x0 x1 y h k,hc,q9A y hr,e1,c']
   ·simp only[STD,q4J x0 x1 y h k,hc,e2,c']
 ·left
  refine⟨hc,?_,?_⟩
  ·simp only[STD,q58 x0 x1 y h k,hc]
  ·simp only[STD,q4J x0 x1 y h k,hc]
end Go.Eng

namespace Go.Eng
theorem qgf{x0 x1:R}{p:Int}(h:yX x0 x1 p=0):∃a b c,qB3 x0 x1 p=[.b (qew x0 x1 p),.i a,.i b,.i c,.i 0]:=by
 unfold qB3 qew
 rw[if_pos h]
 cases q0l (wM x0 x1 p)<;>exact⟨_,_,_,rfl⟩
def exT:R:=[[.i 0,.i 0,.i 20,.i 24,.i 4,.i 1,.b false],[.i 50,.i 0,.i 20,.i 24,.i 4,.i 1,.b false]]
def exC(a s:Int):R:=[[.i a,.i 0,.i s],[.i 53,.i 0,.i s]]
theorem qAY:yX exT (exC 3 20) (-1)=0:=by decide +kernel
theorem qDX:yX exT (exC (-3) 20) (-1)=0:=by decide +kernel
theorem qER:yX exT (exC (-3) 22) (-1)=0:=by decide +kernel
theorem qED:qew exT (exC 3 20) (-1)=true:=by decide +kernel
theorem qEv:qew exT (exC (-3) 20) (-1)=false:=by decide +kernel
theorem qEM:qhV (wM exT (exC 3 20) (-1)) (-1) 0=true:=by decide +kernel
theorem qEE:qhV (wM exT (exC (-3) 22) (-1)) 0 0=true:=by decide +kernel
theorem qEV:qlH exT (exC 3 20) 2:=by
 refine⟨by omega,by omega,by decide +kernel,fun q q0 q1=>?_⟩
 rcases (show q=0∨q=1 by omega) with rfl|rfl
 ·decide +kernel
 ·decide +kernel
theorem qEH:qew exT (exC 3 20) 100000=true:=by decide +kernel
theorem qEz:qn5 (wM exT (exC (-3) 20) (-1))=[[.i 0],[.i 1]]:=by
 have z:qk0 (wM exT (exC (-3) 20) (-1)) 0 1=some (two 0 1):=by
  unfold qk0
  have:(q0l [ix (wM exT (exC (-3) 20) (-1)) 0,ix (wM exT (exC (-3) 20) (-1)) 1]).isSome=false:=by decide +kernel
  rw[this];rfl
 unfold qn5 qCT
 simp only[show (wM exT (exC (-3) 20) (-1)).length=2 from rfl,q0i,Nat.zero_add,Nat.add_zero,show 2-1=1 from rfl,z,Option.elim,id]
 rfl
theorem qi8:exT.length<9223372036854775808:=by decide
theorem qhM(a s:Int):(exC a s).length<9223372036854775808:=by show 2<9223372036854775808;omega
theorem tm1:tQ (-1)=[45,49]:=by decide +kernel
theorem tz0:tQ 0=[48]:=rfl
theorem q7g:(zV []).run=some (0,[.b true]):=by
 rw[qp7]
 have two:∀a s:Int,(q4p [.i a,.i 53,.i s]).run=some (0,[.r exT,.r (exC a s),.i (-1)]):=fun a s=>by rw[qsQ];rfl
 obtain⟨a1,a2,a3,f1⟩:=qgf qAY
 obtain⟨b1,b2,b3,f2⟩:=qgf qDX
 have F1:=q44 exT (exC 3 20) (-1) qi8 (qhM _ _)
 have F2:=q44 exT (exC (-3) 20) (-1) qi8 (qhM _ _)
 rw[f1,qED] at F1
 rw[f2,qEv] at F2
 have om:okQ (-1:Rat):=by unfold okQ;decide +kernel
 have oz:okQ (0:Rat):=by unfold okQ;decide +kernel
 have bm:bnd 12 10 (-1:Rat):=by unfold bnd;decide +kernel
 have bz:bnd 12 10 (0:Rat):=by unfold bnd;decide +kernel
 have D1:=q51 (p:=-1) qi8 (qhM 3 20) om oz (fun d gd=>qqU gd bm bz)
 have D2:=q51 (p:=-1) qi8 (qhM (-3) 22) oz oz (fun d gd=>qqU gd bz bz)
 unfold qBz at D1 D2
 rw[if_pos qAY,qEM,tm1,tz0] at D1
 rw[if_pos qER,qEE,tz0] at D2
 have N:(yn [.r exT,.r (exC 3 20),.i (-1)]).run=some (0,[.i 2,.i 0]):=by
  rcases qAL exT (exC 3 20) (-1) qi8 (qhM _ _) with⟨h,_⟩|⟨_,h,_⟩|⟨_,_,n,h,h2,_⟩
  ·exact absurd qAY h
  ·rw[qEH] at h;cases h
  ·rw[h2,qqi h qEV]
 have C:=qfe exT (exC (-3) 20) (-1) qi8 (qhM _ _)
 unfold qD9 at C
 rw[if_pos qDX,qEz] at C
 have Z:=un exT (exC 3 20) (-1) qi8 (qhM _ _)
 rw[if_pos qAY] at Z
 have z0:cS (rD (wM exT (exC 3 20) (-1))) 0 0=[45,51]:=by decide +kernel
 have z1:cS (rD (wM exT (exC 3 20) (-1))) 0 1=[48]:=by decide +kernel
 have z2:cS (rD (wM exT (exC 3 20) (-1))) 0 2=[52]:=by decide +kernel
 have zl:qj (rD (wM exT (exC 3 20) (-1)))=2:=rfl
 have q:=qhR [[.i 0],[.i 1]] (by simp)
 have w:qh .i64 0 0=0:=by decide
 simp only[STD,two,F1,F2,D1,D2,N,C,Z,q,w,z0,z1,z2,zl]
 rfl
theorem qD1(x0 x1:R):∃b,(q9q [.r x0,.r x1]).run=some (0,[.b b]):=by
 rw[qui]
 by_cases h:qj x0≤32
 ·simp only[STD,h];exact⟨_,rfl⟩
 ·simp only[STD,h];exact⟨_,rfl⟩
theorem qCq(x0 x1:R)(p:Int):(q8T [.r x0,.r x1,.i p]).run=some (0,[.r x0,.r x1,.i p]):=by rw[qt4];rfl
theorem qCC(x0 x1:R)(p:Int)(h:x0.length<9223372036854775808)(k:x1.length<9223372036854775808):∃b,(q9w [.r x0,.r x1,.i p]).run=some (0,[.b b]):=by
 rw[qtK]
 obtain⟨b,e⟩:=qD1 x0 x1
 have c:=q4J x0 x1 p h k
 cases b with
 | false=>simp only[STD,e];exact⟨_,rfl⟩
 | true=>
  by_cases h1:qj x0≤4
  ·by_cases h2:qj x1≤4
   ·simp only[STD,e,h1,h2];exact⟨_,rfl⟩
   ·simp only[STD,e,h1,h2,c];exact⟨_,rfl⟩
  ·simp only[STD,e,h1,c];exact⟨_,rfl⟩
theorem qtg(x0 x1:R)(p:Int)(h:x0.length<9223372036854775808)(k:x1.length<9223372036854775808):∃b,(q0B [.r x0,.r x1,.i p]).run=some (0,[.b b])∧(b=true→yX x0 x1 p=0):=by
 rw[qpA]
 obtain⟨b,e⟩:=qCC x0 x1 p h k
 have c:=q4J x0 x1 p h k
 cases b with
 | false=>simp only[STD,qCq,e];exact⟨_,rfl,fun h=>by cases h⟩
 | true=>
  by_cases hc:yX x0 x1 p=0
  ·simp only[STD,qCq,e,c];exact⟨_,rfl,fun _=>hc⟩
  ·simp only[STD,qCq,e,c];exact⟨_,rfl,fun h=>by simpa[ieq] using h⟩
theorem qz9{sh:List Sh}{x:R}(h:UFit (.sl sh) (.l x)):x.length<9223372036854775808:=by cases h with|sl _ _ h=>unfold maxLen at h;omega
theorem qx2(b:Bool):Go.Eng.beq b b=true:=by cases b<;>rfl
end Go.Eng

namespace Go.Eng
theorem qct{a b:Rat}{N D:Nat}(ha:bnd 12 10 a)(hb:bnd N D b):bnd (N+D+23) (10+D) (a-b):=ha.sub hb (by omega) (by omega)
theorem qBe{ax ay bx by_:Rat}{N D:Nat}(h1:bnd 12 10 ax)(h2:bnd 12 10 ay)(h3:bnd N D bx)(h4:bnd N D by_):bnd (N+D+23+(N+D+23)+(10+D+(10+D))+1) (10+D+(10+D)+(10+D+(10+D))) (uF ax ay bx by_):=
 qns (qct h1 h3) (qct h2 h4) (qct h1 h3) (qct h2 h4)
theorem qE8{ax ay bx by_:Rat}{N D:Nat}(h1:bnd 12 10 ax)(h2:bnd 12 10 ay)(h3:bnd N D bx)(h4:bnd N D by_)(hN:N≤60)(hD:D≤60) :
  (jI [.s (tQ ax),.s (tQ ay),.s (tQ bx),.s (tQ by_),.i 0]).run=some (0,[.s (tQ (uF ax ay bx by_)),.i 0]):=by
 rw[qcf]
 have k1:=qct h1 h3
 have k2:=qct h2 h4
 simp only[STD,qx0 h1 h2 h3 h4 (by omega) (by omega) (by omega),qyo k1 k2 k1 k2 (by omega) (by omega)]
 rfl
theorem qo9{d:DQ}{px py:Rat}(gd:GD d)(hx:bnd 60 60 px)(hy:bnd 60 60 py) :
  (zQ [.s (tQ d.x),.s (tQ d.y),.s (tQ d.s),.s (tQ px),.s (tQ py)]).run=some (0,[.b (decide (uF d.x d.y px py≤d.s)),.i 0]):=by
 rw[qcj]
 have ca:=qdC _ _ _ (show (tQ d.x).length≤1000000 from by have:=q9o ((zn gd.x).ok (by omega) (by omega));omega) (show (tQ d.y).length≤1000000 from by have:=q9o ((zn gd.y).ok (by omega) (by omega));omega) (show (tQ d.s).length≤1000000 from by have:=q9o ((q3U gd.s).ok (by omega) (by omega));omega)
 rw[qzs gd] at ca
 have c0:=q48 (hx.ok (by omega) (by omega))
 have c1:=q48 (hy.ok (by omega) (by omega))
 have L:=jy (S:=jE) (fun k=>[.i 2,.i (k:Int),.s (tQ d.x),.s (tQ d.y),.s (tQ d.s),.s (tQ px),.s (tQ py),.r [[.s (tQ px)],[.s (tQ py)]]])
  (0,[.s (tQ d.x),.s (tQ d.y),.s (tQ d.s),.s (tQ px),.s (tQ py)]) 2 (by omega)
  (fun k hk=>by
   rw[q0F]
   have w:=q1m hk (show 2<9223372036854775808 by omega)
   rcases (show k=0∨k=1 by omega) with rfl|rfl
   ·have c:(qE [.s (cS [[.s (tQ px)],[.s (tQ py)]] ((0:Nat):Int) 0)]).run=_:=c0
    simp only[STD,c,w,show ((0:Nat):Int)<2 by omega,show (0:Int)≤((0:Nat):Int) by omega,show qj [[U.s (tQ px)],[U.s (tQ py)]]=2 from rfl,and_self]
   ·have c:(qE [.s (cS [[.s (tQ px)],[.s (tQ py)]] ((1:Nat):Int) 0)]).run=_:=c1
    simp only[STD,c,w,show ((1:Nat):Int)<2 by omega,show (0:Int)≤((1:Nat):Int) by omega,show qj [[U.s (tQ px)],[U.s (tQ py)]]=2 from rfl,and_self])
  (by rw[q0F];simp only[STD,show ((2:Nat):Int)=2 from rfl,show ¬(2:Int)<2 by omega])
 simp only[show ((0:Nat):Int)=0 from rfl] at L
 obtain⟨d1,d2,d3⟩:=gd.sh
 have f:=qE8 d1 d2 hx hy (by omega) (by omega)
 have fb:=qBe d1 d2 hx hy
 have o:=qyu fb d3 (by omega) (by omega) (by omega)
 by_cases c:uF d.x d.y px py≤d.s
 ·simp only[STD,ca,show qj [[U.s (tQ px)],[U.s (tQ py)]]=2 from rfl,L,qw L,f,o,qg2,c,show ieq 0 0=true from rfl,decide_true]
 ·simp only[STD,ca,show qj [[U.s (tQ px)],[U.s (tQ py)]]=2 from rfl,L,qw L,f,o,qg2,c,decide_false]
def shN(s:List UInt8):Prop:=(spn s).length≤30∧(spd s).length≤30
instance (s:List UInt8):Decidable (shN s):=by unfold shN;infer_instance
theorem qEQ(s:List UInt8):ile (qm s) 30=decide (s.length≤30):=by
 unfold ile qm
 rw[decide_eq_decide];omega
theorem qtz(s:List UInt8)(hl:s.length≤9223372036854775807):(q0u [.s s]).run=some (0,[.b (decide (shN s))]):=by
 have a:=qvu s hl
 have e:decide (shN s)=(decide ((spn s).length≤30)&&decide ((spd s).length≤30)):=by unfold shN;exact Bool.decide_and _ _
 rw[qps,e]
 by_cases h1:(spn s).length≤30
 ·have c:qm (spn s)≤30:=by unfold qm;omega
  simp only[STD,a,h1,qEQ,decide_true,Bool.true_and]
 ·have c:¬(qm (spn s)≤30):=by unfold qm;omega
  simp only[STD,a,c,h1,decide_false,Bool.false_and]
theorem qyS{s:List UInt8}(h:shN s):s.length≤100:=by
 unfold shN spn spd at h
 obtain⟨h1,h2⟩:=h
 rw[List.length_take] at h1
 split at h2
 ·rw[List.length_drop] at h2;omega
 ·have:=qyZ s;omega
theorem qAv{q:Rat}(h:shN (tQ q)):bnd 30 30 q:=by
 unfold shN at h
 rw[qwl,qwB] at h
 have:=qDK q.num
 unfold bnd qn qd dl
 omega
theorem qwh{q:Rat}{N D:Nat}(h:bnd N D q)(hN:N≤60)(hD:D≤60):bnd 60 60 q:=⟨Nat.le_trans h.1 hN,Nat.le_trans h.2 hD⟩
end Go.Eng

namespace Go.Eng
def mvR(x1:R)(a b:Int)(k:Nat):R:=(List.range k).map fun i=>[.i (cI x1 (i:Nat) 0+a),.i (cI x1 (i:Nat) 1+b),.i (cI x1 (i:Nat) 2)]
theorem qAR(x1:R)(a b:Int)(k:Nat):mvR x1 a b (k+1)=qc3 (mvR x1 a b k) [[.i (cI x1 (k:Nat) 0+a),.i (cI x1 (k:Nat) 1+b),.i (cI x1 (k:Nat) 2)]]:=by
 unfold mvR;rw[List.range_succ,List.map_append];rfl
theorem qzU(x1:R)(a b:Int)(k:Nat):(mvR x1 a b k).length=k:=by simp[mvR]
theorem qsF(x1:R)(a b:Int){k i:Nat}(h:i<k)(j:Nat):wX (mvR x1 a b k) (i:Int) j=([U.i (cI x1 (i:Nat) 0+a),.i (cI x1 (i:Nat) 1+b),.i (cI x1 (i:Nat) 2)]).getD j (.i 0):=by
 unfold wX mvR
 have e:((List.range k).map fun i=>[U.i (cI x1 (i:Nat) 0+a),.i (cI x1 (i:Nat) 1+b),.i (cI x1 (i:Nat) 2)]).getD i []=[U.i (cI x1 (i:Nat) 0+a),.i (cI x1 (i:Nat) 1+b),.i (cI x1 (i:Nat) 2)]:=by
  rw[List.getD_eq_getElem?_getD,List.getElem?_map,List.getElem?_range h];rfl
 rw[Int.toNat_natCast,e]
theorem qDE(x0 x1:R)(a b:Int){k i:Nat}(h:i<k):zAt x0 (mvR x1 a b k) i=mvD (-(a:Rat)) (-(b:Rat)) (zAt x0 x1 i):=by
 have e0:cI (mvR x1 a b k) (i:Int) 0=cI x1 i 0+a:=by unfold cI;rw[qsF x1 a b h];rfl
 have e1:cI (mvR x1 a b k) (i:Int) 1=cI x1 i 1+b:=by unfold cI;rw[qsF x1 a b h];rfl
 have e2:cI (mvR x1 a b k) (i:Int) 2=cI x1 i 2:=by unfold cI;rw[qsF x1 a b h];rfl
 unfold zAt qyL
 rw[e0,e1,e2]
 unfold zD mvD
 simp only[DQ.mk.injEq,and_true]
 constructor
 ·rw[show cI x0 i 0-(cI x1 i 0+a)=cI x0 i 0-cI x1 i 0+-a by omega,Rat.intCast_add,Rat.intCast_neg]
 ·rw[show cI x0 i 1-(cI x1 i 1+b)=cI x0 i 1-cI x1 i 1+-b by omega,Rat.intCast_add,Rat.intCast_neg]
theorem qwE(x0 x1:R)(a b:Int):wM x0 (mvR x1 a b x0.length) (-1)=(wM x0 x1 (-1)).map (mvD (-(a:Rat)) (-(b:Rat))):=by
 unfold wM q1A qmu
 rw[if_neg (by omega),List.append_nil,List.append_nil,List.map_map]
 exact List.map_congr_left fun i hi=>qDE x0 x1 a b (List.mem_range.1 hi)
theorem qBG(l:List DQ)(u v px py:Rat):qhV (l.map (mvD u v)) (px+u) (py+v)=qhV l px py:=by
 unfold qhV
 rw[List.all_map]
 congr 1
 funext d
 have:uF (d.x+u) (d.y+v) (px+u) (py+v)=uF d.x d.y px py:=by unfold uF;grind
 show decide (uF (d.x+u) (d.y+v) (px+u) (py+v)≤d.s)=_
 rw[this]
theorem qxn{l:List DQ}{px py:Rat}(h:qhV l px py=true):quD l:=by
 refine⟨px,py,fun d hd=>?_⟩
 have:=of_decide_eq_true (List.all_eq_true.1 h d hd)
 unfold uF at this
 unfold pw
 grind
theorem qzk{a:Int}(h:-999999≤a∧a≤999999):bnd 6 1 (a:Rat):=by
 have:=qri h
 have d:dl 1=1:=by decide
 unfold bnd qn qd
 simp;omega
theorem qnP(x0:R)(x1:R)(x2:Int)(x3:Int)(x4:Int)(x5:List UInt8)(x6:List UInt8)(lex0:UFit (.sl [(.int .i64),(.int .i64),(.int .i64),(.int .i64),(.int .i64),(.int .i64),.bool]) (.l x0))(lex1:UFit (.sl [(.int .i64),(.int .i64),(.int .i64)]) (.l x1))(_:IntKind.min .i64≤x2)(_:x2≤IntKind.max .i64)(lox3:IntKind.min .i8≤x3)(hix3:x3≤IntKind.max .i8)(lox4:IntKind.min .i8≤x4)(hix4:x4≤IntKind.max .i8)(lex5:x5.length≤maxLen)(lex6:x6.length≤maxLen):(ur [.r x0,.r x1,.i x2,.i x3,.i x4,.s x5,.s x6]).run=some (0,[.b true]):=by
 have h:=qz9 lex0
 have k:=qz9 lex1
 have r3:(-128:Int)≤x3∧x3≤127:=⟨lox3,hix3⟩
 have r4:(-128:Int)≤x4∧x4≤127:=⟨lox4,hix4⟩
 rw[qia]
 obtain⟨b,f,fr⟩:=qtg x0 x1 (-1) h k
 have s5:=qtz x5 lex5
 have s6:=qtz x6 lex6
 cases b with
 | false=>simp only[STD,f,q7g]
 | true=>
  have hc:=fr rfl
  obtain⟨hr,hp⟩:=q4n hc
  by_cases c5:shN x5
  ·by_cases c6:shN x6
   ·have k5:=qiQ x5 (by have:=qyS c5;omega)
    have k6:=qiQ x6 (by have:=qyS c6;omega)
    by_cases z5:qmc x5=0
    ·by_cases z6:qmc x6=0
     ·obtain⟨px,rfl,ox⟩:=quR z5
      obtain⟨py,rfl,oy⟩:=quR z6
      rw[z5] at k5
      rw[z6] at k6
      have bx:=qAv c5
      have by_:=qAv c6
      have hn:x1.length=x0.length:=hr.e
      have wc3:wl .i64 x3=x3:=qja (by omega)
      have wc4:wl .i64 x4=x4:=qja (by omega)
      have L:=jy (S:=vA) (fun i=>[.r x1,.i (qj x1),.i (i:Int),.r x0,.r x1,.i (-1),.i x3,.i x4,.s (tQ px),.s (tQ py),.r x0,.i (-1),.r (mvR x1 x3 x4 i)])
       (0,[.r x0,.r x1,.i (-1),.i x3,.i x4,.s (tQ px),.s (tQ py),.r x0,.i (-1),.r (mvR x1 x3 x4 x0.length)]) x0.length (by have:=hr.n;omega) (fun i hi=>by
        rw[q7c]
        have a1:(i:Int)<qj x1:=by unfold qj;omega
        have n:=hr.nums hi
        have w1:qh .i64 (cI x1 i 0) x3=cI x1 i 0+x3:=qN (by omega)
        have w2:qh .i64 (cI x1 i 1) x4=cI x1 i 1+x4:=qN (by omega)
        have room:qj (mvR x1 x3 x4 i)+qj [[U.i (cI x1 i 0+x3),.i (cI x1 i 1+x4),.i (cI x1 i 2)]]≤5864062014805:=by
         have:=hr.n
         unfold qj;rw[qzU];simp;omega
        simp only[STD,a1,q4v,and_self,wc3,wc4,w1,w2,room,q1m hi (show x0.length<9223372036854775808 by have:=hr.n;omega),qAR]) (by
        rw[q7c]
        have a1:¬((x0.length:Int)<qj x1):=by unfold qj;omega
        simp only[STD,a1])
      have L':(qg vA [.r x1,.i (qj x1),.i 0,.r x0,.r x1,.i (-1),.i x3,.i x4,.s (tQ px),.s (tQ py),.r x0,.i (-1),.r []]).run=some (0,[.r x0,.r x1,.i (-1),.i x3,.i x4,.s (tQ px),.s (tQ py),.r x0,.i (-1),.r (mvR x1 x3 x4 x0.length)]):=L
      have km:(mvR x1 x3 x4 x0.length).length<9223372036854775808:=by rw[qzU];exact h
      obtain⟨b2,f2,fr2⟩:=qtg x0 (mvR x1 x3 x4 x0.length) (-1) h km
      cases b2 with
      | false=>simp only[STD,f,s5,s6,c5,c6,k5,k6,L',f2,q7g]
      | true=>
       have hc2:=fr2 rfl
       obtain⟨hr2,hp2⟩:=q4n hc2
       obtain⟨a1,a2,a3,e1⟩:=qgf hc
       obtain⟨b1,b2,b3,e2⟩:=qgf hc2
       have same:qew x0 (mvR x1 x3 x4 x0.length) (-1)=qew x0 x1 (-1):=by
        rw[Bool.eq_iff_iff,qjc hr2 (by omega),qjc hr (by omega),qwE,qrk]
       have F1:=q44 x0 x1 (-1) h k
       have F2:=q44 x0 (mvR x1 x3 x4 x0.length) (-1) h km
       rw[e1] at F1
       rw[e2,same] at F2
       have u3:=qzk (a:=x3) (by omega)
       have u4:=qzk (a:=x4) (by omega)
       have bx':bnd 60 60 (px-(x3:Rat)):=qwh (show bnd 40 (30+1) (px-(x3:Rat)) from bx.sub u3 (by omega) (by omega)) (by omega) (by omega)
       have by':bnd 60 60 (py-(x4:Rat)):=qwh (show bnd 40 (30+1) (py-(x4:Rat)) from by_.sub u4 (by omega) (by omega)) (by omega) (by omega)
       have D1:=q51 (p:=-1) h k ox oy (fun d gd=>qo9 gd (qwh bx (by omega) (by omega)) (qwh by_ (by omega) (by omega)))
       have D2:=q51 (p:=-1) h km (bx'.ok (by omega) (by omega)) (by'.ok (by omega) (by omega)) (fun d gd=>qo9 gd bx' by')
       unfold qBz at D1 D2
       rw[if_pos hc] at D1
       have iz:qhV (wM x0 (mvR x1 x3 x4 x0.length) (-1)) (px-(x3:Rat)) (py-(x4:Rat))=qhV (wM x0 x1 (-1)) px py:=by
        rw[qwE,←qBG (wM x0 x1 (-1)) (-(x3:Rat)) (-(x4:Rat)) px py,Rat.sub_eq_add_neg,Rat.sub_eq_add_neg]
       rw[if_pos hc2,iz] at D2
       have W3:=q83 (m:=x3) (by omega)
       have W4:=q83 (m:=x4) (by omega)
       have M5:=uj (bx.sm (K:=100000) (by omega) (by omega)) (u3.sm (K:=100000) (by omega) (by omega))
       have M6:=uj (by_.sm (K:=100000) (by omega) (by omega)) (u4.sm (K:=100000) (by omega) (by omega))
       have w0:qh .i64 0 0=0:=by decide
       cases hin:qhV (wM x0 x1 (-1)) px py with
       | false=>
        rw[hin] at D1 D2
        simp only[STD,f,s5,s6,c5,c6,k5,k6,L',f2,F1,F2,D1,D2,W3,W4,M5,M6,wc3,wc4,w0,q7g,qx2]
       | true=>
        have hm:qew x0 x1 (-1)=true:=(qjc hr (by omega)).2 (qxn hin)
        rw[hin] at D1 D2
        rw[hm] at F1 F2
        simp only[STD,f,s5,s6,c5,c6,k5,k6,L',f2,F1,F2,D1,D2,W3,W4,M5,M6,wc3,wc4,w0,q7g,qx2]
     ·simp only[STD,f,s5,s6,c5,c6,k5,k6,z5,z6,q7g]
    ·simp only[STD,f,s5,s6,c5,c6,k5,z5,q7g]
   ·simp only[STD,f,s5,s6,c5,c6,q7g]
  ·simp only[STD,f,s5,c5,q7g]
end Go.Eng

