/- Texts of the proof, merged: what the code computes, and plain laws. No statement stands here. -/
import Derived.Test.YtehgceikghodkaaGreatDoorS4
namespace Go.Eng
def mv:List Int→Int
 | []=>0
 | x::l=>x+1000000000*mv l
def pB(n:Nat):Int:=1000000000^n
theorem q6O:pB 0=1:=rfl
theorem qcF(n:Nat):pB (n+1)=pB n*1000000000:=Int.pow_succ _ _
theorem qdv:∀n,0<pB n
 | 0=>by decide
 | n+1=>by rw[qcF];have:=qdv n;omega
theorem qI8(m n:Nat):pB (m+n)=pB m*pB n:=Int.pow_add _ _ _
theorem qe2{m n:Nat}(h:m≤n):pB m≤pB n:=by
 obtain⟨k,rfl⟩:∃k,n=m+k:=⟨n-m,by omega⟩
 induction k with
 | zero=>simp
 | succ k ih=>
  have h1:=ih (by omega)
  rw[show m+(k+1)=(m+k)+1 by omega,qcF]
  have:=qdv (m+k)
  omega
def dgs(l:List Int):Prop:=∀x,x∈l→0≤x∧x<1000000000
theorem qBj:∀(l:List Int) (j:Nat) (h:j<l.length) (y:Int),mv (l.set j y)=mv l+(y-l[j])*pB j
 | [],j,h,_=>by simp at h
 | x::l,0,_,y=>by simp only[List.set_cons_zero,mv,List.getElem_cons_zero,q6O];omega
 | x::l,j+1,h,y=>by
  have ih:=qBj l j (by simpa using h) y
  simp only[List.set_cons_succ,mv,List.getElem_cons_succ,qcF]
  rw[ih]
  grind
theorem qCi:∀(l:List Int) (n:Nat),dgs l→(∀i,n≤i→l.getD i 0=0)→0≤mv l∧mv l<pB n
 | [],n,_,_=>⟨Int.le_refl _,qdv n⟩
 | x::l,0,hd,hz=>by
  have ih:=qCi l 0 (fun y hy=>hd y (List.mem_cons_of_mem _ hy)) (fun i _=>by have:=hz (i+1) (by omega);simpa using this)
  have hx:x=0:=by simpa using hz 0 (by omega)
  rw[q6O] at ih ⊢
  simp only[mv];omega
 | x::l,n+1,hd,hz=>by
  have ih:=qCi l n (fun y hy=>hd y (List.mem_cons_of_mem _ hy)) (fun i hi=>by have:=hz (i+1) (by omega);simpa using this)
  have hx:=hd x List.mem_cons_self
  rw[qcF]
  simp only[mv]
  generalize pB n=p at *
  omega
theorem qIp:∀(l:List Int) (j:Nat) (h:j<l.length),dgs l→l[j]≠0→pB j≤mv l
 | [],j,h,_,_=>by simp at h
 | x::l,0,_,hd,hx=>by
  have h1:=hd x List.mem_cons_self
  have h2:=(qCi l l.length (fun y hy=>hd y (List.mem_cons_of_mem _ hy)) (fun i hi=>by simp[List.getD_eq_getElem?_getD,hi])).1
  simp only[List.getElem_cons_zero] at hx
  simp only[mv,q6O];omega
 | x::l,j+1,h,hd,hx=>by
  have ih:=qIp l j (by simpa using h) (fun y hy=>hd y (List.mem_cons_of_mem _ hy)) (by simpa using hx)
  have h1:=hd x List.mem_cons_self
  rw[qcF]
  simp only[mv];omega
theorem qBl:∀(s t:List Int),mv (s++t)=mv s+pB s.length*mv t
 | [],t=>by simp[mv,q6O]
 | x::s,t=>by
  simp only[List.cons_append,mv,List.length_cons,qcF]
  rw[qBl s t];grind
theorem qgz(n:Nat):mv (List.replicate n 0)=0:=by
 induction n with
 | zero=>rfl
 | succ n ih=>simp[List.replicate_succ,mv,ih]
theorem qex{l:List Int}{i:Nat}(h:i<l.length):mv (l.drop i)=l[i]+1000000000*mv (l.drop (i+1)):=by
 rw[List.drop_eq_getElem_cons h];rfl
theorem vS{l:List Int}{n i:Nat}(hd:dgs l)(hz:∀i,n≤i→l.getD i 0=0)(hi:n≤i):mv (l.drop i)=0:=by
 have:=qCi (l.drop i) 0 (fun x hx=>hd x (List.mem_of_mem_drop hx)) (fun j _=>by
  have:=hz (i+j) (by omega)
  simpa[List.getD_eq_getElem?_getD] using this)
 rw[q6O] at this
 omega
structure WOK (n:Nat) (l:List Int):Prop where
 len:l.length=232
 le:n≤232
 dig:dgs l
 z:∀i,n≤i→l.getD i 0=0
def nrm(n:Nat)(l:List Int):Prop:=n=0∨l.getD (n-1) 0≠0
theorem WOK.bd{n:Nat}{l:List Int}(h:WOK n l):0≤mv l∧mv l<pB n:=qCi l n h.dig h.z
theorem WOK.lo{n:Nat}{l:List Int}(h:WOK n l)(hn:nrm n l)(h0:n≠0):pB (n-1)≤mv l:=by
 have h1:=h.le
 have h2:=h.len
 rcases hn with hn|hn
 ·exact absurd hn h0
 ·refine qIp l (n-1) (by omega) h.dig ?_
  rwa [jB (by omega)] at hn
theorem qyt(N i:Nat):(List.replicate N (0:Int)).getD i 0=0:=by
 rw[List.getD_eq_getElem?_getD,List.getElem?_replicate];split<;>rfl
theorem qFi(N:Nat):dgs (List.replicate N 0):=fun x hx=>by
 have:=(List.mem_replicate.1 hx).2
 omega
theorem WOK.zero:WOK 0 (List.replicate 232 0):=
 ⟨List.length_replicate,by omega,qFi 232,fun i _=>qyt 232 i⟩
theorem WOK.get{n:Nat}{l:List Int}(h:WOK n l)(i:Nat):0≤l.getD i 0∧l.getD i 0<1000000000:=by
 rcases Nat.lt_or_ge i l.length with hi|hi
 ·rw[jB hi];exact h.dig _ (List.getElem_mem hi)
 ·simp[List.getD_eq_getElem?_getD,hi]
theorem WOK.setW{n:Nat}{l:List Int}(h:WOK n l){j:Nat}{y:Int}(hj:j<232)(hy:0≤y∧y<1000000000):WOK (max n (j+1)) (l.set j y):=by
 have h1:=h.le
 refine⟨by simp[h.len],by omega,fun x hx=>?_,fun i hi=>?_⟩
 ·rcases List.mem_or_eq_of_mem_set hx with hx|rfl
  ·exact h.dig x hx
  ·exact hy
 ·have:=h.z i (by omega)
  rw[List.getD_eq_getElem?_getD,List.getElem?_set_ne (by omega),←List.getD_eq_getElem?_getD]
  exact this
theorem q6o(l:List Int)(i:Nat):cI (rI l) (i:Int) 0=l.getD i 0:=by rw[qHC,Int.toNat_natCast]
theorem qlq(l:List Int)(i:Nat)(v:Int):q6D (rI l) (i:Int) 0 [.i v]=rI (l.set i v):=by rw[qym,Int.toNat_natCast]
theorem qnZ{n:Nat}{l:List Int}(h:WOK n l)(b:Bool):∃m,(qC [.b b,.i (n:Int),.r (rI l)]).run=some (0,[.b b,.i ((m:Nat):Int),.r (rI l)])∧WOK m l∧nrm m l:=by
 rw[qjj]
 have h232:=h.le
 obtain⟨j,qs,h1,rfl,m,rfl,h3,h4⟩:=vZ (S:=jn) (fun k ps=>ps=[.b b,.i (k:Int),.r (rI l)]∧WOK k l)
  (fun j qs=>j=0∧∃m:Nat,qs=[.b b,.i (m:Int),.r (rI l)]∧WOK m l∧nrm m l) (n:=n) (by omega) (fun k ps hk ⟨hps,hw⟩=>by
  subst hps
  rw[qh4]
  have hk2:=hw.le
  by_cases h0:k=0
  ·right
   refine⟨0,_,?_,rfl,k,rfl,hw,.inl h0⟩
   simp only[STD,h0]
   rfl
  ·have hs:qA .i64 (k:Int) 1=((k-1:Nat):Int):=by rw[wA (by omega)];omega
   have a1:(0:Int)<(k:Int):=by omega
   have a2:(0:Int)≤((k-1:Nat):Int)∧((k-1:Nat):Int)<232:=by omega
   by_cases hz:l.getD (k-1) 0=0
   ·left
    refine⟨k-1,[.b b,.i ((k-1:Nat):Int),.r (rI l)],by omega,?_,rfl,hw.len,by omega,hw.dig,fun i hi=>?_⟩
    ·simp only[STD,a1,hs,a2,q6o,hz,and_self]
    ·rcases Nat.eq_or_lt_of_le hi with e|e
     ·rw[←e];exact hz
     ·exact hw.z i (by omega)
   ·right
    refine⟨0,[.b b,.i (k:Int),.r (rI l)],?_,rfl,k,rfl,hw,.inr hz⟩
    simp only[STD,a1,hs,a2,q6o,hz,and_self]) (ps:=[.b b,.i (n:Int),.r (rI l)]) ⟨rfl,h⟩
 exact⟨m,by simp only[STD,h1],h3,h4⟩
theorem qHV(s:Int):∃q r:Int,s.tdiv 1000000000=q∧s=q*1000000000+r∧(0≤s→0≤r)∧(s≤0→r≤0)∧-1000000000<r∧r<1000000000:=by
 obtain⟨h1,h2,h3,h4⟩:=qoJ s (show (1000000000:Int)≠0 by decide)
 refine⟨_,q83 s 1000000000,rfl,by omega,h3,h4,by omega,by omega⟩
theorem qCy{f up rest:Int}{i n j:Nat}{l ly:List Int}{bx b2:Bool}{ny:Nat}{S:Int}(hj:((j:Nat):Int)=qk .i64 (i:Int) up)(hj2:j<232)(hw:WOK n l)(hin:i<233)
  (hS:S=if i<ny then l.getD j 0+rest+f*ly.getD i 0 else l.getD j 0+rest) (hr:-1000000000≤rest∧rest≤1000000000) (hfy:-999999999999999999≤f*ly.getD i 0∧f*ly.getD i 0≤999999999999999999) (hny:ny≤232)
  (hgo:i<ny∨rest≠0) :
  ∃q s:Int,S=q*1000000000+s∧0≤s∧s<1000000000 ∧
   (j9 [.i f,.i up,.i rest,.i (i:Int),.b bx,.i (n:Int),.r (rI l),.b b2,.i (ny:Int),.r (rI ly)]).run=some (0,[.i f,.i up,.i q,.i ((i+1:Nat):Int),.b bx,.i ((max n (j+1):Nat):Int),.r (rI (l.set j s)),.b b2,.i (ny:Int),.r (rI ly)]):=by
 have hg:=hw.get j
 obtain⟨q,r,e1,e2,e3,e4,e5,e6⟩:=qHV S
 have hSb:-1000000000999999999≤S∧S≤1000000001999999998:=by rw[hS];split<;>omega
 have w1:yi .i64 S 1000000000=q:=by
  unfold yi
  rw[e1]
  unfold IntKind.wrap
  simp[IntKind.signed,IntKind.bits];omega
 have w2:ux .i64 q 1000000000=q*1000000000:=q2L (by omega)
 have w3:qA .i64 S (q*1000000000)=r:=by rw[wA (by omega)];omega
 have w4:qk .i64 (l.getD j 0) rest=l.getD j 0+rest:=qO (by omega)
 have w5:qk .i64 (i:Int) 1=((i+1:Nat):Int):=by rw[qO (by omega)];omega
 have w6:qk .i64 (j:Int) 1=((j+1:Nat):Int):=by rw[qO (by omega)];omega
 have w7:qi9 (n:Int) ((j+1:Nat):Int)=((max n (j+1):Nat):Int):=qwD _ _
 have a1:(0:Int)≤(j:Int)∧(j:Int)<232:=by omega
 have hw8:r<0→qk .i64 r 1000000000=r+1000000000:=fun _=>qO (by omega)
 have hw9:r<0→qA .i64 q 1=q-1:=fun _=>wA (by omega)
 rw[q9G]
 by_cases hi:i<ny
 ·rw[if_pos hi] at hS
  have a2:(i:Int)<(ny:Int):=by omega
  have a3:(0:Int)≤(i:Int)∧(i:Int)<232:=by omega
  have w10:ux .i64 f (ly.getD i 0)=f*ly.getD i 0:=q2L (by omega)
  have w11:qk .i64 (l.getD j 0+rest) (f*ly.getD i 0)=S:=by rw[qO (by omega),hS]
  by_cases hneg:r<0
  ·refine⟨q-1,r+1000000000,by omega,by omega,by omega,?_⟩
   simp only[STD,a2,←hj,a1,a3,q6o,w4,w10,w11,w1,w2,w3,hneg,hw8 hneg,hw9 hneg,w5,w6,w7,qlq,and_self]
  ·refine⟨q,r,by omega,by omega,by omega,?_⟩
   simp only[STD,a2,←hj,a1,a3,q6o,w4,w10,w11,w1,w2,w3,hneg,w5,w6,w7,qlq,and_self]
 ·rw[if_neg hi] at hS
  have hr0:rest≠0:=hgo.resolve_left hi
  have a2:¬(i:Int)<(ny:Int):=by omega
  rw[←hS] at w4
  by_cases hneg:r<0
  ·refine⟨q-1,r+1000000000,by omega,by omega,by omega,?_⟩
   simp only[STD,a2,hr0,←hj,a1,q6o,w4,w1,w2,w3,hneg,hw8 hneg,hw9 hneg,w5,w6,w7,qlq,and_self]
  ·refine⟨q,r,by omega,by omega,by omega,?_⟩
   simp only[STD,a2,hr0,←hj,a1,q6o,w4,w1,w2,w3,hneg,w5,w6,w7,qlq,and_self]
theorem qtc{f:Int}{up nx ny:Nat}{lx ly:List Int}(hx:WOK nx lx)(hy:WOK ny ly)(hf:-999999999≤f∧f≤999999999)(hup:ny+up≤232){T:Int}(hT:T=mv lx+f*mv ly*pB up)(h0:0≤T)(h1:T<pB 232)(bx b2:Bool) :
  ∃(n:Nat) (l:List Int),(qK [.i f,.i (up:Int),.b bx,.i (nx:Int),.r (rI lx),.b b2,.i (ny:Int),.r (rI ly)]).run=some (0,[.b bx,.i (n:Int),.r (rI l),.b b2,.i (ny:Int),.r (rI ly)])∧WOK n l∧nrm n l∧mv l=T:=by
 rw[qlC]
 have hny:=hy.le
 obtain⟨j,qs,g1,rfl,n,l,rfl,g3,g4⟩:=vZ (S:=j9) (fun k ps=>∃(i n:Nat) (rest:Int) (l:List Int),ps=[.i f,.i (up:Int),.i rest,.i (i:Int),.b bx,.i (n:Int),.r (rI l),.b b2,.i (ny:Int),.r (rI ly)] ∧
   i+k=300∧i≤232∧WOK n l∧-1000000000≤rest∧rest≤1000000000∧mv l+rest*pB (i+up)+f*mv (ly.drop i)*pB (i+up)=T)
  (fun j qs=>j=0∧∃(n:Nat) (l:List Int),qs=[.b bx,.i (n:Int),.r (rI l),.b b2,.i (ny:Int),.r (rI ly)]∧WOK n l∧mv l=T) (n:=300) (by omega) (fun k ps hk ⟨i,n,rest,l,hps,hik,hi,hw,hr1,hr2,hv⟩=>by
  subst hps
  have hg:=hy.get i
  have hfy:=qGv (A:=999999999) (B:=999999999) hf.1 hf.2 (show -(999999999:Int)≤ly.getD i 0 by omega) (show ly.getD i 0≤999999999 by omega)
  have hbd:=hw.bd
  have hn232:=hw.le
  by_cases hgo:i<ny∨rest≠0
  ·left
   have hj:i+up<232:=by
    rcases Nat.lt_or_ge i ny with h|h
    ·omega
    ·rcases Nat.lt_or_ge (i+up) 232 with h2|h2
     ·exact h2
     ·exfalso
      have hr0:=hgo.resolve_left (by omega)
      rw[vS hy.dig hy.z h] at hv
      have hP:=qe2 h2
      have hlt:=qe2 hn232
      simp only[Int.mul_zero,Int.zero_mul,Int.add_zero] at hv
      generalize pB (i+up)=P at *
      rcases Int.lt_or_lt_of_ne hr0 with h3|h3
      ·have:rest*P≤-1*P:=Int.mul_le_mul_of_nonneg_right (by omega) (by have:=qdv 232;omega)
       omega
      ·have:1*P≤rest*P:=Int.mul_le_mul_of_nonneg_right (by omega) (by have:=qdv 232;omega)
       omega
   have hjw:(((i+up:Nat)):Int)=qk .i64 (i:Int) (up:Int):=by rw[qO (by omega)];omega
   obtain⟨q,s,s1,s2,s3,s4⟩:=qCy (bx:=bx) (b2:=b2) (f:=f) (ly:=ly) hjw hj hw (by omega) rfl ⟨hr1,hr2⟩ (by omega) hny hgo
   refine⟨k-1,_,by omega,s4,i+1,_,q,_,rfl,by omega,by omega,hw.setW hj ⟨s2,s3⟩,?_,?_,?_⟩
   ·have hgl:=hw.get (i+up)
    split at s1<;>omega
   ·have hgl:=hw.get (i+up)
    split at s1<;>omega
   ·have hjl:i+up<l.length:=by rw[hw.len];exact hj
    rw[qBj l (i+up) hjl,←hv,show i+1+up=(i+up)+1 by omega,qcF]
    rw[jB hjl] at s1
    have hil:i<ly.length:=by rw[hy.len];omega
    rw[qex hil]
    rw[jB hil] at s1
    generalize pB (i+up)=P at *
    generalize l[i+up]=d at *
    by_cases hiny:i<ny
    ·rw[if_pos hiny] at s1
     generalize ly[i]=y at *
     generalize mv (ly.drop (i+1))=m at *
     grind
    ·rw[if_neg hiny] at s1
     have z1:ly[i]=0:=by rw[←jB hil];exact hy.z i (by omega)
     rw[z1,vS hy.dig hy.z (show ny≤i+1 by omega)]
     grind
  ·right
   have c1:¬i<ny:=fun h=>hgo (.inl h)
   have c2:rest=0:=Decidable.byContradiction fun h=>hgo (.inr h)
   refine⟨0,[.b bx,.i (n:Int),.r (rI l),.b b2,.i (ny:Int),.r (rI ly)],?_,rfl,n,l,rfl,hw,?_⟩
   ·rw[q9G]
    have a2:¬(i:Int)<(ny:Int):=by omega
    simp only[STD,a2,c2]
   ·rw[vS hy.dig hy.z (by omega),c2] at hv
    simp only[Int.mul_zero,Int.zero_mul,Int.add_zero] at hv
    exact hv) (ps:=[.i f,.i (up:Int),.i 0,.i 0,.b bx,.i (nx:Int),.r (rI lx),.b b2,.i (ny:Int),.r (rI ly)])
  ⟨0,nx,0,lx,rfl,by omega,by omega,hx,by omega,by omega,by simp[hT]⟩
 obtain⟨m,t1,t2,t3⟩:=qnZ g3 bx
 exact⟨m,l,by simp only[STD,g1,t1],t2,t3,g4⟩
end Go.Eng

namespace Go.Eng
theorem qdQ(l:List Int)(j:Nat)(h:j≤l.length):mv l=mv (l.take j)+pB j*mv (l.drop j):=by
 have:=qBl (l.take j) (l.drop j)
 rw[List.take_append_drop,List.length_take,Nat.min_eq_left h] at this
 exact this
theorem qFv{l:List Int}(h:dgs l)(j:Nat):dgs (l.take j):=fun x hx=>h x (List.mem_of_mem_take hx)
theorem qbI{l:List Int}(h:dgs l)(j:Nat):0≤mv (l.take j)∧mv (l.take j)<pB j:=
 qCi (l.take j) j (qFv h j) fun i hi=>by
  rw[List.getD_eq_getElem?_getD,List.getElem?_eq_none (by simp;omega)];rfl
theorem qpP{l:List Int}{i:Nat}(h:i<l.length):mv (l.take (i+1))=mv (l.take i)+l[i]*pB i:=by
 rw[List.take_succ_eq_append_getElem h,qBl,List.length_take,Nat.min_eq_left (by omega)]
 simp only[mv]
 grind
theorem WOK.mono{n m:Nat}{l:List Int}(h:WOK n l)(hm:n≤m)(h2:m≤232):WOK m l:=⟨h.len,h2,h.dig,fun i hi=>h.z i (by omega)⟩
theorem qoe{n:Nat}{l:List Int}(h:WOK n l)(hn:nrm n l):(n=0)=(mv l=0):=by
 apply propext
 constructor
 ·intro h0
  have:=h.bd
  rw[h0,q6O] at this;omega
 ·intro h0
  rcases Nat.eq_zero_or_pos n with h1|h1
  ·exact h1
  ·have:=h.lo hn (by omega)
   have:=qdv (n-1)
   omega
theorem qJf{n m:Nat}{l k:List Int}(h:WOK n l)(hn:nrm n l)(h2:WOK m k)(hle:mv l≤mv k):n≤m:=by
 rcases Nat.lt_or_ge m n with h3|h3
 ·exfalso
  have h4:=h.lo hn (by omega)
  have h5:=h2.bd.2
  have h6:=qe2 (show m≤n-1 by omega)
  omega
 ·exact h3
theorem qBC{nx ny:Nat}{lx ly:List Int}(hx:WOK nx lx)(hnx:nrm nx lx)(hy:WOK ny ly)(hny:nrm ny ly)(bx b2:Bool) :
  ∃r:Int,(zA [.b bx,.i (nx:Int),.r (rI lx),.b b2,.i (ny:Int),.r (rI ly)]).run=some (0,[.i r,.b bx,.i (nx:Int),.r (rI lx),.b b2,.i (ny:Int),.r (rI ly)])∧((0≤r)=(mv ly≤mv lx)):=by
 rw[qke]
 have h1:=hx.le
 have h2:=hy.le
 by_cases hne:nx=ny
 ·subst hne
  have hs:qA .i64 (nx:Int) 1=(nx:Int)-1:=wA (by omega)
  obtain⟨j,qs,g1,g2⟩:=vZ (S:=jU) (fun k ps=>ps=[.i ((k:Int)-1),.b bx,.i (nx:Int),.r (rI lx),.b b2,.i (nx:Int),.r (rI ly)]∧k≤nx∧mv (lx.drop k)=mv (ly.drop k))
   (fun j qs=>(j=0∧qs=[.b bx,.i (nx:Int),.r (rI lx),.b b2,.i (nx:Int),.r (rI ly)]∧mv lx=mv ly)∨(j=1∧∃r:Int,qs=[.i r,.b bx,.i (nx:Int),.r (rI lx),.b b2,.i (nx:Int),.r (rI ly)]∧((0≤r)=(mv ly≤mv lx)))) (n:=nx) (by omega) (fun k ps hk ⟨hps,hkn,hd⟩=>by
   subst hps
   rw[qi3]
   by_cases h0:k=0
   ·right
    refine⟨0,_,?_,.inl ⟨rfl,rfl,?_⟩⟩
    ·have a:¬(0:Int)≤(k:Int)-1:=by omega
     simp only[STD,a]
    ·rw[h0] at hd;simpa using hd
   ·obtain⟨i,rfl⟩:∃i,k=i+1:=⟨k-1,by omega⟩
    have e:(((i+1:Nat):Int)-1)=(i:Int):=by omega
    rw[e]
    have a1:(0:Int)≤(i:Int):=by omega
    have a2:(i:Int)<232:=by omega
    have gx:=hx.get i
    have gy:=hy.get i
    have hxl:i<lx.length:=by rw[hx.len];omega
    have hyl:i<ly.length:=by rw[hy.len];omega
    by_cases hc:lx.getD i 0=ly.getD i 0
    ·left
     refine⟨i,[.i ((i:Int)-1),.b bx,.i (nx:Int),.r (rI lx),.b b2,.i (nx:Int),.r (rI ly)],by omega,?_,rfl,by omega,?_⟩
     ·have w:qA .i64 (i:Int) 1=(i:Int)-1:=wA (by omega)
      simp only[STD,a1,a2,and_self,q6o,hc,w]
     ·rw[qex hxl,qex hyl,hd]
      rw[jB hxl,jB hyl] at hc
      rw[hc]
    ·right
     have w:qA .i64 (lx.getD i 0) (ly.getD i 0)=lx.getD i 0-ly.getD i 0:=wA (by omega)
     refine⟨1,[.i (lx.getD i 0-ly.getD i 0),.b bx,.i (nx:Int),.r (rI lx),.b b2,.i (nx:Int),.r (rI ly)],?_,.inr ⟨rfl,_,rfl,?_⟩⟩
     ·simp only[STD,a1,a2,and_self,q6o,hc,w]
     ·have sx:=qdQ lx i (by omega)
      have sy:=qdQ ly i (by omega)
      rw[qex hxl] at sx
      rw[qex hyl] at sy
      have tx:=qbI hx.dig i
      have ty:=qbI hy.dig i
      rw[jB hxl,jB hyl] at hc ⊢
      rw[hd] at sx
      have hp:=qdv i
      generalize pB i=P at *
      generalize lx[i]=u at *
      generalize ly[i]=v at *
      generalize mv (ly.drop (i+1))=w at *
      have e1:P*(u+1000000000*w)=P*u+P*(1000000000*w):=Int.mul_add _ _ _
      have e2:P*(v+1000000000*w)=P*v+P*(1000000000*w):=Int.mul_add _ _ _
      have e3:P*(u-v)=P*u-P*v:=Int.mul_sub _ _ _
      apply propext
      rcases Int.lt_or_lt_of_ne (show u-v≠0 by omega) with h|h
      ·have:P*(u-v)≤P*(-1):=Int.mul_le_mul_of_nonneg_left (by omega) (by omega)
       constructor
       ·intro;omega
       ·intro;omega
      ·have:P*1≤P*(u-v):=Int.mul_le_mul_of_nonneg_left (by omega) (by omega)
       constructor
       ·intro;omega
       ·intro;omega) (ps:=[.i ((nx:Int)-1),.b bx,.i (nx:Int),.r (rI lx),.b b2,.i (nx:Int),.r (rI ly)])
   ⟨rfl,Nat.le_refl _,by rw[vS hx.dig hx.z (Nat.le_refl _),vS hy.dig hy.z (Nat.le_refl _)]⟩
  rcases g2 with⟨rfl,rfl,g2⟩|⟨rfl,r,rfl,g2⟩
  ·refine⟨0,?_,?_⟩
   ·simp only[STD,hs,g1,qu g1]
   ·apply propext;simp;omega
  ·refine⟨r,?_,g2⟩
   simp only[STD,hs,g1,qu g1,show ¬(1=0) by omega]
 ·have hs:qA .i64 (nx:Int) (ny:Int)=(nx:Int)-(ny:Int):=wA (by omega)
  refine⟨(nx:Int)-(ny:Int),?_,?_⟩
  ·have a:¬(nx:Int)=(ny:Int):=by omega
   simp only[STD,a,hs]
  ·apply propext
   have b1:=hx.bd
   have b2:=hy.bd
   rcases Nat.lt_or_gt_of_ne hne with h|h
   ·have:=hy.lo hny (by omega)
    have:=qe2 (show nx≤ny-1 by omega)
    constructor
    ·intro;omega
    ·intro;omega
   ·have:=hx.lo hnx (by omega)
    have:=qe2 (show ny≤nx-1 by omega)
    constructor
    ·intro;omega
    ·intro;omega
def sv(b:Bool)(l:List Int):Int:=if b then -mv l else mv l
theorem qGB{nx ny:Nat}{lx ly:List Int}(hx:WOK nx lx)(hnx:nrm nx lx)(hy:WOK ny ly)(hny:nrm ny ly)(hb:mv lx+mv ly<pB 232)(bx b2:Bool) :
  ∃(b:Bool) (n:Nat) (l:List Int),(wK [.b bx,.i (nx:Int),.r (rI lx),.b b2,.i (ny:Int),.r (rI ly)]).run=some (0,[.b b,.i (n:Int),.r (rI l),.b b2,.i (ny:Int),.r (rI ly)])∧WOK n l∧nrm n l∧sv b l=sv bx lx+sv b2 ly:=by
 rw[qmR]
 have h1:=hx.bd
 have h2:=hy.bd
 have l1:=hx.le
 have l2:=hy.le
 by_cases hs:bx=b2
 ·subst hs
  obtain⟨n,l,g1,g2,g3,g4⟩:=qtc (f:=1) (up:=0) hx hy (by omega) (by omega) (T:=mv lx+mv ly) (by rw[q6O];omega) (by omega) hb bx bx
  refine⟨bx,n,l,?_,g2,g3,?_⟩
  ·simp only[STD,show ((0:Nat):Int)=0 from rfl] at g1 ⊢
   simp only[STD,g1]
  ·unfold sv;rw[g4];cases bx<;>simp<;>omega
 ·obtain⟨r,r1,r2⟩:=qBC hx hnx hy hny bx b2
  by_cases hr:mv ly≤mv lx
  ·have hr':0≤r:=by rw[r2];exact hr
   obtain⟨n,l,g1,g2,g3,g4⟩:=qtc (f:=-1) (up:=0) hx hy (by omega) (by omega) (T:=mv lx-mv ly) (by rw[q6O];omega) (by omega) (by omega) bx b2
   refine⟨bx,n,l,?_,g2,g3,?_⟩
   ·simp only[show ((0:Nat):Int)=0 from rfl] at g1
    simp only[STD,hs,r1,hr',g1]
   ·unfold sv;rw[g4];cases bx<;>cases b2<;>simp_all<;>omega
  ·have hr':¬0≤r:=by rw[r2];exact hr
   obtain⟨n,l,g1,g2,g3,g4⟩:=qtc (f:=-1) (up:=0) hy hx (by omega) (by omega) (T:=mv ly-mv lx) (by rw[q6O];omega) (by omega) (by omega) b2 bx
   refine⟨b2,n,l,?_,g2,g3,?_⟩
   ·simp only[show ((0:Nat):Int)=0 from rfl] at g1
    simp only[STD,hs,r1,hr',g1]
   ·unfold sv;rw[g4];cases bx<;>cases b2<;>simp_all<;>omega
theorem qDD{x y:Int}{m n:Nat}(h0:0≤x)(h1:x<pB m)(h2:0≤y)(h3:y≤pB n):x*y<pB (m+n)∨y=0:=by
 rcases Int.lt_or_eq_of_le h2 with h|h
 ·left
  rw[qI8]
  have e1:x*y<pB m*y:=Int.mul_lt_mul_of_pos_right h1 h
  have e2:pB m*y≤pB m*pB n:=Int.mul_le_mul_of_nonneg_left h3 (by omega)
  omega
 ·exact .inr h.symm
theorem qHp{nx ny:Nat}{lx ly:List Int}(hx:WOK nx lx)(hy:WOK ny ly)(hb:nx+ny≤232)(bx b2:Bool) :
  ∃(n:Nat) (l:List Int),(kX [.b bx,.i (nx:Int),.r (rI lx),.b b2,.i (ny:Int),.r (rI ly)]).run=some (0,[.b bx,.i (nx:Int),.r (rI lx),.b b2,.i (ny:Int),.r (rI ly),.b (!(Go.Eng.beq bx b2)),.i (n:Int),.r (rI l)])∧WOK n l∧nrm n l∧mv l=mv lx*mv ly:=by
 rw[qls]
 have hbx:=hx.bd
 have e0:q4U 232 [.i 0]=rI (List.replicate 232 0):=qm8 232 0
 obtain⟨j,qs,g1,rfl,n,l,rfl,g2,g3,g4⟩:=vZ (S:=yW) (fun k ps=>∃(i n:Nat) (l:List Int),ps=[.i (ny:Int),.i (i:Int),.b bx,.i (nx:Int),.r (rI lx),.b b2,.i (ny:Int),.r (rI ly),.b (!(Go.Eng.beq bx b2)),.i (n:Int),.r (rI l)] ∧
   i+k=ny∧WOK n l∧nrm n l∧mv l=mv lx*mv (ly.take i))
  (fun j qs=>j=0∧∃(n:Nat) (l:List Int),qs=[.b bx,.i (nx:Int),.r (rI lx),.b b2,.i (ny:Int),.r (rI ly),.b (!(Go.Eng.beq bx b2)),.i (n:Int),.r (rI l)]∧WOK n l∧nrm n l∧mv l=mv lx*mv ly) (n:=ny) (by omega) (fun k ps hk ⟨i,n,l,hps,hik,hw,hn,hv⟩=>by
  subst hps
  rw[qid]
  by_cases hi:i<ny
  ·left
   have hil:i<ly.length:=by rw[hy.len];omega
   have gy:=hy.get i
   have tb:=qbI hy.dig i
   have tb2:=qbI hy.dig (i+1)
   have hT:mv lx*mv (ly.take (i+1))=mv l+ly.getD i 0*mv lx*pB i:=by
    rw[qpP hil,hv,jB hil];grind
   have hlt:mv lx*mv (ly.take (i+1))<pB 232:=by
    rcases qDD (n:=i+1) hbx.1 hbx.2 tb2.1 (by omega) with h|h
    ·exact Int.lt_of_lt_of_le h (qe2 (by omega))
    ·rw[h,Int.mul_zero];exact qdv _
   obtain⟨n',l',c1,c2,c3,c4⟩:=qtc (f:=ly.getD i 0) (up:=i) hw hx (by omega) (by omega) hT (Int.mul_nonneg hbx.1 tb2.1) hlt (!(Go.Eng.beq bx b2)) bx
   have w:qk .i64 (i:Int) 1=((i+1:Nat):Int):=by rw[qO (by omega)];omega
   refine⟨k-1,_,by omega,?_,i+1,n',l',rfl,by omega,c2,c3,c4⟩
   have a1:(i:Int)<(ny:Int):=by omega
   have a2:(0:Int)≤(i:Int)∧(i:Int)<232:=by omega
   simp only[STD,a1,a2,and_self,q6o,c1,w]
  ·right
   have hi2:i=ny:=by omega
   have a1:¬(i:Int)<(ny:Int):=by omega
   refine⟨0,[.b bx,.i (nx:Int),.r (rI lx),.b b2,.i (ny:Int),.r (rI ly),.b (!(Go.Eng.beq bx b2)),.i (n:Int),.r (rI l)],?_,rfl,n,l,rfl,hw,hn,?_⟩
   ·simp only[STD,a1]
   ·have:=qdQ ly ny (by rw[hy.len];exact hy.le)
    rw[vS hy.dig hy.z (Nat.le_refl _),Int.mul_zero,Int.add_zero] at this
    rw[hv,hi2,←this])
  (ps:=[.i (ny:Int),.i 0,.b bx,.i (nx:Int),.r (rI lx),.b b2,.i (ny:Int),.r (rI ly),.b (!(Go.Eng.beq bx b2)),.i 0,.r (rI (List.replicate 232 0))])
  ⟨0,0,_,rfl,by omega,WOK.zero,.inl rfl,by rw[qgz];simp[mv]⟩
 refine⟨n,l,?_,g2,g3,g4⟩
 simp only[e0]
 simp only[STD,g1]
theorem qCl{nx ny:Nat}{lx ly:List Int}(hx:WOK nx lx)(hnx:nrm nx lx)(hy:WOK ny ly)(hny:nrm ny ly)(h0:ny≠0)(hle:mv ly≤mv lx)(hlt:mv lx<pB (ny+1))(hn231:ny≤231)(bx b2:Bool) :
  ∃k:Int,(yS [.b bx,.i (nx:Int),.r (rI lx),.b b2,.i (ny:Int),.r (rI ly)]).run=some (0,[.i k,.b bx,.i (nx:Int),.r (rI lx),.b b2,.i (ny:Int),.r (rI ly)])∧1≤k∧k≤999999999∧k*mv ly≤mv lx:=by
 rw[qpd]
 obtain⟨m,rfl⟩:∃m,ny=m+1:=⟨ny-1,by omega⟩
 have hxl:=hx.len
 have hyl:=hy.len
 have hnx1:m+1≤nx:=qJf hy hny hx hle
 have hnx2:nx≤m+2:=by
  rcases Nat.lt_or_ge (m+2) nx with h|h
  ·exfalso
   have h1:=hx.lo hnx (by omega)
   have h2:=qe2 (show m+1+1≤nx-1 by omega)
   omega
  ·exact h
 have gx1:=hx.get m
 have gx2:=hx.get (m+1)
 have gy:=hy.get m
 have sx:=qdQ lx m (by omega)
 have sy:=qdQ ly m (by omega)
 rw[qex (show m<lx.length by omega),qex (show m+1<lx.length by omega),vS hx.dig hx.z (show nx≤m+1+1 by omega)] at sx
 rw[qex (show m<ly.length by omega),vS hy.dig hy.z (Nat.le_refl _)] at sy
 have tx:=qbI hx.dig m
 have ty:=qbI hy.dig m
 have hyn:ly.getD m 0≠0:=by
  rcases hny with h|h
  ·omega
  ·simpa using h
 have w1:qA .i64 ((m+1:Nat):Int) 1=(m:Int):=by rw[wA (by omega)];omega
 have c1:¬((m+1:Nat):Int)<0:=by omega
 have c2:¬(nx:Int)≤(m:Int):=by omega
 have c3:¬(m:Int)<0:=by omega
 have c4:¬((m+1:Nat):Int)≤(m:Int):=by omega
 have c5:(0:Int)≤(m:Int)∧(m:Int)<232:=by omega
 have c6:(0:Int)≤((m+1:Nat):Int)∧((m+1:Nat):Int)<232:=by omega
 have gex:lx[m]'(by omega)=lx.getD m 0:=(jB (by omega)).symm
 have gex1:lx[m+1]'(by omega)=lx.getD (m+1) 0:=(jB (by omega)).symm
 have gey:ly[m]'(by omega)=ly.getD m 0:=(jB (by omega)).symm
 rw[gex,gex1] at sx
 rw[gey] at sy
 have hp:=qdv m
 have key:∀a b:Int,a=lx.getD m 0+1000000000*lx.getD (m+1) 0→0<b→mv ly≤b*pB m→∀k,k=a/b→k*mv ly≤mv lx∧qcp k 999999999*mv ly≤mv lx:=by
  intro a b ha hb hbY k hk
  have hk0:0≤k:=by rw[hk];exact Int.ediv_nonneg (by omega) (by omega)
  have hkb:k*b≤a:=by rw[hk];exact Int.ediv_mul_le a (by omega)
  have hY:=(hy.bd).1
  have f1:k*mv ly≤k*(b*pB m):=Int.mul_le_mul_of_nonneg_left hbY hk0
  have f2:k*b*pB m≤a*pB m:=Int.mul_le_mul_of_nonneg_right hkb (by omega)
  have f3:k*(b*pB m)=k*b*pB m:=(Int.mul_assoc _ _ _).symm
  have f4:a*pB m=pB m*(lx.getD m 0+1000000000*(lx.getD (m+1) 0+1000000000*0)):=by rw[ha];grind
  have f5:k*mv ly≤mv lx:=by omega
  refine⟨f5,?_⟩
  have:qcp k 999999999≤k:=by unfold qcp;split<;>omega
  have:=Int.mul_le_mul_of_nonneg_right this hY
  omega
 have wq:∀a b:Int,0≤a→a<1000000000000000000→0<b→yi .i64 a b=a/b:=by
  intro a b h1 h2 h3
  unfold yi
  rw[Int.tdiv_eq_ediv_of_nonneg h1]
  have q1:0≤a/b:=Int.ediv_nonneg h1 (by omega)
  have q2:a/b≤a:=Int.ediv_le_self _ h1
  generalize a/b=q at *
  unfold IntKind.wrap
  simp[IntKind.signed,IntKind.bits];omega
 have fin:∀k:Int,(0<k→k*mv ly≤mv lx∧qcp k 999999999*mv ly≤mv lx)→∃k':Int,(if 0<k then qcp k 999999999 else 1)=k'∧1≤k'∧k'≤999999999∧k'*mv ly≤mv lx:=by
  intro k hk
  by_cases h:0<k
  ·rw[if_pos h]
   refine⟨_,rfl,?_,?_,(hk h).2⟩
   ·unfold qcp;split<;>omega
   ·unfold qcp;split<;>omega
  ·rw[if_neg h];exact⟨1,rfl,by omega,by omega,by omega⟩
 by_cases hcase:nx≤m+1
 ·have c7:(nx:Int)≤((m+1:Nat):Int):=by omega
  have z1:lx.getD (m+1) 0=0:=hx.z _ (by omega)
  have wa:qk .i64 0 (lx.getD m 0)=lx.getD m 0:=by rw[qO (by omega)];omega
  by_cases hm:m=0
  ·subst hm
   have c8:¬(1:Int)<((0+1:Nat):Int):=by omega
   have hq:=wq (lx.getD 0 0) (ly.getD 0 0) (by omega) (by omega) (by omega)
   have hbY:mv ly≤ly.getD 0 0*pB 0:=by rw[q6O] at sy ty ⊢;omega
   obtain⟨k',f1,f2,f3,f4⟩:=fin (lx.getD 0 0/ly.getD 0 0) (fun _=>key _ _ (by rw[z1];omega) (by omega) hbY _ rfl)
   refine⟨k',?_,f2,f3,f4⟩
   rw[←f1]
   simp only[STD,c1,w1,c2,c3,c4,c5,c6,c7,c8,and_self,q6o,wa,hyn,hq]
   split<;>rfl
  ·have c8:(1:Int)<((m+1:Nat):Int):=by omega
   have wb:qk .i64 (ly.getD m 0) 1=ly.getD m 0+1:=qO (by omega)
   have hq:=wq (lx.getD m 0) (ly.getD m 0+1) (by omega) (by omega) (by omega)
   have hbY:mv ly≤(ly.getD m 0+1)*pB m:=by
    have:(ly.getD m 0+1)*pB m=pB m*(ly.getD m 0+1000000000*0)+pB m:=by grind
    omega
   obtain⟨k',f1,f2,f3,f4⟩:=fin (lx.getD m 0/(ly.getD m 0+1)) (fun _=>key _ _ (by rw[z1];omega) (by omega) hbY _ rfl)
   refine⟨k',?_,f2,f3,f4⟩
   rw[←f1]
   have hne:¬ly.getD m 0+1=0:=by omega
   simp only[STD,c1,w1,c2,c3,c4,c5,c6,c7,c8,and_self,q6o,wa,wb,hne,hq]
   split<;>rfl
 ·have c7:¬(nx:Int)≤((m+1:Nat):Int):=by omega
  have wm:ux .i64 (lx.getD (m+1) 0) 1000000000=lx.getD (m+1) 0*1000000000:=q2L (by omega)
  have wa:qk .i64 (lx.getD (m+1) 0*1000000000) (lx.getD m 0)=lx.getD (m+1) 0*1000000000+lx.getD m 0:=qO (by omega)
  by_cases hm:m=0
  ·subst hm
   have c8:¬(1:Int)<((0+1:Nat):Int):=by omega
   have hq:=wq (lx.getD (0+1) 0*1000000000+lx.getD 0 0) (ly.getD 0 0) (by omega) (by omega) (by omega)
   have hbY:mv ly≤ly.getD 0 0*pB 0:=by rw[q6O] at sy ty ⊢;omega
   obtain⟨k',f1,f2,f3,f4⟩:=fin ((lx.getD (0+1) 0*1000000000+lx.getD 0 0)/ly.getD 0 0) (fun _=>key _ _ (by omega) (by omega) hbY _ rfl)
   refine⟨k',?_,f2,f3,f4⟩
   rw[←f1]
   simp only[STD,c1,w1,c2,c3,c4,c5,c6,c7,c8,and_self,q6o,wm,wa,hyn,hq]
   split<;>rfl
  ·have c8:(1:Int)<((m+1:Nat):Int):=by omega
   have wb:qk .i64 (ly.getD m 0) 1=ly.getD m 0+1:=qO (by omega)
   have hq:=wq (lx.getD (m+1) 0*1000000000+lx.getD m 0) (ly.getD m 0+1) (by omega) (by omega) (by omega)
   have hbY:mv ly≤(ly.getD m 0+1)*pB m:=by
    have:(ly.getD m 0+1)*pB m=pB m*(ly.getD m 0+1000000000*0)+pB m:=by grind
    omega
   obtain⟨k',f1,f2,f3,f4⟩:=fin ((lx.getD (m+1) 0*1000000000+lx.getD m 0)/(ly.getD m 0+1)) (fun _=>key _ _ (by omega) (by omega) hbY _ rfl)
   refine⟨k',?_,f2,f3,f4⟩
   rw[←f1]
   have hne:¬ly.getD m 0+1=0:=by omega
   simp only[STD,c1,w1,c2,c3,c4,c5,c6,c7,c8,and_self,q6o,wm,wa,wb,hne,hq]
   split<;>rfl
end Go.Eng

namespace Go.Eng
theorem qGA(u:Nat):Lib.decDigits u=tN u:=by
 induction u using Nat.strongRecOn with
 | _ u ih=>
  rw[Lib.decDigits]
  split
  ·rename_i h
   rw[qxU h];rfl
  ·rename_i h
   rw[ih (u/10) (by omega)]
   exact(qAp (n:=u) (by omega)).symm
theorem qzS(n:Int):Lib.itoa n=tI n:=by
 unfold Lib.itoa
 by_cases h:n<0
 ·rw[if_pos h,qGA,qdH h]
 ·rw[if_neg h,qGA,qmd h];congr 1;omega
theorem qHQ(n:Int)(h:-9223372036854775808≤n∧n≤9223372036854775807):(q59 [.i n]).run=some (0,[.s (tI n)]):=by
 show (qE9 [.i n]).run=_
 unfold qE9
 simp only
 rw[if_pos h,qzS];rfl
theorem qyd{c:UInt8}(h:48≤c.toNat∧c.toNat≤57):Lib.digitVal c=some (dv c):=by
 unfold Lib.digitVal dv
 simp_all
theorem qsT:∀{s:List UInt8} (a:Nat),q6C s→Lib.decFrom a s=some (a*10^s.length+val s)
 | [],a,_=>by simp[Lib.decFrom,val]
 | c::s,a,h=>by
  obtain⟨h1,h2⟩:=q0Q.1 h
  rw[Lib.decFrom,qyd h1]
  simp only
  rw[qsT _ h2,q6U,List.length_cons,Nat.pow_succ]
  congr 1
  grind
theorem qv8{s:List UInt8}(h:q6C s)(hn:s≠[]):Lib.decNat s=some (val s):=by
 unfold Lib.decNat
 rw[if_neg (by simpa using hn),qsT 0 h];simp
theorem qyP{s:List UInt8}(h:q6C s)(hn:s≠[]):Lib.atoi s=some (val s:Int):=by
 obtain⟨c,t,e,h1,h2⟩:=qjF h hn
 rw[e] at h ⊢
 have n1:(c==45)=false:=by
  rw[beq_eq_false_iff_ne];intro hc;subst hc;revert h1;decide
 have n2:(c==43)=false:=by
  rw[beq_eq_false_iff_ne];intro hc;subst hc;revert h1;decide
 unfold Lib.atoi
 simp only[n1,n2,Bool.false_eq_true,if_false]
 rw[qv8 h (by simp)];rfl
theorem qDy(m:Int):Lib.atoi (tI m)=some m:=by
 by_cases h:m<0
 ·rw[qdH h]
  unfold Lib.atoi
  simp only[beq_self_eq_true,if_true]
  rw[qv8 (wg _) (qsd _),q0V]
  simp;omega
 ·rw[qmd h,qyP (wg _) (qsd _),q0V]
  congr 1;omega
theorem qEM{s:List UInt8}{n:Int}(hl:s.length≤18)(h:Lib.atoi s=some n):(vX [.s s]).run=some (0,[.i n]):=by
 show (qEO [.s s]).run=_
 unfold qEO
 simp only
 rw[if_pos hl,h];rfl
theorem qB4:∀s:List UInt8,Lib.indexByte s 47=if sP s<s.length then (sP s:Int) else -1
 | []=>by simp[Lib.indexByte,sP]
 | c::s=>by
  have ih:=qB4 s
  have hle:=qEL s
  unfold Lib.indexByte
  by_cases h:c=47
  ·subst h
   have:sP (47::s)=0:=qHf (by simp) (by simp) (fun j hj=>by omega)
   rw[this];simp
  ·have hc:(c==47)=false:=by simpa using h
   have e:sP (c::s)=sP s+1:=by
    unfold sP
    rw[List.findIdx_cons,hc];rfl
   rw[e]
   generalize sP s=k at *
   have el:(c::s).length=s.length+1:=rfl
   simp only[hc,el,ih,Bool.false_eq_true,if_false]
   grind
theorem qHr(s:List UInt8):(vU [.s s,.s [47]]).run=some (0,[.i (if sP s<s.length then (sP s:Int) else -1)]):=by
 show (qyu [.s s,.s [47]]).run=_
 unfold qyu
 simp only
 rw[←qB4];rfl
theorem qB1:∀{s t:List UInt8},q6C s→q6C t→s.length=t.length→Lib.compareBytes s t=sgn ((val s:Int)-(val t:Int))
 | [],[],_,_,_=>by simp[Lib.compareBytes,val,sgn]
 | [],_::_,_,_,h=>by simp at h
 | _::_,[],_,_,h=>by simp at h
 | a::s,b::t,hs,ht,h=>by
  obtain⟨h1,h2⟩:=q0Q.1 hs
  obtain⟨h3,h4⟩:=q0Q.1 ht
  have hl:s.length=t.length:=by simpa using h
  have ih:=qB1 h2 h4 hl
  have v1:=q84 h2
  have v2:=q84 h4
  unfold Lib.compareBytes
  rw[q6U,q6U,hl]
  rw[hl] at v1
  have hp:0<10^t.length:=Nat.pow_pos (by omega)
  generalize 10^t.length=P at *
  unfold dv
  by_cases c1:a.toNat<b.toNat
  ·rw[if_pos (show a<b from c1)]
   have:(a.toNat-48+1)*P≤(b.toNat-48)*P:=Nat.mul_le_mul_right _ (by omega)
   rw[Nat.add_mul,Nat.one_mul] at this
   unfold sgn
   rw[if_pos (by omega)]
  ·rw[if_neg (show ¬a<b from c1)]
   by_cases c2:b.toNat<a.toNat
   ·rw[if_pos (show b<a from c2)]
    have:(b.toNat-48+1)*P≤(a.toNat-48)*P:=Nat.mul_le_mul_right _ (by omega)
    rw[Nat.add_mul,Nat.one_mul] at this
    unfold sgn
    rw[if_neg (by omega),if_neg (by omega)]
   ·rw[if_neg (show ¬b<a from c2),ih]
    have:a.toNat=b.toNat:=by omega
    rw[this]
    congr 1;omega
theorem qD0{s t:List UInt8}(hs:q6C s)(ht:q6C t)(h:s.length=t.length):(q4r [.s s,.s t]).run=some (0,[.i (sgn ((val s:Int)-(val t:Int)))]):=by
 show (qrd [.s s,.s t]).run=_
 unfold qrd
 simp only
 rw[qB1 hs ht h];rfl
def qEk:List UInt8:=[48,49,50,51,52,53,54,55,56,57]
theorem qBT(c:UInt8):(qEk.contains c=true)↔(48≤c.toNat∧c.toNat≤57):=by
 constructor
 ·intro h
  simp only[qEk,List.contains_eq_mem,List.mem_cons,List.not_mem_nil,or_false,decide_eq_true_eq] at h
  rcases h with rfl|rfl|rfl|rfl|rfl|rfl|rfl|rfl|rfl|rfl<;>decide
 ·rintro ⟨h1,h2⟩
  have hk:∃k,c=UInt8.ofNat k∧48≤k∧k≤57:=⟨c.toNat,by simp,h1,h2⟩
  obtain⟨k,rfl,k1,k2⟩:=hk
  have:k=48∨k=49∨k=50∨k=51∨k=52∨k=53∨k=54∨k=55∨k=56∨k=57:=by omega
  rcases this with rfl|rfl|rfl|rfl|rfl|rfl|rfl|rfl|rfl|rfl<;>decide
theorem qbr{p:UInt8→Bool}:∀{l:List UInt8},l.dropWhile p=[]↔∀x,x∈l→p x=true
 | []=>by simp
 | a::l=>by
  rw[List.dropWhile_cons]
  by_cases h:p a=true
  ·rw[if_pos h,qbr];simp[h]
  ·rw[if_neg h];simp[h]
theorem qjM(s:List UInt8):(Lib.trimS s qEk=[])=q6C s:=by
 apply propext
 unfold Lib.trimS Lib.trimLeftS Lib.trimRightS
 constructor
 ·intro h
  have h1:∀c,c∈(s.reverse.dropWhile (qEk.contains ·)).reverse→qEk.contains c=true:=by
   intro c hc
   have:=qbr.1 h c hc
   simpa using this
  have h2:s.reverse.dropWhile (qEk.contains ·)=[]:=by
   cases hd:s.reverse.dropWhile (qEk.contains ·) with
   | nil=>rfl
   | cons c t=>
    exfalso
    have h3:=List.head_dropWhile_not (p:=(qEk.contains ·)) (l:=s.reverse) (by rw[hd];simp)
    simp only[hd,List.head_cons] at h3
    have:=h1 c (by rw[hd];simp)
    rw[this] at h3;cases h3
  intro c hc
  have:=qbr.1 h2 c (by simpa using hc)
  exact(qBT c).1 (by simpa using this)
 ·intro h
  have h2:s.reverse.dropWhile (qEk.contains ·)=[]:=by
   rw[qbr]
   intro c hc
   exact(qBT c).2 (h c (by simpa using hc))
  rw[h2];rfl
theorem qHP(s:List UInt8)(hl:s.length≤9223372036854775807):(q8S [.s s,.s [48,49,50,51,52,53,54,55,56,57]]).run=some (0,[.s (Lib.trimS s qEk)]):=by
 show (qF2 [.s s,.s qEk]).run=_
 unfold qF2
 simp only
 rw[if_pos ⟨hl,by decide,by decide⟩];rfl
end Go.Eng

namespace Go.Eng
theorem qDp(n:Nat):pB n=((10^(9*n):Nat):Int):=by
 unfold pB
 rw[Nat.pow_mul]
 simp
theorem qCq:∀k:Nat,k≤9→qds [48,48,48,48,48,48,48,48,48] (k:Int) 9=List.replicate (9-k) 48
 | 0,_=>rfl
 | 1,_=>rfl
 | 2,_=>rfl
 | 3,_=>rfl
 | 4,_=>rfl
 | 5,_=>rfl
 | 6,_=>rfl
 | 7,_=>rfl
 | 8,_=>rfl
 | 9,_=>rfl
 | n+10,h=>by omega
theorem qGY{v:Nat}(h:v<1000000000):q6C (qDL (tN v))∧(qDL (tN v)).length=9∧val (qDL (tN v))=v:=by
 have hl:(tN v).length≤9:=q7w 8 v (by omega)
 have e:qDL (tN v)=List.replicate (9-(tN v).length) 48++tN v:=by
  unfold qDL qeY
  rw[show qt (tN v)=((tN v).length:Int) from rfl,qCq _ hl]
 rw[e]
 refine⟨q8X.2 ⟨qoQ _,wg v⟩,by simp;omega,by rw[qst,q0V]⟩
theorem quS{l:List Int}(hl:l.length=232)(hd:dgs l):∀i:Nat,i≤232→q6C (qmU (rI l) i)∧(qmU (rI l) i).length=9*i∧((val (qmU (rI l) i):Nat):Int)=mv (l.take i)
 | 0,_=>⟨qmw,rfl,by simp[qmU,qgF,mv]⟩
 | i+1,h=>by
  obtain⟨h1,h2,h3⟩:=quS hl hd i (by omega)
  have hil:i<l.length:=by omega
  have hg:=hd _ (List.getElem_mem hil)
  have e:cI (rI l) (i:Int) 0=l[i]:=by rw[q6o,jB hil]
  have e2:Lib.itoa l[i]=tN l[i].toNat:=by rw[qzS,qmd (by omega)];congr 1;omega
  obtain⟨p1,p2,p3⟩:=qGY (v:=l[i].toNat) (by omega)
  unfold qmU
  rw[e,e2]
  refine⟨q8X.2 ⟨p1,h1⟩,by rw[List.length_append,p2,h2];omega,?_⟩
  rw[qxg,p3,h2,qpP hil,qDp]
  simp only[Int.natCast_add,Int.natCast_mul,h3]
  rw[Int.toNat_of_nonneg hg.1];omega
theorem qFX{n:Nat}{l:List Int}(h:WOK n l)(hn:nrm n l)(b:Bool):qD7 b (n:Int) (rI l)=tI (sv b l):=by
 unfold qD7
 by_cases h0:n=0
 ·have h1:mv l=0:=by rw[←qoe h hn];exact h0
  rw[if_pos (by omega)]
  unfold sv;rw[h1];cases b<;>rfl
 ·rw[if_neg (by omega)]
  obtain⟨m,rfl⟩:∃m,n=m+1:=⟨n-1,by omega⟩
  have hle:=h.le
  have hml:m<l.length:=by rw[h.len];omega
  have e1:(((m+1:Nat):Int)-1)=(m:Int):=by omega
  rw[e1,Int.toNat_natCast,q6o,jB hml]
  have hg:=h.dig _ (List.getElem_mem hml)
  have e2:Lib.itoa l[m]=tN l[m].toNat:=by rw[qzS,qmd (by omega)];congr 1;omega
  obtain⟨t1,t2,t3⟩:=quS h.len h.dig m (by omega)
  have hnz:l[m]≠0:=by
   rcases hn with hn|hn
   ·omega
   ·rw[Nat.add_sub_cancel,jB hml] at hn;exact hn
  have hlo:=h.lo hn h0
  have hp:=qdv m
  simp only[Nat.add_sub_cancel] at hlo
  have hv:((val (tN l[m].toNat++qmU (rI l) m):Nat):Int)=mv l:=by
   rw[qxg,q0V,t2,qdQ l m (by omega),qex hml,vS h.dig h.z (Nat.le_refl _),qDp]
   simp only[Int.natCast_add,Int.natCast_mul,t3]
   rw[Int.toNat_of_nonneg hg.1]
   grind
  have hT:tN l[m].toNat++qmU (rI l) m=tN (mv l).toNat:=by
   have hd:q6C (tN l[m].toNat++qmU (rI l) m):=q8X.2 ⟨wg _,t1⟩
   have hne:tN l[m].toNat++qmU (rI l) m≠[]:=by simp[qsd]
   have hz:(tN l[m].toNat++qmU (rI l) m).getD 0 0≠48:=by
    have hv0:=q0V l[m].toNat
    have hd0:=wg l[m].toNat
    rcases qEc l[m].toNat with h1|h1
    ·obtain⟨c,e⟩:=List.length_eq_one_iff.1 h1
     rw[e] at hv0 ⊢
     simp only[List.cons_append,List.getD_cons_zero]
     intro hc;subst hc
     rw[qAi] at hv0
     simp[dv] at hv0;omega
    ·obtain⟨c,t,e,_⟩:=qjF hd0 (qsd _)
     rw[e] at h1 ⊢
     simpa using h1
   have:=qtE hd hne (.inr hz)
   rw[this];congr 1;omega
  rw[e2,List.append_assoc,hT]
  unfold sv
  cases b
  ·rw[if_neg (by simp),if_neg (by simp),qmd (by omega)];simp;congr 1;omega
  ·rw[if_pos rfl,if_pos rfl,qdH (by omega)];simp;congr 1;omega
theorem qCU{n:Nat}{l:List Int}(h:WOK n l):qvZ (n:Int) (rI l)=true:=by
 unfold qvZ
 have:=h.le
 simp only[Bool.and_eq_true,decide_eq_true_eq,List.all_eq_true,List.mem_range]
 refine⟨⟨by omega,by omega⟩,fun i _=>?_⟩
 have:=h.get i
 rw[q6o];exact this
theorem qAX{n:Nat}{l:List Int}(h:WOK n l)(hn:nrm n l)(b:Bool):(qL [.b b,.i (n:Int),.r (rI l)]).run=some (0,[.s (tI (sv b l)),.b b,.i (n:Int),.r (rI l)]):=by
 show (qE7 [.b b,.i (n:Int),.r (rI l)]).run=_
 unfold qE7
 simp only
 rw[if_pos (qCU h),qFX h hn];rfl
end Go.Eng

namespace Go.Eng
theorem qFD{nr ny:Nat}{lr ly:List Int}(hr:WOK nr lr)(hnr:nrm nr lr)(hy:WOK ny ly)(hny:nrm ny ly)(h0:ny≠0)(hy231:ny≤231)(hlt:mv lr<mv ly*1000000000)(y0:Int)(xb:Bool)(xi:Int)(xr:R)(b2:Bool)(qb:Bool)(qi:Int)(qr:R)(br:Bool) :
  ∃(d:Int) (n:Nat) (l:List Int),(qf yw [.i y0,.i 0,.b xb,.i xi,.r xr,.b b2,.i (ny:Int),.r (rI ly),.b qb,.i qi,.r qr,.b br,.i (nr:Int),.r (rI lr)]).run =
   some (0,[.i y0,.i d,.b xb,.i xi,.r xr,.b b2,.i (ny:Int),.r (rI ly),.b qb,.i qi,.r qr,.b br,.i (n:Int),.r (rI l)])∧WOK n l∧nrm n l∧0≤d∧d<1000000000∧mv lr=d*mv ly+mv l∧mv l<mv ly:=by
 have hyp:0<mv ly:=by
  have:=hy.lo hny h0
  have:=qdv (ny-1)
  omega
 have hyb:=hy.bd
 obtain⟨j,qs,g1,rfl,d,n,l,rfl,g2⟩:=vZ (S:=yw) (fun k ps=>∃(d:Int) (n:Nat) (l:List Int),ps=[.i y0,.i d,.b xb,.i xi,.r xr,.b b2,.i (ny:Int),.r (rI ly),.b qb,.i qi,.r qr,.b br,.i (n:Int),.r (rI l)] ∧
   WOK n l∧nrm n l∧0≤d∧d+k=1000000000∧mv lr=d*mv ly+mv l)
  (fun j qs=>j=0∧∃(d:Int) (n:Nat) (l:List Int),qs=[.i y0,.i d,.b xb,.i xi,.r xr,.b b2,.i (ny:Int),.r (rI ly),.b qb,.i qi,.r qr,.b br,.i (n:Int),.r (rI l)]∧WOK n l∧nrm n l∧0≤d∧d<1000000000∧mv lr=d*mv ly+mv l∧mv l<mv ly) (n:=1000000000) (by omega)
  (fun k ps hk ⟨d,n,l,hps,hw,hn,hd0,hdk,hv⟩=>by
   subst hps
   have hlb:=hw.bd
   have hdlt:d<1000000000:=by
    rcases Int.lt_or_le d 1000000000 with h|h
    ·exact h
    ·have:=Int.mul_le_mul_of_nonneg_right h (show 0≤mv ly by omega)
     rw[Int.mul_comm (mv ly)] at hlt
     omega
   rw[qlY]
   obtain⟨r,r1,r2⟩:=qBC hw hn hy hny br b2
   by_cases hle:mv ly≤mv l
   ·left
    have hr0:0≤r:=by rw[r2];exact hle
    have hdm:=Int.mul_nonneg hd0 (show 0≤mv ly by omega)
    have hl9:mv l<pB (ny+1):=by rw[qcF];omega
    obtain⟨q,e1,e2,e3,e4⟩:=qCl hw hn hy hny h0 hle hl9 hy231 br b2
    obtain⟨n',l',c1,c2,c3,c4⟩:=qtc (f:=-q) (up:=0) hw hy (by omega) (by omega) (T:=mv l-q*mv ly) (by rw[q6O,Int.mul_one,Int.neg_mul];omega) (by omega)
     (by have:=hlb.2;have:=qe2 hw.le;have:=Int.mul_nonneg (show 0≤q by omega) (show 0≤mv ly by omega);omega) br b2
    have hq2:(d+q)*mv ly+(mv l-q*mv ly)=d*mv ly+mv l:=by rw[Int.add_mul];omega
    have hdq:d+q<1000000000:=by
     rcases Int.lt_or_le (d+q) 1000000000 with h|h
     ·exact h
     ·have:=Int.mul_le_mul_of_nonneg_right h (show 0≤mv ly by omega)
      rw[Int.mul_comm (mv ly)] at hlt
      omega
    have w1:qA .i64 0 q=-q:=qAK (by omega)
    have w2:qk .i64 d q=d+q:=qO (by omega)
    simp only[show ((0:Nat):Int)=0 from rfl] at c1
    refine⟨(1000000000-(d+q)).toNat,[.i y0,.i (d+q),.b xb,.i xi,.r xr,.b b2,.i (ny:Int),.r (rI ly),.b qb,.i qi,.r qr,.b br,.i (n':Int),.r (rI l')],by omega,?_,d+q,n',l',rfl,c2,c3,by omega,by omega,by rw[c4];omega⟩
    simp only[STD,r1,hr0,e1,w1,w2,c1]
   ·right
    have hr0:¬0≤r:=by rw[r2];exact hle
    refine⟨0,_,?_,rfl,d,n,l,rfl,hw,hn,hd0,hdlt,hv,by omega⟩
    simp only[STD,r1,hr0]) (ps:=[.i y0,.i 0,.b xb,.i xi,.r xr,.b b2,.i (ny:Int),.r (rI ly),.b qb,.i qi,.r qr,.b br,.i (nr:Int),.r (rI lr)]) ⟨0,nr,lr,rfl,hr,hnr,by omega,by omega,by omega⟩
 exact⟨d,n,l,g1,g2⟩
theorem qGk{n:Nat}{l:List Int}{d:Int}(h:WOK n l)(hn:n≤231)(hd:0≤d∧d<1000000000) :
  q6D (qnt (rI l) 1 (rI l) 0 (qcp (qzt (n:Int) 0) (qzt 232 1))) 0 0 [.i d]=rI (d::(l.take n++l.drop (1+n)))∧WOK (n+1) (d::(l.take n++l.drop (1+n)))∧mv (d::(l.take n++l.drop (1+n)))=d+1000000000*mv l:=by
 have hlen:=h.len
 have e1:qcp (qzt (n:Int) 0) (qzt 232 1)=(n:Int):=by unfold qcp qzt;split<;>omega
 obtain⟨x,t,rfl⟩:∃x t,l=x::t:=by
  cases l with
  | nil=>simp at hlen
  | cons x t=>exact⟨x,t,rfl⟩
 refine⟨?_,⟨by simp;simp at hlen;omega,by omega,?_,?_⟩,?_⟩
 ·rw[e1]
  unfold qnt
  have:(rI (x::t)).take (1:Int).toNat++((rI (x::t)).drop (0:Int).toNat).take (n:Int).toNat++(rI (x::t)).drop ((1:Int).toNat+(n:Int).toNat)=rI (x::((x::t).take n++(x::t).drop (1+n))):=by
   rw[Int.toNat_natCast]
   simp[rI,List.map_take,List.map_drop]
  rw[this,show (0:Int)=((0:Nat):Int) from rfl,qlq]
  rfl
 ·intro y hy
  rcases List.mem_cons.1 hy with rfl|hy
  ·exact hd
  ·rcases List.mem_append.1 hy with hy|hy
   ·exact h.dig _ (List.mem_of_mem_take hy)
   ·exact h.dig _ (List.mem_of_mem_drop hy)
 ·intro i hi
  obtain⟨j,rfl⟩:∃j,i=j+1:=⟨i-1,by omega⟩
  have hz:=h.z (j+1) (by omega)
  rw[List.getD_eq_getElem?_getD] at hz ⊢
  rw[List.getElem?_cons_succ,List.getElem?_append_right (by simp;omega)]
  rw[List.getElem?_drop,List.length_take,Nat.min_eq_left (by omega)]
  rw[show 1+n+(j-n)=j+1 by omega]
  exact hz
 ·show d+1000000000*mv _=_
  rw[qBl,List.length_take,Nat.min_eq_left (by omega),vS h.dig h.z (show n≤1+n by omega)]
  have:=qdQ (x::t) n (by omega)
  rw[vS h.dig h.z (Nat.le_refl n)] at this
  omega
theorem qir{nx ny:Nat}{lx ly:List Int}(hx:WOK nx lx)(hy:WOK ny ly)(hny:nrm ny ly)(h0:ny≠0)(hy231:ny≤231)(bx b2:Bool) :
  ∃(nq:Nat) (lq:List Int) (nr:Nat) (lr:List Int),(vj [.b bx,.i (nx:Int),.r (rI lx),.b b2,.i (ny:Int),.r (rI ly)]).run =
   some (0,[.b bx,.i (nx:Int),.r (rI lx),.b b2,.i (ny:Int),.r (rI ly),.b false,.i (nq:Int),.r (rI lq),.b false,.i (nr:Int),.r (rI lr)])∧WOK nq lq∧nrm nq lq∧WOK nr lr∧nrm nr lr∧mv lx=mv lq*mv ly+mv lr∧mv lr<mv ly:=by
 rw[qqU]
 have hyp:0<mv ly:=by
  have:=hy.lo hny h0
  have:=qdv (ny-1)
  omega
 have hx232:=hx.le
 have e0:q4U 232 [.i 0]=rI (List.replicate 232 0):=qm8 232 0
 have hxl:=hx.len
 obtain⟨j,qs,g1,rfl,nq,lq,nr,lr,rfl,g2,g3,g4,g5,g6⟩:=vZ (S:=q1t) (fun k ps=>∃(Q:Int) (nq:Nat) (lq:List Int) (nr:Nat) (lr:List Int),
   ps=[.i ((k:Int)-1),.b bx,.i (nx:Int),.r (rI lx),.b b2,.i (ny:Int),.r (rI ly),.b false,.i (nq:Int),.r (rI lq),.b false,.i (nr:Int),.r (rI lr)]∧k≤nx∧WOK nq lq∧WOK nr lr∧nrm nr lr∧mv (lx.drop k)=Q*mv ly+mv lr∧mv lr<mv ly∧mv lq=pB k*Q∧∀i,i<k→lq.getD i 0=0)
  (fun j qs=>j=0∧∃(nq:Nat) (lq:List Int) (nr:Nat) (lr:List Int),qs=[.b bx,.i (nx:Int),.r (rI lx),.b b2,.i (ny:Int),.r (rI ly),.b false,.i (nq:Int),.r (rI lq),.b false,.i (nr:Int),.r (rI lr)]∧WOK nq lq∧WOK nr lr∧nrm nr lr∧mv lx=mv lq*mv ly+mv lr∧mv lr<mv ly) (n:=nx) (by omega)
  (fun k ps hk ⟨Q,nq,lq,nr,lr,hps,hkn,hwq,hwr,hnr,hv,hlt,hq,hz⟩=>by
   subst hps
   rw[qnv]
   rcases Nat.eq_zero_or_pos k with rfl|hk0
   ·right
    have a1:¬(0:Int)≤((0:Nat):Int)-1:=by omega
    refine⟨0,[.b bx,.i (nx:Int),.r (rI lx),.b b2,.i (ny:Int),.r (rI ly),.b false,.i (nq:Int),.r (rI lq),.b false,.i (nr:Int),.r (rI lr)],?_,rfl,nq,lq,nr,lr,rfl,hwq,hwr,hnr,?_,hlt⟩
    ·simp only[STD,a1]
    ·rw[hq,q6O,Int.one_mul,←hv,List.drop_zero]
   ·left
    obtain⟨i,rfl⟩:∃i,k=i+1:=⟨k-1,by omega⟩
    have e:(((i+1:Nat):Int)-1)=(i:Int):=by omega
    rw[e]
    have hnr231:nr≤231:=Nat.le_trans (qJf hwr hnr hy (by omega)) hy231
    have hil:i<lx.length:=by omega
    have gx:=hx.get i
    obtain⟨s1,s2,s3⟩:=qGk hwr hnr231 (d:=lx.getD i 0) gx
    obtain⟨m,t1,t2,t3⟩:=qnZ s2 false
    have hX:mv (lx.drop i)=lx.getD i 0+1000000000*(Q*mv ly+mv lr):=by rw[qex hil,←hv,jB hil]
    have hlt2:mv (lx.getD i 0::(lr.take nr++lr.drop (1+nr)))<mv ly*1000000000:=by rw[s3];omega
    obtain⟨d,n',l',d1,d2,d3,d4,d5,d6,d7⟩:=qFD t2 t3 hy hny h0 hy231 hlt2 (i:Int) bx (nx:Int) (rI lx) b2 false (nq:Int) (rI lq) false
    rw[s3] at d6
    have a1:(0:Int)≤(i:Int):=by omega
    have a2:(i:Int)<232:=by omega
    have a3:(0:Int)≤232∧(232:Int)≤232:=by omega
    have a4:(0:Int)≤1∧(1:Int)≤232:=by omega
    have a5:(0:Int)≤(nr:Int)∧(nr:Int)≤232:=by omega
    have a6:(0:Int)≤0∧(0:Int)≤(nr:Int):=by omega
    have w1:qk .i64 (nr:Int) 1=((nr+1:Nat):Int):=by rw[qO (by omega)];omega
    have w2:qk .i64 (i:Int) 1=((i+1:Nat):Int):=by rw[qO (by omega)];omega
    have w3:qA .i64 (i:Int) 1=(i:Int)-1:=wA (by omega)
    have w4:qi9 (nq:Int) ((i+1:Nat):Int)=((max nq (i+1):Nat):Int):=qwD _ _
    have hiq:i<lq.length:=by rw[hwq.len];omega
    have hzi:lq[i]=0:=by rw[←jB hiq];exact hz i (by omega)
    refine⟨i,[.i ((i:Int)-1),.b bx,.i (nx:Int),.r (rI lx),.b b2,.i (ny:Int),.r (rI ly),.b false,.i ((max nq (i+1):Nat):Int),.r (rI (lq.set i d)),.b false,.i (n':Int),.r (rI l')],by omega,?_,Q*1000000000+d,_,_,_,_,rfl,by omega,hwq.setW (by omega) ⟨d4,d5⟩,d2,d3,?_,d7,?_,?_⟩
    ·simp only[q6o,s1,w1]
     simp only[STD,a1,a2,a3,a4,a5,a6,and_self,t1,d1,w2,w3,w4,qlq]
    ·rw[hX,Int.add_mul,Int.mul_add]
     have:Q*1000000000*mv ly=1000000000*(Q*mv ly):=by grind
     omega
    ·rw[qBj lq i hiq,hzi,hq,qcF];grind
    ·intro a ha
     rw[List.getD_eq_getElem?_getD,List.getElem?_set_ne (by omega),←List.getD_eq_getElem?_getD]
     exact hz a (by omega))
  (ps:=[.i ((nx:Int)-1),.b bx,.i (nx:Int),.r (rI lx),.b b2,.i (ny:Int),.r (rI ly),.b false,.i 0,.r (rI (List.replicate 232 0)),.b false,.i 0,.r (rI (List.replicate 232 0))])
  ⟨0,0,_,0,_,rfl,Nat.le_refl _,WOK.zero,WOK.zero,.inl rfl,by rw[vS hx.dig hx.z (Nat.le_refl _),qgz];omega,by rw[qgz];exact hyp,by rw[qgz,Int.mul_zero],fun i _=>qyt 232 i⟩
 obtain⟨m,t1,t2,t3⟩:=qnZ g2 false
 refine⟨m,lq,nr,lr,?_,t2,t3,g3,g4,g5,g6⟩
 have hs:qA .i64 (nx:Int) 1=(nx:Int)-1:=wA (by omega)
 simp only[e0,hs]
 simp only[STD,g1,t1]
end Go.Eng

namespace Go.Eng
theorem qIn{c:UInt8}{t:List UInt8}:qds (c::t) 0 1=[c]:=by simp[qds]
theorem qE5(s:List UInt8):(qI [.s s,.s [45]]).run=some (0,[.b (decide (s.getD 0 0=45))]):=by
 rw[q76]
 have h1:qt [45]=1:=rfl
 cases s with
 | nil=>
  have a:¬(1:Int)≤qt []:=by decide
  simp only[STD,h1,a];rfl
 | cons c t=>
  have a:(1:Int)≤qt (c::t):=by unfold qt;simp only[List.length_cons];omega
  simp only[STD,h1,a,show (0:Int)≤1 by omega,show (0:Int)≤0 by omega,and_self,qIn]
  have e:seq [c] [45]=decide ((c::t).getD 0 0=45):=by rw[Bool.eq_iff_iff,qY];simp
  rw[e]
theorem qwj(s:List UInt8):(qV [.s s,.s [45]]).run=some (0,[.s (mag s)]):=by
 rw[qjo]
 have h:(zf [.s s,.s [45]]).run=some (0,[.s (mag s)]):=by
  rw[q6B]
  have h1:qt [45]=1:=rfl
  unfold mag
  by_cases h:s.getD 0 0=45
  ·rw[if_pos h]
   have a:(1:Int)≤qt s:=by
    cases s with
    | nil=>simp at h
    | cons c t=>unfold qt;simp only[List.length_cons];omega
   have e:qds s 1 (qt s)=s.drop 1:=by unfold qds qt;simp
   simp only[STD,qE5,h,h1,a,and_self,Int.le_refl,show (0:Int)≤qt s by omega,show (0:Int)≤1 by omega,e]
  ·rw[if_neg h]
   simp only[STD,qE5,h]
 simp only[STD,h]
theorem qgu(s:List UInt8)(hl:s.length≤1000000000):(qQ [.s s]).run=some (0,[.i (qzg s)]):=by
 rw[quN]
 have hT:=qwj s
 have hml:(mag s).length≤s.length:=by unfold mag;split<;>simp
 have hR:=qHP (mag s) (by omega)
 have hcan:=qyj s
 unfold qzg
 have hl3:(1024<qt (mag s))=¬((mag s).length≤1024):=by unfold qt;simp only[eq_iff_iff];omega
 by_cases hne:mag s=[]
 ·rw[if_neg (fun h=>(hcan.1 h).1 hne)]
  simp only[STD,hT,qY,hne]
 ·have hp:0<(mag s).length:=List.length_pos_iff.2 hne
  have a1:(0:Int)<qt (mag s):=by unfold qt;omega
  have hs:sat (mag s) 0=((mag s)[0].toNat:Int):=qm5 (i:=0) hp
  have h48:((mag s)[0].toNat:Int)=48↔(mag s).getD 0 0=48:=by
   have:(mag s).getD 0 0=(mag s)[0]:=by simp[List.getD_eq_getElem?_getD,hp]
   rw[this]
   exact⟨fun h=>UInt8.toNat_inj.1 (by show (mag s)[0].toNat=48;omega),fun h=>by rw[h];rfl⟩
  by_cases hd:q6C (mag s)
  ·have hs1:((mag s).getD 0 0=48→s.length=1)↔(((mag s)[0].toNat:Int)=48→s=[48]):=by
    rw[h48]
    constructor
    ·intro h h2
     obtain⟨c,e⟩:=List.length_eq_one_iff.1 (h h2)
     subst e
     by_cases hc:c=45
     ·subst hc;exact absurd rfl hne
     ·have:mag [c]=[c]:=by unfold mag;rw[if_neg (by simpa using hc)]
      rw[this] at h2
      simp at h2
      rw[h2]
    ·intro h h2
     rw[h h2];rfl
   by_cases hz:((mag s)[0].toNat:Int)=48
   ·by_cases h0:s=[48]
    ·rw[if_pos (hcan.2 ⟨hne,hd,hs1.2 fun _=>h0⟩)]
     by_cases hL:(mag s).length≤1024
     ·simp only[STD,hT,hR,qY,hne,qjM,hd,a1,hs,hz,hl3,hL,Int.le_refl,and_self]
      simp only[STD,h0]
     ·simp only[STD,hT,hR,qY,hne,qjM,hd,a1,hs,hz,hl3,hL,Int.le_refl,and_self]
      simp only[STD,h0]
    ·rw[if_neg (fun h=>h0 (hs1.1 (hcan.1 h).2.2 hz))]
     simp only[STD,hT,hR,qY,hne,qjM,hd,a1,hs,hz,h0,Int.le_refl,and_self]
   ·rw[if_pos (hcan.2 ⟨hne,hd,fun h=>absurd (h48.2 h) hz⟩)]
    by_cases hL:(mag s).length≤1024
    ·simp only[STD,hT,hR,qY,hne,qjM,hd,a1,hs,hz,hl3,hL,Int.le_refl,and_self]
    ·simp only[STD,hT,hR,qY,hne,qjM,hd,a1,hs,hz,hl3,hL,Int.le_refl,and_self]
  ·rw[if_neg (fun h=>hd (hcan.1 h).2.1)]
   simp only[STD,hT,hR,qY,hne,qjM,hd]
def okL(m:Int):Prop:=nl m≤1024
theorem qzH{m:Int}(h:okL m):qzg (tI m)=0:=by
 unfold qzg
 rw[if_pos ⟨m,rfl⟩,qy7,if_pos (show (tN m.natAbs).length≤1024 from h)]
theorem qzB{m:Int}(h:okL m):(tI m).length≤1025:=by
 have:=qyV m
 unfold okL nl at h
 omega
theorem qgH{m:Int}(h:okL m):(qQ [.s (tI m)]).run=some (0,[.i 0]):=by
 have:=qzB h
 rw[qgu _ (by omega),qzH h]
def rS(l:List (List UInt8)):R:=l.map fun s=>[.s s]
theorem qv3(l:List (List UInt8)):qh (rS l)=l.length:=by simp[rS,qh]
theorem qDS{l:List (List UInt8)}{i:Nat}(h:i<l.length):cS (rS l) (i:Int) 0=l[i]:=by simp[cS,vk,rS,List.getD_eq_getElem?_getD,h,U.toS]
theorem qId{l:List (List UInt8)}(hn:l.length<1000000)(h:∀s,s∈l→(qQ [.s s]).run=some (0,[.i 0])):(zX [.r (rS l)]).run=some (0,[.i 0]):=by
 rw[qyK,qv3]
 have key:=jv (S:=q6N) (fun i=>[.r (rS l),.i (l.length:Int),.i (i:Int)]) (0,[]) l.length (by omega) (fun i hi=>by
  rw[qkX,qDS hi]
  have a1:(i:Int)<(l.length:Int):=by omega
  have a2:(i:Int)<qh (rS l):=by rw[qv3];exact a1
  simp only[STD,a1,a2,kq,and_self,h _ (List.getElem_mem hi),kd hi (show l.length<9223372036854775808 by omega)]) (by
  rw[qkX]
  have a1:¬(l.length:Int)<(l.length:Int):=by omega
  simp only[STD,a1])
 simp only[show (((0:Nat)):Int)=0 from rfl] at key
 simp only[STD,key,qu key]
theorem qhV{m n:Int}(hm:okL m)(hn:okL n):(zX [.r [[.s (tI m)],[.s (tI n)]]]).run=some (0,[.i 0]):=by
 have:=qId (l:=[tI m,tI n]) (by simp) (fun s hs=>by
  simp only[List.mem_cons,List.not_mem_nil,or_false] at hs
  rcases hs with rfl|rfl
  ·exact qgH hm
  ·exact qgH hn)
 exact this
theorem q8b(n:Int)(h:-9223372036854775808≤n∧n≤9223372036854775807):(zt [.i n]).run=some (0,[.s (tI n)]):=by
 rw[qzK]
 simp only[STD,qHQ n h]
theorem q8N(m:Int):(tI m=[48])=(m=0):=propext ⟨fun h=>qyB (n:=0) h,fun h=>by rw[h];rfl⟩
theorem q3U(m:Int):(uz [.s (tI m)]).run=some (0,[.i (sgn m)]):=by
 rw[qx5]
 have a1:(0:Int)<qt (tI m):=by have:=qs3 m;unfold qt;omega
 have hs:(sat (tI m) 0=45)=(m<0):=qBw m
 unfold sgn
 by_cases h0:m=0
 ·simp only[STD,qY,q8N,h0];rfl
 ·by_cases h1:m<0
  ·simp only[STD,qY,q8N,h0,a1,hs,h1,Int.le_refl,and_self]
  ·simp only[STD,qY,q8N,h0,a1,hs,h1,Int.le_refl,and_self]
theorem qyL{m:Int}(h:okL m):(q9D [.s (tI m)]).run=some (0,[.i (sgn m),.i 0]):=by
 rw[qw6]
 simp only[STD,qgH h,q3U]
theorem qHx(m n:Nat):(q7V [.s (tN m),.s (tN n)]).run=some (0,[.i (sgn ((m:Int)-(n:Int)))]):=by
 rw[quu]
 have hl:(qt (tN m)=qt (tN n))=((tN m).length=(tN n).length):=by unfold qt;simp only[eq_iff_iff];omega
 have hl2:(qt (tN m)<qt (tN n))=((tN m).length<(tN n).length):=by unfold qt;simp only[eq_iff_iff];omega
 by_cases he:(tN m).length=(tN n).length
 ·have h:=qD0 (wg m) (wg n) he
  rw[q0V,q0V] at h
  simp only[STD,hl,he,h]
 ·by_cases hlt:(tN m).length<(tN n).length
  ·have h:=(qzF m n).1 (.inl hlt)
   simp only[STD,hl,hl2,he,hlt]
   unfold sgn
   rw[if_pos (by omega)]
  ·have h:=(qzF n m).1 (.inl (by omega))
   simp only[STD,hl,hl2,he,hlt]
   unfold sgn
   rw[if_neg (by omega),if_neg (by omega)]
theorem qfN(m:Int):(m<0∧sgn m=-1)∨(m=0∧sgn m=0)∨(0<m∧sgn m=1):=by
 unfold sgn
 rcases Int.lt_trichotomy m 0 with h|h|h
 ·rw[if_pos h];omega
 ·subst h;simp
 ·rw[if_neg (by omega),if_neg (by omega)];omega
theorem qth(m:Int):-1≤sgn m∧sgn m≤1:=by rcases qfN m with⟨_,e⟩|⟨_,e⟩|⟨_,e⟩<;>omega
theorem qHk(m n:Int):(if sgn m<sgn n then -1 else if sgn n<sgn m then 1 else sgn m*sgn ((m.natAbs:Int)-(n.natAbs:Int)))=sgn (m-n):=by
 rcases qfN m with⟨a,ea⟩|⟨a,ea⟩|⟨a,ea⟩<;>rcases qfN n with⟨b,eb⟩|⟨b,eb⟩|⟨b,eb⟩<;>rw[ea,eb]<;>simp only[Int.reduceLT,Int.reduceNeg,if_true,if_false] <;>
  rcases qfN (m-n) with⟨c,ec⟩|⟨c,ec⟩|⟨c,ec⟩<;>rcases qfN ((m.natAbs:Int)-(n.natAbs:Int)) with⟨d,ed⟩|⟨d,ed⟩|⟨d,ed⟩<;>omega
theorem qrI{m n:Int}(hm:okL m)(hn:okL n):(q3r [.s (tI m),.s (tI n)]).run=some (0,[.i (sgn (m-n)),.i 0]):=by
 rw[qqP]
 have h1:=qwj (tI m)
 have h2:=qwj (tI n)
 rw[qy7] at h1 h2
 have h3:=qHx m.natAbs n.natAbs
 have hw:∀a b:Int,-1≤a∧a≤1→-1≤b∧b≤1→ux .i64 a b=a*b:=fun a b ha hb=>q2L (by have:=qGv (A:=1) (B:=1) ha.1 ha.2 hb.1 hb.2;omega)
 have ba:=qth m
 have bb:=qth n
 have bc:=qth ((m.natAbs:Int)-(n.natAbs:Int))
 have e:=qHk m n
 by_cases c1:sgn m<sgn n
 ·rw[if_pos c1] at e
  simp only[STD,qhV hm hn,q3U,h1,h2,h3,c1,←e]
 ·rw[if_neg c1] at e
  by_cases c2:sgn n<sgn m
  ·rw[if_pos c2] at e
   simp only[STD,qhV hm hn,q3U,h1,h2,h3,c1,c2,←e]
  ·rw[if_neg c2] at e
   simp only[STD,qhV hm hn,q3U,h1,h2,h3,c1,c2,hw _ _ ba bc,←e]
theorem qq1(m:Int)(hm:nl m≤2000):∃(n:Nat) (l:List Int),(zz [.s (tI m)]).run=some (0,[.b (decide (m<0)),.i (n:Int),.r (rI l)])∧WOK n l∧nrm n l∧mv l=m.natAbs∧9*n≤nl m+8:=by
 rw[qx3]
 have h1:=qwj (tI m)
 rw[qy7] at h1
 have a1:(0:Int)<qt (tI m):=by have:=qs3 m;unfold qt;omega
 have hb:ieq (sat (tI m) 0) 45=decide (m<0):=by
  rw[Bool.eq_iff_iff,qAm,qBw];simp
 have e0:q4U 232 [.i 0]=rI (List.replicate 232 0):=qm8 232 0
 have hL:(tN m.natAbs).length≤2000:=hm
 obtain⟨j,qs,g1,rfl,n,l,rfl,g2,g3,g4⟩:=vZ (S:=q5l) (fun k ps=>∃(n:Nat) (l:List Int),ps=[.s ((tN m.natAbs).take k),.b (decide (m<0)),.i (n:Int),.r (rI l)]∧k≤(tN m.natAbs).length∧WOK n l ∧
   (k=0∧9*n≤(tN m.natAbs).length+8∨k+9*n=(tN m.natAbs).length)∧((val (tN m.natAbs):Nat):Int)=((val ((tN m.natAbs).take k):Nat):Int)*pB n+mv l)
  (fun j qs=>j=0∧∃(n:Nat) (l:List Int),qs=[.b (decide (m<0)),.i (n:Int),.r (rI l)]∧WOK n l∧mv l=m.natAbs∧9*n≤(tN m.natAbs).length+8) (n:=(tN m.natAbs).length) (by omega)
  (fun k ps hk ⟨n,l,hps,hkl,hw,hkn,hv⟩=>by
   subst hps
   rw[qtu]
   have hlk:qt ((tN m.natAbs).take k)=(k:Int):=by unfold qt;rw[List.length_take,Nat.min_eq_left hkl]
   rcases Nat.eq_zero_or_pos k with rfl|hk0
   ·right
    refine⟨0,[.b (decide (m<0)),.i (n:Int),.r (rI l)],?_,rfl,n,l,rfl,hw,?_,by omega⟩
    ·have a:¬(0:Int)<qt ((tN m.natAbs).take 0):=by rw[hlk];omega
     simp only[STD,a]
    ·rw[q0V,List.take_zero,qgF] at hv
     simp at hv;omega
   ·left
    have hn231:n≤231:=by omega
    obtain⟨q,hq,hq9⟩:∃q:Nat,qi9 0 (qA .i64 (k:Int) 9)=(q:Int)∧q=k-9:=by
     refine⟨k-9,?_,rfl⟩
     rw[wA (by omega)];unfold qi9;split<;>omega
    have hqk:q≤k:=by omega
    have hsub:qds ((tN m.natAbs).take k) (q:Int) (k:Int)=((tN m.natAbs).take k).drop q:=by unfold qds;simp[List.take_take]
    have hsub2:qds ((tN m.natAbs).take k) 0 (q:Int)=(tN m.natAbs).take q:=by unfold qds;simp[List.take_take,Nat.min_eq_left hqk]
    have hdg:q6C (((tN m.natAbs).take k).drop q):=qF1 (qyz (wg _) k) q
    have hdl:(((tN m.natAbs).take k).drop q).length=k-q:=by rw[List.length_drop,List.length_take,Nat.min_eq_left hkl]
    have hdn:((tN m.natAbs).take k).drop q≠[]:=by intro h;rw[h] at hdl;simp at hdl;omega
    have hA:=qEM (s:=((tN m.natAbs).take k).drop q) (by omega) (qyP hdg hdn)
    have hvl:=q84 hdg
    rw[hdl] at hvl
    have hv9:val (((tN m.natAbs).take k).drop q)<1000000000:=Nat.lt_of_lt_of_le hvl (by
     have:(10:Nat)^(k-q)≤10^9:=Nat.pow_le_pow_right (by omega) (by omega)
     simpa using this)
    have b1:(0:Int)<(k:Int):=by omega
    have b2:(0:Int)≤(q:Int)∧(q:Int)≤(k:Int):=by omega
    have b3:(0:Int)≤(k:Int)∧(k:Int)≤(k:Int):=by omega
    have b4:(0:Int)≤(n:Int)∧(n:Int)<232:=by omega
    have b5:(0:Int)≤0∧(0:Int)≤(q:Int):=by omega
    have w1:qk .i64 (n:Int) 1=((n+1:Nat):Int):=by rw[qO (by omega)];omega
    have hnl:n<l.length:=by rw[hw.len];omega
    have hz:l[n]=0:=by rw[←jB hnl];exact hw.z n (Nat.le_refl _)
    have hW:=hw.setW (j:=n) (y:=((val (((tN m.natAbs).take k).drop q):Nat):Int)) (by omega) (by omega)
    rw[Nat.max_eq_right (by omega)] at hW
    refine⟨q,[.s ((tN m.natAbs).take q),.b (decide (m<0)),.i ((n+1:Nat):Int),.r (rI (l.set n ((val (((tN m.natAbs).take k).drop q):Nat):Int)))],by omega,?_,n+1,_,rfl,by omega,hW,by omega,?_⟩
    ·simp only[STD,hlk,b1,hq,b2,b3,b4,b5,and_self,hsub,hsub2,hA,w1,qlq]
    ·rw[qBj l n hnl,hz,hv]
     have hsp:val ((tN m.natAbs).take k)=val ((tN m.natAbs).take q)*10^(k-q)+val (((tN m.natAbs).take k).drop q):=by
      have h1:(tN m.natAbs).take k=((tN m.natAbs).take k).take q++((tN m.natAbs).take k).drop q:=(List.take_append_drop q _).symm
      have h2:((tN m.natAbs).take k).take q=(tN m.natAbs).take q:=by rw[List.take_take,Nat.min_eq_left hqk]
      rw[h2] at h1
      generalize ((tN m.natAbs).take k).drop q=D at *
      rw[h1,qxg,hdl]
     rw[hsp,qcF]
     rcases Nat.lt_or_ge k 9 with h9|h9
     ·have:q=0:=by omega
      subst this
      rw[List.take_zero,qgF]
      simp;omega
     ·have:k-q=9:=by omega
      rw[this]
      simp only[Int.natCast_add,Int.natCast_mul]
      have e9:(((10:Nat)^9:Nat):Int)=1000000000:=by simp
      rw[e9]
      grind) (ps:=[.s ((tN m.natAbs).take (tN m.natAbs).length),.b (decide (m<0)),.i 0,.r (rI (List.replicate 232 0))])
  ⟨0,_,rfl,Nat.le_refl _,WOK.zero,.inr (by omega),by rw[q6O,List.take_length,qgz];simp⟩
 rw[List.take_length] at g1
 obtain⟨n2,t1,t2,t3⟩:=qnZ g2 (decide (m<0))
 refine⟨n2,l,?_,t2,t3,g3,?_⟩
 ·simp only[STD,e0,hb,h1,a1,Int.le_refl,and_self,g1,t1]
 ·have:=qJf t2 t3 g2 (Int.le_refl _)
  unfold nl;omega
end Go.Eng

namespace Go.Eng
theorem qH1{m:Int}{k n:Nat}(h:nl m≤k)(hk:k≤9*n):(m.natAbs:Int)<pB n:=by
 rw[qDp]
 have h1:=qIB h
 have h2:(10:Nat)^k≤10^(9*n):=Nat.pow_le_pow_right (by omega) hk
 omega
theorem quZ{m:Int}(h:okL m):(m.natAbs:Int)<pB 114:=qH1 (k:=1024) h (by omega)
theorem qvG{m:Int}(h:okL m):okL (-m):=by unfold okL;rw[qtG];exact h
theorem qEI{n:Nat}:pB n+pB n≤pB (n+1):=by rw[qcF];have:=qdv n;omega
theorem qIi{b:Bool}{l:List Int}(h:0≤mv l):((sv b l).natAbs:Int)=mv l:=by unfold sv;cases b<;>simp<;>omega
theorem qyv{n:Nat}{l:List Int}(h:WOK n l)(hn:nrm n l)(b:Bool)(hk:okL (sv b l)):(zV [.b b,.i (n:Int),.r (rI l)]).run=some (0,[.s (tI (sv b l)),.i 0,.b b,.i (n:Int),.r (rI l)]):=by
 rw[qjt]
 simp only[STD,qAX h hn,qgH hk]
theorem qAA(m n:Int):(uj [.s (tI m),.s (tI n)]).run=some (0,if (tI m).length≤9∧(tI n).length≤9 then [.i m,.i n,.b true] else [.i 0,.i 0,.b false]):=by
 rw[qu5]
 have h1:(9<qt (tI m))=¬(tI m).length≤9:=by unfold qt;simp only[eq_iff_iff];omega
 have h2:(9<qt (tI n))=¬(tI n).length≤9:=by unfold qt;simp only[eq_iff_iff];omega
 by_cases a:(tI m).length≤9
 ·by_cases b:(tI n).length≤9
  ·simp only[STD,h1,h2,a,b,and_self,qEM (s:=tI m) (by omega) (qDy m),qEM (s:=tI n) (by omega) (qDy n)]
  ·simp only[STD,h1,h2,a,b,and_false]
 ·simp only[STD,h1,a,false_and]
theorem qjX{m:Int}(h:(tI m).length≤9):m.natAbs<1000000000:=by
 have:(tN m.natAbs).length≤9:=by
  unfold tI at h
  split at h
  ·simp at h;omega
  ·exact h
 exact Nat.lt_of_lt_of_le (q6K this) (by simp)
theorem qBk(n:Int)(h:-9223372036854775808≤n∧n≤9223372036854775807):(q0p [.i n]).run=some (0,[.s (tI n),.i 0]):=by
 rw[qsq]
 simp only[STD,q8b n h]
theorem qDa{m:Int}{l:List Int}(h:mv l=m.natAbs):sv (decide (m<0)) l=m:=by
 unfold sv
 by_cases hm:m<0
 ·rw[decide_eq_true hm,if_pos rfl];omega
 ·rw[decide_eq_false hm,if_neg (by simp)];omega
theorem qIA{m n:Int}(hm:okL m)(hn:okL n)(hs:okL (m+n)):(qc3 [.r [[.s (tI m)],[.s (tI n)]]]).run=some (0,[.s (tI (m+n)),.i 0]):=by
 rw[qxy]
 have e0:q4U 232 [.i 0]=rI (List.replicate 232 0):=qm8 232 0
 have lm:=quZ hm
 have ln:=quZ hn
 obtain⟨q1,l1,r1,w1,n1,v1,_⟩:=qq1 m (by unfold okL at hm;omega)
 obtain⟨q2,l2,r2,w2,n2,v2,_⟩:=qq1 n (by unfold okL at hn;omega)
 have hb2:=qe2 (show 115≤232 by omega)
 have hb1:pB 114+pB 114≤pB 115:=qEI
 have hb0:=qdv 114
 obtain⟨b1,k1,m1,a1,a2,a3,a4⟩:=qGB (lx:=List.replicate 232 0) (nx:=0) WOK.zero (.inl rfl) w1 n1 (by rw[qgz,v1];omega) false (decide (m<0))
 rw[qDa v1] at a4
 have a5:sv b1 m1=m:=by
  have:sv false (List.replicate 232 0)=0:=by unfold sv;rw[if_neg (by simp),qgz]
  rw[a4,this];omega
 obtain⟨b2,k2,m2,c1,c2,c3,c4⟩:=qGB a2 a3 w2 n2 (by rw[←qIi (b:=b1) a2.bd.1,a5,v2];omega) b1 (decide (n<0))
 rw[qDa v2,a5] at c4
 have key:=jv (S:=q7a) (fun i=>match i with
  | 0=>[.r [[.s (tI m)],[.s (tI n)]],.i 2,.i 0,.b false,.i 0,.r (rI (List.replicate 232 0))]
  | 1=>[.r [[.s (tI m)],[.s (tI n)]],.i 2,.i 1,.b b1,.i (k1:Int),.r (rI m1)]
  | _=>[.r [[.s (tI m)],[.s (tI n)]],.i 2,.i 2,.b b2,.i (k2:Int),.r (rI m2)]) (0,[.b b2,.i (k2:Int),.r (rI m2)]) 2 (by omega) (fun i hi=>by
   have:i=0∨i=1:=by omega
   have d0:cS [[.s (tI m)],[.s (tI n)]] 0 0=tI m:=rfl
   have d1:cS [[.s (tI m)],[.s (tI n)]] 1 0=tI n:=rfl
   have d2:qh [[U.s (tI m)],[U.s (tI n)]]=2:=rfl
   rcases this with rfl|rfl
   ·simp only
    rw[qel,d0,d2]
    simp only[show ((0:Nat):Int)=0 from rfl] at a1
    have w:qk .i64 0 1=1:=by decide
    simp only[STD,r1,a1,w,show (0:Int)<2 by omega,show (0:Int)≤0 by omega,and_self]
   ·simp only
    rw[qel,d1,d2]
    have w:qk .i64 1 1=2:=by decide
    simp only[STD,r2,c1,w,show (1:Int)<2 by omega,show (0:Int)≤1 by omega,and_self]) (by
   simp only
   rw[qel]
   simp only[STD,show ¬(2:Int)<2 by omega])
 simp only at key
 have hL:=qyv c2 c3 b2 (by rw[c4];exact hs)
 rw[c4] at hL
 have d2:qh [[U.s (tI m)],[U.s (tI n)]]=2:=rfl
 simp only[e0,d2]
 simp only[STD,key,hL]
theorem qHN{m n:Int}(hm:okL m)(hn:okL n)(hs:okL (m+n)):(q3j [.s (tI m),.s (tI n)]).run=some (0,[.s (tI (m+n)),.i 0]):=by
 rw[qyT]
 have h:=qAA m n
 by_cases hc:(tI m).length≤9∧(tI n).length≤9
 ·rw[if_pos hc] at h
  have b1:=qjX hc.1
  have b2:=qjX hc.2
  have w:qk .i64 m n=m+n:=qO (by omega)
  simp only[STD,qhV hm hn,h,w,qBk (m+n) (by omega)]
 ·rw[if_neg hc] at h
  simp only[STD,qhV hm hn,h,qIA hm hn hs]
theorem qCJ{m:Int}(hm:okL m):(q20 [.s (tI m)]).run=some (0,[.s (tI (-m))]):=by
 rw[qpo]
 have hl:=qzB hm
 have hp:=qs3 m
 rcases qfN m with⟨h,e⟩|⟨h,e⟩|⟨h,e⟩
 ·have a1:(0:Int)≤qt (tI m)∧qt (tI m)≤qt (tI m):=by unfold qt;omega
  have a2:(0:Int)≤1∧1≤qt (tI m):=by unfold qt;omega
  have a3:qds (tI m) 1 (qt (tI m))=tI (-m):=by
   unfold qds qt
   rw[qdH h,qmd (m:=-m) (by omega),Int.natAbs_neg];simp
  simp only[STD,q3U,e,a1,a2,a3,and_self,show ¬((-1:Int)=0) by omega,show ¬((-1:Int)=1) by omega]
 ·simp only[STD,q3U,e]
  rw[h];rfl
 ·have a1:qt [45]+qt (tI m)≤140737488355328:=by unfold qt;simp;omega
  have a3:qeY [45] (tI m)=tI (-m):=by
   unfold qeY
   rw[qdH (m:=-m) (by omega),qmd (m:=m) (by omega),Int.natAbs_neg];rfl
  simp only[STD,q3U,e,a1,a3,show ¬((1:Int)=0) by omega]
theorem qJ0{m n:Int}(hm:okL m)(hn:okL n)(hs:okL (m-n)):(q8m [.s (tI m),.s (tI n)]).run=some (0,[.s (tI (m-n)),.i 0]):=by
 rw[qyx]
 have h:=qHN hm (qvG hn) (by rwa [←Int.sub_eq_add_neg])
 rw[←Int.sub_eq_add_neg] at h
 simp only[STD,qhV hm hn,qCJ hn,h]
theorem qJ2{m n:Int}(hm:okL m)(hn:okL n)(hs:okL (m*n)):(q6e [.s (tI m),.s (tI n)]).run=some (0,[.s (tI (m*n)),.i 0]):=by
 rw[qys]
 have h:=qAA m n
 by_cases hc:(tI m).length≤9∧(tI n).length≤9
 ·rw[if_pos hc] at h
  have b1:=qjX hc.1
  have b2:=qjX hc.2
  have b3:=qGv (A:=999999999) (B:=999999999) (a:=m) (b:=n) (by omega) (by omega) (by omega) (by omega)
  have w:ux .i64 m n=m*n:=q2L (by omega)
  simp only[STD,qhV hm hn,h,w,qBk (m*n) (by omega)]
 ·rw[if_neg hc] at h
  unfold okL at hm hn
  obtain⟨q1,l1,r1,w1,n1,v1,z1⟩:=qq1 m (by omega)
  obtain⟨q2,l2,r2,w2,n2,v2,z2⟩:=qq1 n (by omega)
  obtain⟨k,l,t1,t2,t3,t4⟩:=qHp w1 w2 (by omega) (decide (m<0)) (decide (n<0))
  have hv:sv (!(Go.Eng.beq (decide (m<0)) (decide (n<0)))) l=m*n:=by
   unfold sv
   rw[t4,v1,v2]
   have e:((m.natAbs:Int)*(n.natAbs:Int))=(((m*n).natAbs:Nat):Int):=by rw[Int.natAbs_mul];simp
   rw[e]
   unfold Go.Eng.beq
   rcases Int.lt_trichotomy m 0 with a|a|a
   ·rcases Int.lt_trichotomy n 0 with b|b|b
    ·have:=Int.mul_pos_of_neg_of_neg a b
     simp[a,b];omega
    ·subst b;simp
    ·have:=Int.mul_neg_of_neg_of_pos a b
     have b':¬n<0:=by omega
     simp[a,b'];omega
   ·subst a;simp
   ·have a':¬m<0:=by omega
    rcases Int.lt_trichotomy n 0 with b|b|b
    ·have:=Int.mul_neg_of_pos_of_neg a b
     simp[a',b];omega
    ·subst b;simp
    ·have:=Int.mul_pos a b
     have b':¬n<0:=by omega
     simp[a',b'];omega
  have hL:=qyv t2 t3 (!(Go.Eng.beq (decide (m<0)) (decide (n<0)))) (by rw[hv];exact hs)
  rw[hv] at hL
  simp only[STD,qhV hm hn,h,r1,r2,t1,hL]
theorem qDh{n:Nat}{l:List Int}(h:WOK n l)(hn:nrm n l){k:Nat}(hl:mv l<pB k):n≤k:=by
 rcases Nat.lt_or_ge k n with h1|h1
 ·have:=h.lo hn (by omega)
  have:=qe2 (show k≤n-1 by omega)
  omega
 ·exact h1
theorem qG2{k n:Int}(h0:n≠0)(hm:okL (k*n))(hn:okL n):(q5u [.s (tI (k*n)),.s (tI n)]).run=some (0,[.s (tI k),.s (tI 0),.i 0]):=by
 rw[qt3]
 have h:=qAA (k*n) n
 have hz:¬tI n=[48]:=by rw[q8N];exact h0
 by_cases hc:(tI (k*n)).length≤9∧(tI n).length≤9
 ·rw[if_pos hc] at h
  have b1:=qjX hc.1
  have b2:=qjX hc.2
  have hk:k.natAbs≤(k*n).natAbs:=by
   rw[Int.natAbs_mul]
   have:k.natAbs*1≤k.natAbs*n.natAbs:=Nat.mul_le_mul_left _ (by omega)
   omega
  have w1:q83 (k*n) n=0:=by unfold q83;exact Int.mul_tmod_left k n
  have w2:yi .i64 (k*n) n=k:=by
   rw[Int.mul_comm];exact qjK h0 (by omega)
  simp only[STD,qhV hm hn,qY,hz,h,h0,w1,w2,q8b k (by omega),q8b 0 (by omega)]
 ·rw[if_neg hc] at h
  have lm:=quZ hm
  have ln:=quZ hn
  obtain⟨q1,l1,r1,w1,n1,v1,z1⟩:=qq1 (k*n) (by unfold okL at hm;omega)
  obtain⟨q2,l2,r2,w2,n2,v2,z2⟩:=qq1 n (by unfold okL at hn;omega)
  have hq2:q2≤114:=qDh w2 n2 (by omega)
  have hq0:q2≠0:=fun h=>by rw[qoe w2 n2] at h;omega
  obtain⟨nq,lq,nr,lr,d1,d2,d3,d4,d5,d6,d7⟩:=qir w1 w2 n2 hq0 (by omega) (decide (k*n<0)) (decide (n<0))
  have e1:((k*n).natAbs:Int)=(k.natAbs:Int)*(n.natAbs:Int):=by rw[Int.natAbs_mul];simp
  rw[v1,v2,e1] at d6
  rw[v2] at d7
  have b4:=d4.bd.1
  have hr0:mv lr=0∧mv lq=k.natAbs:=by
   have hn0:(0:Int)<(n.natAbs:Int):=by omega
   have e2:((k.natAbs:Int)-mv lq)*(n.natAbs:Int)=mv lr:=by rw[Int.sub_mul];omega
   rcases Int.lt_trichotomy ((k.natAbs:Int)-mv lq) 0 with a|a|a
   ·have:=Int.mul_neg_of_neg_of_pos a hn0;omega
   ·rw[a,Int.zero_mul] at e2;omega
   ·have:=Int.mul_le_mul_of_nonneg_right (show 1≤(k.natAbs:Int)-mv lq by omega) (show 0≤(n.natAbs:Int) by omega)
    omega
  have hnr:nr=0:=by rw[qoe d4 d5];exact hr0.1
  have hv:sv (!(Go.Eng.beq (decide (k*n<0)) (decide (n<0)))) lq=k:=by
   unfold sv
   rw[hr0.2]
   unfold Go.Eng.beq
   rcases Int.lt_trichotomy k 0 with a|a|a
   ·rcases Int.lt_trichotomy n 0 with b|b|b
    ·have:=Int.mul_pos_of_neg_of_neg a b
     have c:¬k*n<0:=by omega
     simp[b,c];omega
    ·exact absurd b h0
    ·have c:=Int.mul_neg_of_neg_of_pos a b
     have b':¬n<0:=by omega
     simp[b',c];omega
   ·subst a;simp
   ·rcases Int.lt_trichotomy n 0 with b|b|b
    ·have c:=Int.mul_neg_of_pos_of_neg a b
     simp[b,c];omega
    ·exact absurd b h0
    ·have:=Int.mul_pos a b
     have c:¬k*n<0:=by omega
     have b':¬n<0:=by omega
     simp[b',c];omega
  have hT:=qAX d2 d3 (!(Go.Eng.beq (decide (k*n<0)) (decide (n<0))))
  rw[hv] at hT
  have hT2:=qAX d4 d5 (decide (k*n<0))
  have hv0:sv (decide (k*n<0)) lr=0:=by unfold sv;rw[hr0.1];split<;>rfl
  rw[hv0] at hT2
  have hnr':¬(0:Int)<(nr:Int):=by omega
  simp only[STD,qhV hm hn,qY,hz,h,r1,r2,d1,hnr',hT,hT2]
theorem qGK{m n:Int}(h:m.natAbs≤n.natAbs)(hn:okL n):okL m:=Nat.le_trans (kT h) hn
theorem qJj{k n:Int}(h0:n≠0)(hm:okL (k*n))(hn:okL n):(q8u [.s (tI (k*n)),.s (tI n)]).run=some (0,[.s (tI k),.i 0]):=by
 rw[qxo]
 have hk:okL k:=qGK (by
  rw[Int.natAbs_mul]
  have:k.natAbs*1≤k.natAbs*n.natAbs:=Nat.mul_le_mul_left _ (by omega)
  omega) hm
 simp only[STD,qG2 h0 hm hn,qgH hk]
theorem qEa(a b:Nat)(hb:b<9223372036854775808):(qf q2B [.i (a:Int),.i (b:Int)]).run=some (0,[.i ((Nat.gcd a b:Nat):Int)]):=by
 obtain⟨j,qs,h1,rfl,rfl⟩:=vZ (S:=q2B) (fun k ps=>∃x y:Nat,ps=[.i (x:Int),.i (y:Int)]∧y=k∧Nat.gcd x y=Nat.gcd a b)
  (fun j qs=>j=0∧qs=[.i ((Nat.gcd a b:Nat):Int)]) (n:=b) hb (fun k ps hk ⟨x,y,hps,hy,hg⟩=>by
  subst hps
  rw[qsQ]
  by_cases h0:y=0
  ·right
   refine⟨0,[.i (x:Int)],?_,rfl,?_⟩
   ·simp only[STD,h0];simp[]
   ·rw[←hg,h0,Nat.gcd_zero_right]
  ·left
   refine⟨x%y,[.i (y:Int),.i ((x%y:Nat):Int)],by rw[←hy];exact Nat.mod_lt _ (by omega),?_,y,x%y,rfl,rfl,?_⟩
   ·simp only[STD,show ¬((y:Int)=0) by omega,qr2]
   ·rw[←hg,Nat.gcd_comm y,←Nat.gcd_rec,Nat.gcd_comm]) (ps:=[.i (a:Int),.i (b:Int)]) ⟨a,b,rfl,rfl,rfl⟩
 exact h1
theorem qGt{n:Nat}{l:List Int}(h:WOK n l)(hn:n≤1):mv l=l.getD 0 0:=by
 have:=qdQ l 1 (by rw[h.len];omega)
 rw[vS h.dig h.z hn,Int.mul_zero,Int.add_zero] at this
 have hl:=h.len
 obtain⟨x,t,rfl⟩:∃x t,l=x::t:=by
  cases l with
  | nil=>simp at hl
  | cons x t=>exact⟨x,t,rfl⟩
 rw[this];simp[mv]
theorem qHX{m n:Int}(hm:okL m)(hn:okL n):(q3N [.s (tI m),.s (tI n)]).run=some (0,[.s (tN (Nat.gcd m.natAbs n.natAbs)),.i 0]):=by
 rw[qz1]
 have lm:=quZ hm
 have ln:=quZ hn
 obtain⟨q1,l1,r1,w1,n1,v1,_⟩:=qq1 m (by unfold okL at hm;omega)
 obtain⟨q2,l2,r2,w2,n2,v2,_⟩:=qq1 n (by unfold okL at hn;omega)
 have hm':(tN m.natAbs).length≤1024:=hm
 have hn':(tN n.natAbs).length≤1024:=hn
 obtain⟨j,qs,g1,g2⟩:=vZ (S:=q6T) (fun k ps=>∃(x y:Nat) (b1 b2:Bool) (nx ny:Nat) (lx ly:List Int),ps=[.b b1,.i (nx:Int),.r (rI lx),.b b2,.i (ny:Int),.r (rI ly)] ∧
   WOK nx lx∧nrm nx lx∧WOK ny ly∧nrm ny ly∧mv lx=x∧mv ly=y∧eM x y=k∧Nat.gcd x y=Nat.gcd m.natAbs n.natAbs∧(x:Int)<pB 114∧(y:Int)<pB 114)
  (fun j qs=>(j=0∧∃(b:Bool) (n':Nat) (l:List Int),qs=[.b b,.i (n':Int),.r (rI l)]∧WOK n' l∧nrm n' l∧mv l=((Nat.gcd m.natAbs n.natAbs:Nat):Int))∨(j=1∧qs=[.s (tN (Nat.gcd m.natAbs n.natAbs)),.i 0])) (n:=eM m.natAbs n.natAbs) (qBF (by omega) (by omega))
  (fun k ps hk ⟨x,y,b1,b2,nx,ny,lx,ly,hps,hw,hnw,hw2,hn2,hx,hy,he,hg,lx1,ly1⟩=>by
  subst hps
  rw[qtZ]
  have hxl:=hw.len
  have hyl:=hw2.len
  by_cases h0:ny=0
  ·right
   have hy0:mv ly=0:=by rw[←qoe hw2 hn2];exact h0
   have hy0':y=0:=by omega
   refine⟨0,[.b b1,.i (nx:Int),.r (rI lx)],?_,.inl ⟨rfl,b1,nx,lx,rfl,hw,hnw,?_⟩⟩
   ·simp only[STD,h0,show ¬(0:Int)<((0:Nat):Int) by omega]
   ·rw[hx,←hg,hy0',Nat.gcd_zero_right]
  ·have a0:(0:Int)<(ny:Int):=by omega
   have hy0:y≠0:=fun h=>h0 (by rw[qoe hw2 hn2];omega)
   by_cases hc:nx≤1∧ny≤1
   ·right
    have e1:=qGt hw hc.1
    have e2:=qGt hw2 hc.2
    have d1:cI (rI lx) 0 0=(x:Int):=by rw[show (0:Int)=((0:Nat):Int) from rfl,q6o,←e1,hx]
    have d2:cI (rI ly) 0 0=(y:Int):=by rw[show (0:Int)=((0:Nat):Int) from rfl,q6o,←e2,hy]
    have hy9:=hw2.get 0
    rw[←e2,hy] at hy9
    have hE:=qEa x y (by omega)
    have hgl:Nat.gcd x y≤y:=Nat.gcd_le_right _ (by omega)
    have hO:=q8b ((Nat.gcd x y:Nat):Int) (by omega)
    rw[q1d] at hO
    have c1:(nx:Int)≤1:=by omega
    have c2:(ny:Int)≤1:=by omega
    refine⟨1,[.s (tN (Nat.gcd x y)),.i 0],?_,.inr ⟨rfl,by rw[hg]⟩⟩
    simp only[STD,a0,c1,c2,d1,d2,hE,hO]
   ·left
    have hny:ny≤114:=qDh hw2 hn2 (by omega)
    obtain⟨nq,lq,nr,lr,d1,d2,d3,d4,d5,d6,d7⟩:=qir hw hw2 hn2 h0 (by omega) b1 b2
    have hr:mv lr=((x%y:Nat):Int):=by
     have b4:=d4.bd.1
     rw[hx,hy] at d6
     rw[hy] at d7
     have hy1:(0:Int)<(y:Int):=by omega
     have:=(Int.ediv_emod_unique hy1 (a:=(x:Int)) (r:=mv lr) (q:=mv lq)).2 ⟨by rw[Int.mul_comm];omega,b4,d7⟩
     rw[←this.2];simp
    refine⟨eM y (x%y),[.b b2,.i (ny:Int),.r (rI ly),.b false,.i (nr:Int),.r (rI lr)],by rw[←he];exact qEe hy0,?_,y,x%y,b2,false,ny,nr,ly,lr,rfl,hw2,hn2,d4,d5,hy,hr,rfl,?_,ly1,?_⟩
    ·by_cases c1:nx≤1
     ·have c2:¬(ny:Int)≤1:=by omega
      have c1':(nx:Int)≤1:=by omega
      simp only[STD,a0,c1',c2,d1]
     ·have c1':¬(nx:Int)≤1:=by omega
      simp only[STD,a0,c1',d1]
    ·rw[←hg,Nat.gcd_comm y,←Nat.gcd_rec,Nat.gcd_comm]
    ·have:=Nat.mod_lt x (show 0<y by omega)
     omega) (ps:=[.b (decide (m<0)),.i (q1:Int),.r (rI l1),.b (decide (n<0)),.i (q2:Int),.r (rI l2)])
  ⟨m.natAbs,n.natAbs,_,_,q1,q2,l1,l2,rfl,w1,n1,w2,n2,v1,v2,rfl,rfl,lm,ln⟩
 rcases g2 with⟨rfl,b,n',l,rfl,a1,a2,a3⟩|⟨rfl,rfl⟩
 ·have hT:=qAX a1 a2 false
  have hv:sv false l=((Nat.gcd m.natAbs n.natAbs:Nat):Int):=by unfold sv;rw[a3];rfl
  rw[hv,q1d] at hT
  simp only[STD,qhV hm hn,r1,r2,g1,qu g1,hT]
 ·simp only[STD,qhV hm hn,r1,r2,g1,qu g1,show ¬(1=0) by omega]
end Go.Eng

namespace Go.Eng
theorem qcO:okL 1:=by show nl 1≤1024;decide
theorem qaX:okL 0:=by show nl 0≤1024;decide
theorem qI3(s:List UInt8)(hl:s.length≤1000000000):(q6R [.s s,.s [47]]).run=some (0,if sP s<s.length then [.s (s.take (sP s)),.s (s.drop (sP s+1)),.b true] else [.s s,.s [],.b false]):=by
 rw[quf]
 have h:(wL [.s s,.s [47]]).run=some (0,if sP s<s.length then [.s (s.take (sP s)),.s (s.drop (sP s+1)),.b true] else [.s s,.s [],.b false]):=by
  rw[qd3]
  have hI:=qHr s
  by_cases hc:sP s<s.length
  ·rw[if_pos hc] at hI ⊢
   have w:qk .i64 (sP s:Int) (qt [47])=((sP s+1:Nat):Int):=by
    show qk .i64 (sP s:Int) 1=_
    rw[qO (by omega)];omega
   have a1:(0:Int)≤(sP s:Int)∧(sP s:Int)≤qt s:=by unfold qt;omega
   have a2:(0:Int)≤0∧(0:Int)≤(sP s:Int):=by omega
   have a3:(0:Int)≤qt s∧qt s≤qt s:=by unfold qt;omega
   have a4:(0:Int)≤((sP s+1:Nat):Int)∧((sP s+1:Nat):Int)≤qt s:=by unfold qt;omega
   have e1:qds s 0 (sP s:Int)=s.take (sP s):=by unfold qds;simp
   have e2:qds s ((sP s+1:Nat):Int) (qt s)=s.drop (sP s+1):=by unfold qds qt;simp only[Int.toNat_natCast];rw[List.take_length]
   simp only[STD,hI,a1.1,a1.2,a2,a3,a4,and_self,w,e1,e2]
  ·rw[if_neg hc] at hI ⊢
   have a:¬(0:Int)≤-1:=by omega
   simp only[STD,hI,a]
 by_cases hc:sP s<s.length
 ·rw[if_pos hc] at h ⊢
  simp only[STD,h]
 ·rw[if_neg hc] at h ⊢
  simp only[STD,h]
theorem qIa(s:List UInt8)(hl:s.length≤1000000000):(qT [.s s]).run=some (0,[.s (spn s),.s (spd s),.b (decide (sP s<s.length))]):=by
 rw[qxS]
 have h:=qI3 s hl
 unfold spn spd
 by_cases hc:sP s<s.length
 ·rw[if_pos hc] at h ⊢
  rw[decide_eq_true hc]
  simp only[STD,h]
 ·rw[if_neg hc] at h ⊢
  have:sP s=s.length:=by have:=qEL s;omega
  rw[decide_eq_false hc,this,List.take_length]
  simp only[STD,h]
theorem qI1(q:Rat):(sP (tQ q)<(tQ q).length)=(q.den≠1):=by
 by_cases h:q.den=1
 ·rw[qcK h,qwT (qu0 _)];simp[h]
 ·rw[q78 h,qDx (qu0 _)];simp[h]
def okQ(q:Rat):Prop:=qn q≤1024∧qd q≤1024
theorem q67{q:Rat}(h:okQ q):okL q.num:=h.1
theorem q1h{q:Rat}(h:okQ q):okL (q.den:Int):=h.2
theorem q8k{q:Rat}(h:okQ q):(tQ q).length≤3000:=by have:=qGN q;have:=h.1;have:=h.2;omega
theorem qc6{q:Rat}(h:okQ q):(qT [.s (tQ q)]).run=some (0,[.s (tI q.num),.s (tI (q.den:Int)),.b (decide (q.den≠1))]):=by
 have:=q8k h
 rw[qIa _ (by omega),qBn,qBA,q1d]
 simp only[qI1]
open Classical in
noncomputable def vI(s:List UInt8):Int:=if h:∃m:Int,s=tI m then h.choose else 0
theorem qAg(m:Int):vI (tI m)=m:=by
 unfold vI
 have h:∃k:Int,tI m=tI k:=⟨m,rfl⟩
 rw[dif_pos h]
 exact(qyB h.choose_spec).symm
theorem qoF{s:List UInt8}(h:qzg s=0):∃m:Int,s=tI m∧okL m:=by
 unfold qzg at h
 split at h
 ·rename_i hm
  obtain⟨m,rfl⟩:=hm
  rw[qy7] at h
  split at h
  ·rename_i hl;exact⟨m,rfl,hl⟩
  ·omega
 ·omega
theorem qmQ(s:List UInt8):qzg s=0∨qzg s=3∨qzg s=11:=by
 unfold qzg
 split
 ·split<;>simp
 ·simp
noncomputable def qfO(s:List UInt8):Int:=
 if qzg (spn s)=3 then 3 else if qzg (spd s)=3 then 3 else if qzg (spn s)≠0 then 11 else if qzg (spd s)≠0 then 11
 else if sP s<s.length then (if sgn (vI (spd s)-1)≤0 then 3 else if Nat.gcd (vI (spn s)).natAbs (vI (spd s)).natAbs=1 then 0 else 3) else 0
theorem qGx(s:List UInt8):(spn s).length≤s.length:=by unfold spn;rw[List.length_take];omega
theorem qGz(s:List UInt8):(spd s).length≤s.length+1:=by unfold spd;split<;>simp<;>omega
theorem q4f(s:List UInt8)(hl:s.length≤100000000):(qD [.s s]).run=some (0,[.i (qfO s)]):=by
 rw[quA]
 have hn:=qGx s
 have hd:=qGz s
 have h1:=qgu (spn s) (by omega)
 have h2:=qgu (spd s) (by omega)
 have hc:=qIa s (by omega)
 have mx:qi9 11 0=11∧qi9 11 11=11∧qi9 0 11=11:=by decide
 unfold qfO
 rcases qmQ (spn s) with a|a|a<;>rcases qmQ (spd s) with b|b|b<;>rw[a] at h1 ⊢<;>rw[b] at h2 ⊢
 ·obtain⟨m,em,om⟩:=qoF a
  obtain⟨n,en,on⟩:=qoF b
  rw[em] at h1 hc ⊢
  rw[en] at h2 hc ⊢
  have hC:=qrI on (n:=1) qcO
  rw[qEE] at hC
  have hG:=qHX om on
  rw[qAg,qAg]
  by_cases hs:sP s<s.length
  ·by_cases ho:sgn (n-1)≤0
   ·simp only[STD,hc,h1,h2,hs,hC,hG,ho,show ¬((0:Int)=3) by omega,show ¬((0:Int)≠0) by omega]
   ·by_cases hg:Nat.gcd m.natAbs n.natAbs=1
    ·simp only[STD,hc,h1,h2,hs,hC,hG,ho,hg,qY,q6u,show ¬((0:Int)=3) by omega,show ¬((0:Int)≠0) by omega]
    ·simp only[STD,hc,h1,h2,hs,hC,hG,ho,hg,qY,q6u,show ¬((0:Int)=3) by omega,show ¬((0:Int)≠0) by omega]
  ·simp only[STD,hc,h1,h2,hs,show ¬((0:Int)=3) by omega,show ¬((0:Int)≠0) by omega]
 all_goals simp only[STD,hc,h1,h2,mx,show ¬((0:Int)=3) by omega,show ¬((11:Int)=3) by omega,show ¬((11:Int)=0) by omega,show ¬((3:Int)=0) by omega]
theorem q1P(s:List UInt8)(hl:s.length≤100000000):(vA [.s s]).run=some (0,[.i (qfO s)]):=by
 rw[qu2]
 have hn:=qGx s
 have hd:=qGz s
 have h1:=qoo (spn s) (by omega)
 have h2:=qoo (spd s) (by omega)
 have hc:=qzJ s (by omega)
 have hsl:=qFb s (by omega)
 unfold qfO
 rcases qmQ (spn s) with a|a|a<;>rcases qmQ (spd s) with b|b|b<;>rw[a] at h1 ⊢<;>rw[b] at h2 ⊢
 ·obtain⟨m,em,om⟩:=qoF a
  obtain⟨n,en,on⟩:=qoF b
  rw[em] at h1 hc ⊢
  rw[en] at h2 hc ⊢
  unfold okL at om on
  have hC:=qgW n 1 (by omega) (by decide)
  rw[qEE] at hC
  have hG:=qkq m n (by omega) (by omega)
  rw[qAg,qAg]
  by_cases hs:sP s<s.length
  ·rw[if_pos hs] at hsl
   have a0:(0:Int)≤(sP s:Int):=by omega
   by_cases ho:sgn (n-1)≤0
   ·simp only[STD,hc,h1,h2,hsl,hs,a0,hC,hG,ho,show ¬((0:Int)=3) by omega]
   ·by_cases hg:Nat.gcd m.natAbs n.natAbs=1
    ·simp only[STD,hc,h1,h2,hsl,hs,a0,hC,hG,ho,hg,qY,q6u,show ¬((0:Int)=3) by omega]
    ·simp only[STD,hc,h1,h2,hsl,hs,a0,hC,hG,ho,hg,qY,q6u,show ¬((0:Int)=3) by omega]
  ·rw[if_neg hs] at hsl
   simp only[STD,hc,h1,h2,hsl,hs,show ¬((0:Int)=3) by omega,show ¬((0:Int)≤-1) by omega]
 all_goals simp only[STD,hc,h1,h2,show ¬((0:Int)=3) by omega,show ¬((11:Int)=3) by omega,show ¬((11:Int)=0) by omega,show ¬((3:Int)=0) by omega]
theorem qoC{q:Rat}(h:okQ q):qfO (tQ q)=0:=by
 unfold qfO
 have e1:spd (tQ q)=tI (q.den:Int):=by rw[qBA,q1d]
 rw[qBn,e1,qzH (q67 h),qzH (q1h h)]
 simp only[qAg,qI1]
 by_cases hd:q.den=1
 ·simp[hd]
 ·have:=q.den_nz
  have hs:¬sgn ((q.den:Int)-1)≤0:=by
   unfold sgn;rw[if_neg (by omega),if_neg (by omega)];omega
  have hr:Nat.gcd q.num.natAbs q.den=1:=q.reduced
  simp[hd,hs,hr]
theorem qwK{s:List UInt8}(h:qfO s=0):∃q:Rat,s=tQ q∧okQ q:=by
 unfold qfO at h
 split at h
 ·omega
 split at h
 ·omega
 split at h
 ·omega
 split at h
 ·omega
 rename_i h1 h2 h3 h4
 obtain⟨m,em,om⟩:=qoF (Decidable.byContradiction fun h=>h3 h)
 obtain⟨n,en,on⟩:=qoF (Decidable.byContradiction fun h=>h4 h)
 rw[em,en,qAg,qAg] at h
 split at h
 ·rename_i hs
  split at h
  ·omega
  rename_i hsg
  split at h
  ·rename_i hg
   have hn1:1<n:=by
    unfold sgn at hsg
    by_cases c1:n-1<0
    ·rw[if_pos c1] at hsg;omega
    ·rw[if_neg c1] at hsg
     by_cases c2:n-1=0
     ·rw[if_pos c2] at hsg;omega
     ·omega
   obtain⟨k,rfl⟩:∃k:Nat,n=(k:Int):=⟨n.toNat,by omega⟩
   refine⟨⟨m,k,by omega,hg⟩,?_,om,on⟩
   rw[q78 (show k≠1 by omega)]
   have hslash:s=spn s++47::spd s:=by
    unfold spn spd
    rw[if_pos hs]
    have h47:s[sP s]=47:=by
     have:=List.findIdx_getElem (p:=(·==47)) (w:=hs)
     exact eq_of_beq this
    rw[←h47,List.getElem_cons_drop,List.take_append_drop]
   rw[hslash,em,en,q1d]
  ·omega
 ·rename_i hs
  have e:sP s=s.length:=by have:=qEL s;omega
  have hsn:spn s=s:=by unfold spn;rw[e,List.take_length]
  refine⟨(m:Rat),?_,?_,?_⟩
  ·rw[qA0,←em,hsn]
  ·have:nl m≤1024:=om
   unfold qn;simpa using this
  ·unfold qd;simp;decide
theorem qI2(m:Int):nl m≤(tI m).length:=by unfold nl tI;split<;>simp
theorem qso(q:Rat):qn q≤(tQ q).length∧(q.den=1∨qn q+1+qd q≤(tQ q).length):=by
 have h1:=qI2 q.num
 by_cases h:q.den=1
 ·rw[qcK h];exact⟨h1,.inl h⟩
 ·rw[q78 h]
  unfold qn qd dl
  simp
  omega
theorem qxO{l:List (List UInt8)}(hn:l.length<1000000)(h:∀s,s∈l→(qD [.s s]).run=some (0,[.i 0])):(qW [.r (rS l)]).run=some (0,[.i 0]):=by
 rw[qsY,qv3]
 have key:=jv (S:=q2p) (fun i=>[.r (rS l),.i (l.length:Int),.i (i:Int)]) (0,[]) l.length (by omega) (fun i hi=>by
  rw[qfC,qDS hi]
  have a1:(i:Int)<(l.length:Int):=by omega
  have a2:(i:Int)<qh (rS l):=by rw[qv3];exact a1
  simp only[STD,a1,a2,kq,and_self,h _ (List.getElem_mem hi),kd hi (show l.length<9223372036854775808 by omega)]) (by
  rw[qfC]
  have a1:¬(l.length:Int)<(l.length:Int):=by omega
  simp only[STD,a1])
 simp only[show (((0:Nat)):Int)=0 from rfl] at key
 simp only[STD,key,qu key]
theorem q5D{q:Rat}(h:okQ q):(qD [.s (tQ q)]).run=some (0,[.i 0]):=by
 have:=q8k h
 rw[q4f _ (by omega),qoC h]
theorem qiL{a b:Rat}(ha:okQ a)(hb:okQ b):(qW [.r [[.s (tQ a)],[.s (tQ b)]]]).run=some (0,[.i 0]):=by
 exact qxO (l:=[tQ a,tQ b]) (by simp) (fun s hs=>by
  simp only[List.mem_cons,List.not_mem_nil,or_false] at hs
  rcases hs with rfl|rfl
  ·exact q5D ha
  ·exact q5D hb)
theorem qHy{m n:Int}(hm:okL m)(hn:okL n)(h:okL (m+n)):(yL [.s (tI m),.s (tI n),.i 0]).run=some (0,[.s (tI (m+n)),.i 0]):=by
 rw[qow]
 have:(vh [.s (tI m),.s (tI n),.i 0]).run=some (0,[.s (tI (m+n)),.i 0]):=by
  rw[qde]
  simp only[STD,qHN hm hn h]
 simp only[STD,this]
theorem qA6{m n:Int}(hm:okL m)(hn:okL n)(h:okL (m-n)):(zq [.s (tI m),.s (tI n),.i 0]).run=some (0,[.s (tI (m-n)),.i 0]):=by
 rw[qoR]
 have:(wX [.s (tI m),.s (tI n),.i 0]).run=some (0,[.s (tI (m-n)),.i 0]):=by
  rw[qdd]
  simp only[STD,qJ0 hm hn h]
 simp only[STD,this]
theorem qHb{m n:Int}(hm:okL m)(hn:okL n)(h:okL (m*n)):(zO [.s (tI m),.s (tI n),.i 0]).run=some (0,[.s (tI (m*n)),.i 0]):=by
 rw[qd8]
 simp only[STD,qJ2 hm hn h]
theorem qHa{m n:Int}(hm:okL m)(hn:okL n):(wZ [.s (tI m),.s (tI n),.i 0]).run=some (0,[.s (tN (Nat.gcd m.natAbs n.natAbs)),.i 0]):=by
 rw[qda]
 simp only[STD,qHX hm hn]
theorem qxe{k n:Int}(h0:n≠0)(hm:okL (k*n))(hn:okL n):(qX [.s (tI (k*n)),.s (tI n),.i 0]).run=some (0,[.s (tI k),.i 0]):=by
 rw[qd9]
 simp only[STD,qJj h0 hm hn]
def prd:Int→List Int→Int
 | a,[]=>a
 | a,m::l=>prd (a*m) l
def qHe:Int→List Int→Prop
 | a,[]=>okL a
 | a,m::l=>okL a∧okL m∧qHe (a*m) l
theorem qDr:∀(l:List Int) (pre:List Int) (a:Int),qHe a l→pre.length+l.length<1000→∀f,l.length<f →
  (qmS yn f [.s (tI a),.r (rS ((pre++l).map tI)),.i ((pre++l).length:Int),.i (pre.length:Int),.i 0]).run=some (0,[.s (tI (prd a l)),.i 0])
 | [],pre,a,h,hl,f,hf=>by
  obtain⟨f,rfl⟩:∃g,f=g+1:=⟨f-1,by simp at hf;omega⟩
  refine q9N ?_
  rw[qck,List.append_nil]
  have a1:¬(pre.length:Int)<(pre.length:Int):=by omega
  simp only[STD,a1];rfl
 | m::l,pre,a,h,hl,f,hf=>by
  obtain⟨f,rfl⟩:∃g,f=g+1:=⟨f-1,by simp at hf;omega⟩
  obtain⟨h1,h2,h3⟩:=h
  have hlt:pre.length<(pre++m::l).length:=by simp
  have ih:=qDr l (pre++[m]) (a*m) h3 (by simp at hl ⊢;omega) f (by simp at hf;omega)
  rw[List.append_assoc,List.singleton_append] at ih
  have hok:okL (a*m):=by
   cases l with
   | nil=>exact h3
   | cons x l=>exact h3.1
  rw[qjJ (qs:=[.s (tI (a*m)),.r (rS ((pre++m::l).map tI)),.i ((pre++m::l).length:Int),.i ((pre++[m]).length:Int),.i 0])]
  ·exact ih
  ·rw[qck]
   have hlt2:pre.length<((pre++m::l).map tI).length:=by simp
   rw[qDS hlt2]
   have e:((pre++m::l).map tI)[pre.length]=tI m:=by simp
   rw[e]
   have a1:(pre.length:Int)<((pre++m::l).length:Int):=by omega
   have a2:(pre.length:Int)<qh (rS ((pre++m::l).map tI)):=by rw[qv3];omega
   have w:qk .i64 (pre.length:Int) 1=((pre++[m]).length:Int):=by
    rw[qO (by omega)];simp
   simp only[STD,a1,a2,kq,and_self,qHb h1 h2 hok,w]
theorem qxG(l:List Int)(h:qHe 1 l)(hl:l.length<1000):(qg [.r (rS (l.map tI)),.i 0]).run=some (0,[.s (tI (prd 1 l)),.i 0]):=by
 rw[qoS,qv3]
 have h1:=qDr l [] 1 h (by simp;omega) qit (by unfold qit;omega)
 simp only[List.nil_append,List.length_nil] at h1
 have e:(qf yn [.s [49],.r (rS (l.map tI)),.i ((l.map tI).length:Int),.i 0,.i 0]).run=some (0,[.s (tI (prd 1 l)),.i 0]):=by
  rw[List.length_map]
  exact h1
 simp only[STD,e]
theorem qfD{m n:Int}(hm:okL m)(hn:okL n)(h:okL (m*n)):(qg [.r [[.s (tI m)],[.s (tI n)]],.i 0]).run=some (0,[.s (tI (m*n)),.i 0]):=by
 have:=qxG [m,n] ⟨qcO,hm,by rw[Int.one_mul];exact hm,hn,by rw[Int.one_mul];exact h⟩ (by simp)
 simp only[prd,Int.one_mul] at this
 exact this
theorem qz0{q:Rat}(h:okQ q):(q2t [.s (tI q.num),.s (tI (q.den:Int))]).run=some (0,[.s (tQ q)]):=by
 rw[qsx,q1d]
 have l1:=qzB (q67 h)
 have l2:(tN q.den).length≤1024:=h.2
 have a1:qt (tI q.num)+qt [47]≤140737488355328:=by unfold qt;simp;omega
 have a2:qt (qeY (tI q.num) [47])+qt (tN q.den)≤140737488355328:=by unfold qt qeY;simp;omega
 by_cases h1:q.den=1
 ·simp only[STD,qY,q6u,h1,qcK h1]
 ·simp only[STD,qY,q6u,h1,q78 h1,a1,a2]
  simp[qeY]
theorem qFq(s:List UInt8):(uQ [.s s,.s [45]]).run=some (0,[.b (decide (s.getD 0 0=45))]):=by
 rw[qkj]
 simp only[STD,qE5]
theorem qFa(n:Int):((tI n).getD 0 0=45)=(n<0):=by
 by_cases h:n<0
 ·rw[qdH h];simp[h]
 ·rw[qmd h]
  obtain⟨c,t,e,h1,h2⟩:=qjF (wg n.natAbs) (qsd _)
  rw[e]
  simp only[List.getD_cons_zero,h,eq_iff_iff,iff_false]
  intro hc;subst hc;revert h1;decide
theorem qnc{m n:Int}(hn0:n≠0)(hm:okL m)(hn:okL n):(qG [.s (tI m),.s (tI n),.i 0]).run=some (0,[.s (tQ (Rat.divInt m n)),.i 0])∧okQ (Rat.divInt m n):=by
 have hG:=qHa hm hn
 have hg0:0<Nat.gcd m.natAbs n.natAbs:=Nat.gcd_pos_of_pos_right _ (by omega)
 have hgn:Nat.gcd m.natAbs n.natAbs≤n.natAbs:=Nat.gcd_le_right _ (by omega)
 have hnum:=Rat.num_divInt m n
 have hden:=Rat.den_divInt m n
 rw[if_neg hn0] at hden
 have hgc:Int.gcd n m=Nat.gcd m.natAbs n.natAbs:=by unfold Int.gcd;exact Nat.gcd_comm _ _
 rw[hgc] at hnum hden
 obtain⟨k,hk⟩:((Nat.gcd m.natAbs n.natAbs:Nat):Int) ∣ m:=Int.ofNat_dvd_left.2 (Nat.gcd_dvd_left _ _)
 obtain⟨l,hl⟩:((Nat.gcd m.natAbs n.natAbs:Nat):Int) ∣ n:=Int.ofNat_dvd_left.2 (Nat.gcd_dvd_right _ _)
 generalize Nat.gcd m.natAbs n.natAbs=g at *
 generalize Rat.divInt m n=q at *
 have hgok:okL (g:Int):=qGK (by simpa using hgn) hn
 have hm2:k*(g:Int)=m:=by rw[Int.mul_comm];exact hk.symm
 have hn2:l*(g:Int)=n:=by rw[Int.mul_comm];exact hl.symm
 have hgz:(g:Int)≠0:=by omega
 have hok:okQ q:=by
  constructor
  ·refine Nat.le_trans (qeo ?_) hm
   rw[hnum]
   refine Nat.le_trans (Int.natAbs_ediv_le_natAbs _ _) ?_
   rw[Int.natAbs_mul,Int.natAbs_sign_of_ne_zero hn0];omega
  ·refine Nat.le_trans (kT ?_) hn
   rw[hden];exact Nat.div_le_self _ _
 refine⟨?_,hok⟩
 rw[qkb]
 have hP:=qFq (tI n)
 simp only[qFa] at hP
 by_cases hneg:n<0
 ·have e1:-k=q.num:=by
   rw[hnum,Int.sign_eq_neg_one_of_neg hneg,←hm2]
   rw[show (-1:Int)*(k*(g:Int))=(-k)*(g:Int) by rw[Int.neg_mul,Int.one_mul,Int.neg_mul]]
   exact(Int.mul_ediv_cancel _ hgz).symm
  have e2:-l=(q.den:Int):=by
   rw[hden]
   have h3:(n.natAbs:Int)=(-l)*(g:Int):=by rw[Int.neg_mul];omega
   rw[Int.natCast_ediv,h3,Int.mul_ediv_cancel _ hgz]
  have hS:=qA6 (m:=0) (n:=(g:Int)) qaX hgok (by rw[Int.zero_sub];exact qvG hgok)
  rw[Int.zero_sub,q1d] at hS
  have Q1:=qxe (k:=-k) (n:=-(g:Int)) (by omega) (by rw[Int.neg_mul_neg,hm2];exact hm) (qvG hgok)
  have Q2:=qxe (k:=-l) (n:=-(g:Int)) (by omega) (by rw[Int.neg_mul_neg,hn2];exact hn) (qvG hgok)
  rw[Int.neg_mul_neg,hm2,e1] at Q1
  rw[Int.neg_mul_neg,hn2,e2] at Q2
  have hS':(zq [.s [48],.s (tN g),.i 0]).run=some (0,[.s (tI (-(g:Int))),.i 0]):=hS
  simp only[STD,hG,hP,hneg,hS',Q1,Q2,qz0 hok]
 ·have e1:k=q.num:=by
   rw[hnum,Int.sign_eq_one_of_pos (by omega),Int.one_mul,←hm2]
   exact(Int.mul_ediv_cancel _ hgz).symm
  have e2:l=(q.den:Int):=by
   rw[hden]
   have h3:(n.natAbs:Int)=l*(g:Int):=by omega
   rw[Int.natCast_ediv,h3,Int.mul_ediv_cancel _ hgz]
  have Q1:=qxe (k:=k) (n:=(g:Int)) hgz (by rw[hm2];exact hm) hgok
  have Q2:=qxe (k:=l) (n:=(g:Int)) hgz (by rw[hn2];exact hn) hgok
  rw[hm2,e1,q1d] at Q1
  rw[hn2,e2,q1d] at Q2
  simp only[STD,hG,hP,hneg,Q1,Q2,qz0 hok]
end Go.Eng

namespace Go.Eng
theorem qCj(a b:Rat):Rat.divInt (a.num*b.den+b.num*a.den) ((a.den:Int)*(b.den:Int))=a+b:=by
 rw[Rat.add_def',←Rat.divInt_ofNat];simp
theorem qCA(a b:Rat):Rat.divInt (a.num*b.den-b.num*a.den) ((a.den:Int)*(b.den:Int))=a-b:=by
 rw[Rat.sub_def',←Rat.divInt_ofNat];simp
theorem qCz(a b:Rat):Rat.divInt (a.num*b.num) ((a.den:Int)*(b.den:Int))=a*b:=by
 rw[Rat.mul_def',←Rat.divInt_ofNat];simp
theorem qCx(a b:Rat):Rat.divInt (a.num*b.den) ((a.den:Int)*b.num)=a/b:=by
 rw[Rat.div_def,Rat.inv_def,←Rat.divInt_mul_divInt,Rat.num_divInt_den]
theorem qoB(a b:Rat):(a.den:Int)*(b.den:Int)≠0:=by have:=Int.mul_pos (qzc a) (qzc b);omega
theorem qIU{m:Int}(h:m≠0):¬tI m=[48]:=by rw[q8N];exact h
def bnd(N D:Nat)(q:Rat):Prop:=qn q≤N∧qd q≤D
theorem bnd.ok{N D:Nat}{q:Rat}(h:bnd N D q)(hN:N≤1024)(hD:D≤1024):okQ q:=⟨Nat.le_trans h.1 hN,Nat.le_trans h.2 hD⟩
theorem bnd.sm{N D K:Nat}{q:Rat}(h:bnd N D q)(hN:N≤K)(hD:D≤K):sm K q:=⟨Nat.le_trans h.1 hN,Nat.le_trans h.2 hD⟩
theorem bnd.mono{N D N' D':Nat}{q:Rat}(h:bnd N D q)(hN:N≤N')(hD:D≤D'):bnd N' D' q:=⟨Nat.le_trans h.1 hN,Nat.le_trans h.2 hD⟩
theorem bnd.mul{N D N' D':Nat}{a b:Rat}(ha:bnd N D a)(hb:bnd N' D' b):bnd (N+N') (D+D') (a*b):=
 ⟨Nat.le_trans (qEd a b) (Nat.add_le_add ha.1 hb.1),Nat.le_trans (qEm a b) (Nat.add_le_add ha.2 hb.2)⟩
theorem bnd.add{N D N' D' K:Nat}{a b:Rat}(ha:bnd N D a)(hb:bnd N' D' b)(h1:N+D'+1≤K)(h2:N'+D+1≤K):bnd K (D+D') (a+b):=
 ⟨by have:=qI9 a b;have:=ha.1;have:=ha.2;have:=hb.1;have:=hb.2;omega,by have:=qIf a b;have:=ha.2;have:=hb.2;omega⟩
theorem bnd.sub{N D N' D' K:Nat}{a b:Rat}(ha:bnd N D a)(hb:bnd N' D' b)(h1:N+D'+1≤K)(h2:N'+D+1≤K):bnd K (D+D') (a-b):=
 ⟨by have:=qIc a b;have:=ha.1;have:=ha.2;have:=hb.1;have:=hb.2;omega,by have:=qHU a b;have:=ha.2;have:=hb.2;omega⟩
theorem bnd.div{N D N' D':Nat}{a b:Rat}(h0:b≠0)(ha:bnd N D a)(hb:bnd N' D' b):bnd (N+D') (D+N') (a/b):=
 ⟨by have:=qIu a h0;have:=ha.1;have:=hb.2;omega,by have:=qI4 a h0;have:=ha.2;have:=hb.1;omega⟩
theorem bnd.neg{N D:Nat}{a:Rat}(h:bnd N D a):bnd N D (-a):=⟨by rw[qII];exact h.1,h.2⟩
theorem q94:bnd 1 1 0:=⟨by decide,by decide⟩
theorem qly:bnd 1 1 2:=⟨by decide,by decide⟩
theorem qeW{m n:Int}{N M:Nat}(hm:nl m≤N)(hn:nl n≤M)(h:N+M≤1024):okL (m*n):=by
 have:=yU m n
 unfold okL;omega
theorem qAH{N D N' D':Nat}{a b:Rat}(ha:bnd N D a)(hb:bnd N' D' b)(h1:N+N'≤1024)(h2:D+D'≤1024):(q8t [.s (tQ a),.s (tQ b)]).run=some (0,[.s (tQ (a*b)),.i 0]):=by
 have oa:=ha.ok (by omega) (by omega)
 have ob:=hb.ok (by omega) (by omega)
 have k1:okL (a.num*b.num):=qeW ha.1 hb.1 h1
 have k2:okL ((a.den:Int)*(b.den:Int)):=qeW ha.2 hb.2 h2
 have m1:=qfD (q67 oa) (q67 ob) k1
 have m2:=qfD (q1h oa) (q1h ob) k2
 have hL:=(qnc (qoB a b) k1 k2).1
 rw[qCz] at hL
 rw[qyU]
 have key:(vQ [.s (tQ a),.s (tQ b)]).run=some (0,[.s (tQ (a*b)),.i 0]):=by
  rw[qeH]
  have h1:(q4E [.s (tI a.num),.s (tI (a.den:Int)),.s (tI b.num),.s (tI (b.den:Int)),.i 0]).run=some (0,[.s (tI (a.num*b.num)),.s (tI ((a.den:Int)*(b.den:Int))),.i 0]):=by
   rw[quJ]
   simp only[STD,m1,m2]
  simp only[STD,qiL oa ob,qc6 oa,qc6 ob,h1,qY,qIU (qoB a b),hL]
 simp only[STD,key]
theorem qAc{N D N' D':Nat}{a b:Rat}(ha:bnd N D a)(hb:bnd N' D' b)(h1:N+D'≤1023)(h2:N'+D≤1023)(h3:D+D'≤1024):(q8H [.s (tQ a),.s (tQ b)]).run=some (0,[.s (tQ (a+b)),.i 0]):=by
 have p1:=qrV a
 have p2:=qrV b
 have p3:=qBz a
 have p4:=qBz b
 have oa:okQ a:=⟨by have:=ha.1;have:=hb.2;omega,by have:=ha.2;have:=hb.2;omega⟩
 have ob:okQ b:=⟨by have:=hb.1;have:=ha.2;omega,by have:=ha.2;have:=hb.2;omega⟩
 have k1:okL (a.num*(b.den:Int)):=qeW ha.1 hb.2 (by omega)
 have k2:okL (b.num*(a.den:Int)):=qeW hb.1 ha.2 (by omega)
 have k3:okL ((a.den:Int)*(b.den:Int)):=qeW ha.2 hb.2 h3
 have k4:okL (a.num*(b.den:Int)+b.num*(a.den:Int)):=by
  have q1:=quX (a.num*(b.den:Int)) (b.num*(a.den:Int))
  have q2:=yU a.num (b.den:Int)
  have q3:=yU b.num (a.den:Int)
  have q4:nl a.num≤N:=ha.1
  have q5:nl (b.den:Int)≤D':=hb.2
  have q6:nl b.num≤N':=hb.1
  have q7:nl (a.den:Int)≤D:=ha.2
  unfold okL;omega
 have m1:=qfD (q67 oa) (q1h ob) k1
 have m2:=qfD (q67 ob) (q1h oa) k2
 have m3:=qfD (q1h oa) (q1h ob) k3
 have hL:=(qnc (qoB a b) k4 k3).1
 rw[qCj] at hL
 rw[qyl]
 have key:(vH [.s (tQ a),.s (tQ b)]).run=some (0,[.s (tQ (a+b)),.i 0]):=by
  rw[qeN]
  have h1:(q4z [.s (tI a.num),.s (tI (a.den:Int)),.s (tI b.num),.s (tI (b.den:Int)),.i 0]).run=some (0,[.s (tI (a.num*b.den+b.num*a.den)),.s (tI ((a.den:Int)*(b.den:Int))),.i 0]):=by
   rw[qui]
   simp only[STD,m1,m2,m3,qHy k1 k2 k4]
  simp only[STD,qiL oa ob,qc6 oa,qc6 ob,h1,qY,qIU (qoB a b),hL]
 simp only[STD,key]
theorem qAJ{N D N' D':Nat}{a b:Rat}(ha:bnd N D a)(hb:bnd N' D' b)(h1:N+D'≤1023)(h2:N'+D≤1023)(h3:D+D'≤1024):(q8e [.s (tQ a),.s (tQ b)]).run=some (0,[.s (tQ (a-b)),.i 0]):=by
 have p1:=qrV a
 have p2:=qrV b
 have p3:=qBz a
 have p4:=qBz b
 have oa:okQ a:=⟨by have:=ha.1;have:=hb.2;omega,by have:=ha.2;have:=hb.2;omega⟩
 have ob:okQ b:=⟨by have:=hb.1;have:=ha.2;omega,by have:=ha.2;have:=hb.2;omega⟩
 have k1:okL (a.num*(b.den:Int)):=qeW ha.1 hb.2 (by omega)
 have k2:okL (b.num*(a.den:Int)):=qeW hb.1 ha.2 (by omega)
 have k3:okL ((a.den:Int)*(b.den:Int)):=qeW ha.2 hb.2 h3
 have k4:okL (a.num*(b.den:Int)-b.num*(a.den:Int)):=by
  have q1:=qBM (a.num*(b.den:Int)) (b.num*(a.den:Int))
  have q2:=yU a.num (b.den:Int)
  have q3:=yU b.num (a.den:Int)
  have q4:nl a.num≤N:=ha.1
  have q5:nl (b.den:Int)≤D':=hb.2
  have q6:nl b.num≤N':=hb.1
  have q7:nl (a.den:Int)≤D:=ha.2
  unfold okL;omega
 have m1:=qfD (q67 oa) (q1h ob) k1
 have m2:=qfD (q67 ob) (q1h oa) k2
 have m3:=qfD (q1h oa) (q1h ob) k3
 have hL:=(qnc (qoB a b) k4 k3).1
 rw[qCA] at hL
 rw[qyZ]
 have key:(vK [.s (tQ a),.s (tQ b)]).run=some (0,[.s (tQ (a-b)),.i 0]):=by
  rw[qer]
  have h1:(q4D [.s (tI a.num),.s (tI (a.den:Int)),.s (tI b.num),.s (tI (b.den:Int)),.i 0]).run=some (0,[.s (tI (a.num*b.den-b.num*a.den)),.s (tI ((a.den:Int)*(b.den:Int))),.i 0]):=by
   rw[qtL]
   simp only[STD,m1,m2,m3,qA6 k1 k2 k4]
  simp only[STD,qiL oa ob,qc6 oa,qc6 ob,h1,qY,qIU (qoB a b),hL]
 simp only[STD,key]
theorem qtp(q:Rat):(tQ q=[48])=(q=0):=by
 have:([48]:List UInt8)=tQ 0:=rfl
 rw[this,qCs]
theorem qAu{N D N' D':Nat}{a b:Rat}(hb0:b≠0)(ha:bnd N D a)(hb:bnd N' D' b)(h1:N+D'≤1024)(h2:D+N'≤1024):(q8F [.s (tQ a),.s (tQ b)]).run=some (0,[.s (tQ (a/b)),.i 0]):=by
 have oa:okQ a:=⟨by have:=ha.1;omega,by have:=ha.2;omega⟩
 have ob:okQ b:=⟨by have:=hb.1;omega,by have:=hb.2;omega⟩
 have k1:okL (a.num*(b.den:Int)):=qeW ha.1 hb.2 h1
 have k2:okL ((a.den:Int)*b.num):=qeW ha.2 hb.1 h2
 have hbn:b.num≠0:=fun h=>hb0 (Rat.num_eq_zero.1 h)
 have hz:(a.den:Int)*b.num≠0:=by have:=qzc a;exact Int.mul_ne_zero (by omega) hbn
 have m1:=qfD (q67 oa) (q1h ob) k1
 have m2:=qfD (q1h oa) (q67 ob) k2
 have hL:=(qnc hz k1 k2).1
 rw[qCx] at hL
 rw[qz6]
 have key:(vJ [.s (tQ a),.s (tQ b)]).run=some (0,[.s (tQ (a/b)),.i 0]):=by
  rw[qee]
  have h1:(q4s [.s (tI a.num),.s (tI (a.den:Int)),.s (tI b.num),.s (tI (b.den:Int)),.i 0]).run=some (0,[.s (tI (a.num*b.den)),.s (tI ((a.den:Int)*b.num)),.i 0]):=by
   rw[qtS]
   simp only[STD,m1,m2]
  simp only[STD,qiL oa ob,qc6 oa,qc6 ob,h1,qY,qIU hz,hL]
 simp only[STD,qiL oa ob,qY,qtp,hb0,key]
theorem qae{m:Int}(h:okL m):(zu [.s (tI m),.i 0]).run=some (0,[.i (sgn m),.i 0]):=by
 rw[qo5]
 simp only[STD,qyL h]
theorem qHG(m:Int):sgn m=sgq (m:Rat):=by unfold sgq;simp
theorem qAO{q k:Rat}(hk:0<k):sgq (k*q)=sgq q:=by
 rcases q6H q with⟨h,e⟩|⟨h,e⟩|⟨h,e⟩
 ·rw[e,qEJ]
  have:=(Rat.mul_neg_iff_of_pos_left hk).2 h
  exact this
 ·rw[e,h,Rat.mul_zero];rfl
 ·rw[e,qvO]
  exact Rat.mul_pos hk h
theorem q4H(a:Rat):(0:Rat)<(a.den:Rat):=by
 have:=a.den_nz
 exact Rat.natCast_pos.2 (by omega)
theorem qhs(a:Rat):(a.num:Rat)=a*(a.den:Rat):=by
 have h:a=(a.num:Rat)/(a.den:Rat):=by rw[←Rat.mkRat_eq_div,Rat.mkRat_self]
 have h2:=Rat.div_mul_cancel (a:=(a.num:Rat)) (b:=(a.den:Rat)) (by have:=q4H a;grind)
 rw[←h] at h2
 exact h2.symm
def rX(a b c:Rat):Int:=a.num*b.den*c.den
def rY(a b:Rat):Int:=b.num*a.den
def rR(c:Rat):Int:=c.num*c.den
theorem qIO(a b c:Rat):sgn (rX a b c)=sgq a:=by
 unfold rX sgq
 rw[qgN (qzc c),qgN (qzc b)]
theorem qHT(a b:Rat):sgn (rY a b)=sgq b:=by unfold rY sgq;rw[qgN (qzc a)]
theorem qI5(c:Rat):sgn (rR c)=sgq c:=by unfold rR sgq;rw[qgN (qzc c)]
theorem qIs(a b c:Rat):sgn (rX a b c*rX a b c-rY a b*rY a b*rR c)=sgq (a*a-b*b*c):=by
 rw[qHG]
 have h1:=q4H a
 have h2:=q4H b
 have h3:=q4H c
 have hk:(0:Rat)<((a.den:Rat)*b.den*c.den)*((a.den:Rat)*b.den*c.den):=by
  have:=Rat.mul_pos (Rat.mul_pos h1 h2) h3
  exact Rat.mul_pos this this
 rw[←qAO (q:=a*a-b*b*c) hk]
 congr 1
 unfold rX rY rR
 simp only[Rat.intCast_sub,Rat.intCast_mul,qhs,Rat.intCast_natCast]
 grind
theorem qEB(a b c:Rat):qhd a b c=if 0≤sgn (rX a b c)*(sgn (rY a b)*sgn (rR c)) then (if sgn (rX a b c)=0 then sgn (rY a b)*sgn (rR c) else sgn (rX a b c)) else sgn (rX a b c)*sgn (rX a b c*rX a b c-rY a b*rY a b*rR c):=by
 unfold qhd
 rw[qIO,qHT,qI5,qIs]
theorem qHj{x y r:Int}(hx:okL x)(hy:okL y)(hr:okL r)(hxx:okL (x*x))(hyy:okL (y*y))(hyr:okL (y*y*r))(hd:okL (x*x-y*y*r)) :
  (uF [.s (tI x),.s (tI y),.s (tI r),.i 0]).run=some (0,[.i (if 0≤sgn x*(sgn y*sgn r) then (if sgn x=0 then sgn y*sgn r else sgn x) else sgn x*sgn (x*x-y*y*r)),.i 0]):=by
 rw[qnd]
 have bx:=qth x
 have bY:=qth y
 have br:=qth r
 have bd:=qth (x*x-y*y*r)
 have m1:=qfD hx hx hxx
 have m2:=qxG [y,y,r] ⟨qcO,hy,by rw[Int.one_mul];exact hy,hy,by rw[Int.one_mul];exact hyy,hr,by rw[Int.one_mul];exact hyr⟩ (by simp)
 simp only[prd,Int.one_mul] at m2
 have m2':(qg [.r [[.s (tI y)],[.s (tI y)],[.s (tI r)]],.i 0]).run=some (0,[.s (tI (y*y*r)),.i 0]):=m2
 by_cases hc:0≤sgn x*(sgn y*sgn r)
 ·by_cases h0:sgn x=0
  ·have w0:ux .i64 0 (sgn y*sgn r)=0:=by rw[q2L (by rw[Int.zero_mul];omega),Int.zero_mul]
   simp only[STD,qae hx,qae hy,qae hr,qg2 bY br,h0,w0,Int.zero_mul,Int.le_refl,eq_self]
  ·simp only[STD,qae hx,qae hy,qae hr,qg2 bY br,qg2 bx (qIV bY br),hc,h0]
 ·simp only[STD,qae hx,qae hy,qae hr,qg2 bY br,qg2 bx (qIV bY br),hc,m1,m2',qA6 hxx hyr hd,qae hd,qg2 bx bd]
theorem qB3(m:Int):okL (0*m):=by rw[Int.zero_mul];exact qaX
theorem qG4{c:Rat}(h:0≤c):¬(tQ c).getD 0 0=45:=by
 have hn:¬c.num<0:=by have:=Rat.num_nonneg.2 h;omega
 have e:(tQ c).getD 0 0=(tI c.num).getD 0 0:=by
  by_cases hd:c.den=1
  ·rw[qcK hd]
  ·rw[q78 hd]
   obtain⟨x,t,ex⟩:∃x t,tI c.num=x::t:=List.exists_cons_of_ne_nil (List.length_pos_iff.1 (qs3 _))
   rw[ex];simp
 rw[e,qFa];exact hn
theorem qGy{c:Rat}(h:c<0):(tQ c).getD 0 0=45:=by
 have h1:¬0≤c:=by grind
 have hn:c.num<0:=by
  have h2:¬0≤c.num:=fun h=>h1 (Rat.num_nonneg.1 h)
  omega
 have e:(tQ c).getD 0 0=(tI c.num).getD 0 0:=by
  by_cases hd:c.den=1
  ·rw[qcK hd]
  ·rw[q78 hd]
   obtain⟨x,t,ex⟩:∃x t,tI c.num=x::t:=List.exists_cons_of_ne_nil (List.length_pos_iff.1 (qs3 _))
   rw[ex];simp
 rw[e,qFa];exact hn
theorem qn5(s:List UInt8):(sat s 0=45)=(s.getD 0 0=45):=by
 unfold sat
 simp only[Int.toNat_zero,eq_iff_iff]
 exact⟨fun h=>UInt8.toNat_inj.1 (by show (s.getD 0 0).toNat=45;omega),fun h=>by rw[h];rfl⟩
structure RootOk (a b c:Rat):Prop where
 oa:okQ a
 ob:okQ b
 oc:okQ c
 x1:okL (a.num*b.den)
 x:okL (rX a b c)
 y:okL (rY a b)
 r:okL (rR c)
 xx:okL (rX a b c*rX a b c)
 yy:okL (rY a b*rY a b)
 yr:okL (rY a b*rY a b*rR c)
 d:okL (rX a b c*rX a b c-rY a b*rY a b*rR c)
theorem qBV{a b c:Rat}(h:RootOk a b c)(hc:0≤c):(q2r [.s (tQ a),.s (tQ b),.s (tQ c)]).run=some (0,[.i (qhd a b c),.i 0]):=by
 rw[qoW]
 have key:(q0X [.s (tQ a),.s (tQ b),.s (tQ c),.s [48],.s [48]]).run=some (0,[.i (qhd a b c),.i 0]):=by
  rw[qmr]
  have o0:okQ 0:=q94.ok (by omega) (by omega)
  have hz:=q5D o0
  rw[show tQ 0=[48] from rfl] at hz
  have hch:=qxO (l:=[tQ a,tQ b,tQ c,[48],[48]]) (by simp) (fun s hs=>by
   simp only[List.mem_cons,List.not_mem_nil,or_false] at hs
   rcases hs with rfl|rfl|rfl|rfl|rfl
   ·exact q5D h.oa
   ·exact q5D h.ob
   ·exact q5D h.oc
   ·exact hz
   ·exact hz)
  have hch':(qW [.r [[.s (tQ a)],[.s (tQ b)],[.s (tQ c)],[.s [48]],[.s [48]]]]).run=some (0,[.i 0]):=hch
  have c0:=qc6 o0
  rw[show tQ 0=[48] from rfl] at c0
  replace c0:(qT [.s [48]]).run=some (0,[.s [48],.s [49],.b false]):=c0
  have l1:(0:Int)<qt (tQ c):=by
   have h1:=qso c
   have h2:=qrV c
   unfold qt;omega
  have l2:(0:Int)<qt [48]:=by decide
  have n1:¬sat (tQ c) 0=45:=by rw[qn5];exact qG4 hc
  have n2:¬sat [48] 0=45:=by decide
  have mx:=qxG [a.num,b.den,c.den,1,1] ⟨qcO,q67 h.oa,by rw[Int.one_mul];exact q67 h.oa,q1h h.ob,by rw[Int.one_mul];exact h.x1,q1h h.oc,by rw[Int.one_mul];exact h.x,qcO,by rw[Int.one_mul,Int.mul_one];exact h.x,qcO,by rw[Int.one_mul,Int.mul_one,Int.mul_one];exact h.x⟩ (by simp)
  have my:=qxG [b.num,a.den,1,1] ⟨qcO,q67 h.ob,by rw[Int.one_mul];exact q67 h.ob,q1h h.oa,by rw[Int.one_mul];exact h.y,qcO,by rw[Int.one_mul,Int.mul_one];exact h.y,qcO,by rw[Int.one_mul,Int.mul_one,Int.mul_one];exact h.y⟩ (by simp)
  have mr:=qfD (q67 h.oc) (q1h h.oc) h.r
  have mz:=qxG [0,a.den,b.den,c.den] ⟨qcO,qaX,by rw[Int.mul_zero];exact qaX,q1h h.oa,by simp only[Int.mul_zero];exact qB3 _,q1h h.ob,by simp only[Int.mul_zero,Int.zero_mul];exact qaX,q1h h.oc,by simp only[Int.mul_zero,Int.zero_mul];exact qaX⟩ (by simp)
  have mt:=qfD (m:=0) (n:=1) qaX qcO (qB3 _)
  simp only[prd,Int.one_mul,Int.mul_one,Int.zero_mul] at mx my mz mt
  have mx':(qg [.r [[.s (tI a.num)],[.s (tI (b.den:Int))],[.s (tI (c.den:Int))],[.s [49]],[.s [49]]],.i 0]).run=some (0,[.s (tI (rX a b c)),.i 0]):=mx
  have my':(qg [.r [[.s (tI b.num)],[.s (tI (a.den:Int))],[.s [49]],[.s [49]]],.i 0]).run=some (0,[.s (tI (rY a b)),.i 0]):=my
  have mr':(qg [.r [[.s (tI c.num)],[.s (tI (c.den:Int))]],.i 0]).run=some (0,[.s (tI (rR c)),.i 0]):=mr
  have mz':(qg [.r [[.s [48]],[.s (tI (a.den:Int))],[.s (tI (b.den:Int))],[.s (tI (c.den:Int))]],.i 0]).run=some (0,[.s (tI 0),.i 0]):=mz
  have mt':(qg [.r [[.s [48]],[.s [49]]],.i 0]).run=some (0,[.s (tI 0),.i 0]):=mt
  have hR:=qHj h.x h.y h.r h.xx h.yy h.yr h.d
  rw[←qEB] at hR
  have w1:ux .i64 (sgn 0) (sgn 0)=0:=by decide
  have w2:ux .i64 (qhd a b c) 0=0:=by rw[q2L (by rw[Int.mul_zero];omega),Int.mul_zero]
  by_cases h0:qhd a b c=0
  ·simp only[STD,hch',l1,l2,n1,n2,Int.le_refl,and_self,qc6 h.oa,qc6 h.ob,qc6 h.oc,c0,mx',my',mr',mz',mt',hR,qae qaX,w1,h0,show ux .i64 0 0=0 from rfl]
  ·simp only[STD,hch',l1,l2,n1,n2,Int.le_refl,and_self,qc6 h.oa,qc6 h.ob,qc6 h.oc,c0,mx',my',mr',mz',mt',hR,qae qaX,w1,w2,h0]
 simp only[STD,key]
theorem RootOk.of{N D N' D' R E:Nat}{a b c:Rat}(ha:bnd N D a)(hb:bnd N' D' b)(hc:bnd R E c)(h1:2*(N+D'+E)≤1023)(h2:2*(N'+D)+R+E≤1023):RootOk a b c:=by
 have q1:nl a.num≤N:=ha.1
 have q2:nl (a.den:Int)≤D:=ha.2
 have q3:nl b.num≤N':=hb.1
 have q4:nl (b.den:Int)≤D':=hb.2
 have q5:nl c.num≤R:=hc.1
 have q6:nl (c.den:Int)≤E:=hc.2
 have x1:=yU a.num b.den
 have x2:=yU (a.num*b.den) c.den
 have y1:=yU b.num a.den
 have r1:=yU c.num c.den
 have xx:=yU (rX a b c) (rX a b c)
 have yy:=yU (rY a b) (rY a b)
 have yr:=yU (rY a b*rY a b) (rR c)
 have dd:=qBM (rX a b c*rX a b c) (rY a b*rY a b*rR c)
 have e1:nl (rX a b c)=nl (a.num*b.den*c.den):=rfl
 have e2:nl (rY a b)=nl (b.num*a.den):=rfl
 have e3:nl (rR c)=nl (c.num*c.den):=rfl
 have p1:=qsl a.num
 have p2:=qsl b.num
 have p3:=qsl c.num
 have p4:=qsl (a.den:Int)
 have p5:=qsl (b.den:Int)
 have p6:=qsl (c.den:Int)
 exact { oa:=⟨by show nl a.num≤1024;omega,by show nl (a.den:Int)≤1024;omega⟩,ob:=⟨by show nl b.num≤1024;omega,by show nl (b.den:Int)≤1024;omega⟩,oc:=⟨by show nl c.num≤1024;omega,by show nl (c.den:Int)≤1024;omega⟩,x1:=by unfold okL;omega,x:=by unfold okL;omega,y:=by unfold okL;omega,r:=by unfold okL;omega,xx:=by unfold okL;omega,yy:=by unfold okL;omega,yr:=by unfold okL;omega,d:=by unfold okL;omega }
end Go.Eng

namespace Go.Eng
theorem qEx{a b:Rat}{N D N' D':Nat}(ha:bnd N D a)(hb:bnd N' D' b)(h1:N+D'≤1023)(h2:N'+D≤1023)(h3:D+D'≤1024):(zI [.s (tQ a),.s (tQ b),.i 0]).run=some (0,[.s (tQ (a+b)),.i 0]):=by
 rw[qoO]
 have:(vg [.s (tQ a),.s (tQ b),.i 0]).run=some (0,[.s (tQ (a+b)),.i 0]):=by
  rw[qdb]
  simp only[STD,qAc ha hb h1 h2 h3]
 simp only[STD,this]
theorem qy5{a b:Rat}{N D N' D':Nat}(ha:bnd N D a)(hb:bnd N' D' b)(h1:N+D'≤1023)(h2:N'+D≤1023)(h3:D+D'≤1024):(qU [.s (tQ a),.s (tQ b),.i 0]).run=some (0,[.s (tQ (a-b)),.i 0]):=by
 rw[qoD]
 have:(v8 [.s (tQ a),.s (tQ b),.i 0]).run=some (0,[.s (tQ (a-b)),.i 0]):=by
  rw[qdc]
  simp only[STD,qAJ ha hb h1 h2 h3]
 simp only[STD,this]
theorem qyH{a b:Rat}{N D N' D':Nat}(ha:bnd N D a)(hb:bnd N' D' b)(h1:N+N'≤1024)(h2:D+D'≤1024):(qZ [.s (tQ a),.s (tQ b),.i 0]).run=some (0,[.s (tQ (a*b)),.i 0]):=by
 rw[qpk]
 have:(wY [.s (tQ a),.s (tQ b),.i 0]).run=some (0,[.s (tQ (a*b)),.i 0]):=by
  rw[qdg]
  simp only[STD,qAH ha hb h1 h2]
 simp only[STD,this]
theorem qIq{a b:Rat}{N D N' D':Nat}(h0:b≠0)(ha:bnd N D a)(hb:bnd N' D' b)(h1:N+D'≤1024)(h2:D+N'≤1024):(zR [.s (tQ a),.s (tQ b),.i 0]).run=some (0,[.s (tQ (a/b)),.i 0]):=by
 rw[qdh]
 simp only[STD,qAu h0 ha hb h1 h2]
theorem qAU{ax ay bx by_:Rat}{N D N' D':Nat}(h1:bnd N D ax)(h2:bnd N D ay)(h3:bnd N' D' bx)(h4:bnd N' D' by_)(c1:N+D'≤1023)(c2:N'+D≤1023)(c3:D+D'≤1024) :
  (wI [.s (tQ ax),.s (tQ ay),.s (tQ bx),.s (tQ by_),.i 0]).run=some (0,[.s (tQ (ax-bx)),.s (tQ (ay-by_)),.i 0]):=by
 rw[qmA]
 simp only[STD,qy5 h1 h3 c1 c2 c3,qy5 h2 h4 c1 c2 c3]
theorem qBW{ax ay bx by_:Rat}{N D N' D':Nat}(h1:bnd N D ax)(h2:bnd N D ay)(h3:bnd N' D' bx)(h4:bnd N' D' by_)(c1:N+N'+(D+D')≤1023)(c2:D+D'+(D+D')≤1024) :
  (zH [.s (tQ ax),.s (tQ ay),.s (tQ bx),.s (tQ by_),.i 0]).run=some (0,[.s (tQ (ax*bx+ay*by_)),.i 0]):=by
 rw[qoM]
 simp only[STD,qyH h1 h3 (by omega) (by omega),qyH h2 h4 (by omega) (by omega),qEx (h1.mul h3) (h2.mul h4) (by omega) (by omega) (by omega)]
theorem qsF{ax ay bx by_:Rat}{N D N' D':Nat}(h1:bnd N D ax)(h2:bnd N D ay)(h3:bnd N' D' bx)(h4:bnd N' D' by_):bnd (N+N'+(D+D')+1) (D+D'+(D+D')) (ax*bx+ay*by_):=
 (h1.mul h3).add (h2.mul h4) (by omega) (by omega)
def kv(ax ay bx by_:Rat):Rat:=(ax-bx)*(ax-bx)+(ay-by_)*(ay-by_)
theorem q39{a b:Rat}(ha:bnd 12 10 a)(hb:bnd 12 10 b):bnd 23 20 (a-b):=ha.sub hb (by omega) (by omega)
theorem qpE{ax ay bx by_:Rat}(h1:bnd 12 10 ax)(h2:bnd 12 10 ay)(h3:bnd 12 10 bx)(h4:bnd 12 10 by_):bnd 87 80 (kv ax ay bx by_):=
 qsF (q39 h1 h3) (q39 h2 h4) (q39 h1 h3) (q39 h2 h4)
theorem qJ7{ax ay bx by_:Rat}(h1:bnd 12 10 ax)(h2:bnd 12 10 ay)(h3:bnd 12 10 bx)(h4:bnd 12 10 by_) :
  (yK [.s (tQ ax),.s (tQ ay),.s (tQ bx),.s (tQ by_),.i 0]).run=some (0,[.s (tQ (kv ax ay bx by_)),.i 0]):=by
 rw[qfT]
 have k1:=q39 h1 h3
 have k2:=q39 h2 h4
 simp only[STD,qAU h1 h2 h3 h4 (by omega) (by omega) (by omega),qBW k1 k2 k1 k2 (by omega) (by omega)]
 rfl
theorem qzU{ax ay bx by_:Rat}(h1:sm 40000 ax)(h2:sm 40000 ay)(h3:sm 40000 bx)(h4:sm 40000 by_) :
  (um [.s (tQ ax),.s (tQ ay),.s (tQ bx),.s (tQ by_)]).run=some (0,[.s (tQ (ax-bx)),.s (tQ (ay-by_))]):=by
 rw[qux]
 simp only[STD,q4t (q1Z h1 (show 40000≤100000 by omega)) (q1Z h3 (show 40000≤100000 by omega)),q4t (q1Z h2 (show 40000≤100000 by omega)) (q1Z h4 (show 40000≤100000 by omega))]
theorem qEh{ax ay bx by_:Rat}{K:Nat}(hK:K≤40000)(h1:sm K ax)(h2:sm K ay)(h3:sm K bx)(h4:sm K by_) :
  (uU [.s (tQ ax),.s (tQ ay),.s (tQ bx),.s (tQ by_)]).run=some (0,[.s (tQ (ax*bx+ay*by_))]):=by
 rw[qxT]
 have e:=fun {q:Rat} (h:sm K q)=>q1Z h (show K≤100000 by omega)
 have p1:=q9y (a:=ax*bx) (b:=ay*by_) (q1Z (qxR h1 h3) (by omega)) (q1Z (qxR h2 h4) (by omega))
 simp only[STD,vt (e h1) (e h3),vt (e h2) (e h4),p1]
structure DQ where
 x:Rat
 y:Rat
 s:Rat
def DQ.sh(d:DQ):Prop:=bnd 12 10 d.x∧bnd 12 10 d.y∧bnd 13 10 d.s
def qJe(a b:DQ)(k:Rat):Int:=qhd (kv a.x a.y b.x b.y-(a.s+b.s)) k (a.s*b.s)
theorem qGF{a b c:Rat}(h:RootOk a b c)(hc:0≤c):(ju [.s (tQ a),.s (tQ b),.s (tQ c),.i 0]).run=some (0,[.i (qhd a b c),.i 0]):=by
 rw[qo4]
 simp only[STD,qBV h hc]
theorem qvu(a:Rat):qhd a 0 0=sgq a:=by
 unfold qhd
 rw[show sgq 0=0 from rfl,Int.mul_zero,Int.mul_zero,if_pos (by omega)]
 split
 ·rename_i h;rw[h]
 ·rfl
theorem qDO{a b:Rat}{N D N' D':Nat}(ha:bnd N D a)(hb:bnd N' D' b)(c1:N+D'+1≤500)(c2:N'+D+1≤500)(c3:D+D'≤300):(yD [.s (tQ a),.s (tQ b),.i 0]).run=some (0,[.i (sgq (a-b)),.i 0]):=by
 rw[qmc]
 have k:bnd 500 (D+D') (a-b):=ha.sub hb (by omega) (by omega)
 have hr:=qGF (a:=a-b) (b:=0) (c:=0) (RootOk.of k q94 q94 (by omega) (by omega)) (by decide)
 rw[qvu,show tQ 0=[48] from rfl] at hr
 simp only[STD,qy5 ha hb (by omega) (by omega) (by omega),hr]
theorem qBQ:tQ 2=[50]:=qGd 2
def qD9(a b:DQ):Prop:=a.s≤b.s∧qJe a b 2≤0
instance (a b:DQ):Decidable (qD9 a b):=by unfold qD9;infer_instance
theorem qfn(a b:Rat):(sgq (a-b)≤0)=(a≤b):=by rw[qjD];exact propext ⟨fun h=>by grind,fun h=>by grind⟩
def shT(s:List UInt8):Prop:=s.length≤12
noncomputable def qFk(x y s:List UInt8):Int:=if qfO x≠0 then qfO x else if qfO y≠0 then qfO y else if qfO s≠0 then qfO s else if s.getD 0 0=45 then 2 else 0
theorem qIo{S:List PV→TR}{st:Nat→List PV}{e0 e1 e2:Int}{fin:List PV}
  (h0:(S (st 0)).run=if e0=0 then some (0,st 1) else some (2,[.i e0])) (h1:(S (st 1)).run=if e1=0 then some (0,st 2) else some (2,[.i e1])) (h2:(S (st 2)).run=if e2=0 then some (0,st 3) else some (2,[.i e2]))
  (h3:(S (st 3)).run=some (1,fin)):(qf S (st 0)).run=some (if e0≠0 then (1,[.i e0]) else if e1≠0 then (1,[.i e1]) else if e2≠0 then (1,[.i e2]) else (0,fin)):=by
 have hr:∃m,qit=m+4:=⟨qit-4,by unfold qit;omega⟩
 obtain⟨m,hm⟩:=hr
 unfold qf
 rw[hm]
 by_cases c0:e0=0
 ·rw[if_pos c0] at h0
  rw[qjJ h0]
  by_cases c1:e1=0
  ·rw[if_pos c1] at h1
   rw[qjJ h1]
   by_cases c2:e2=0
   ·rw[if_pos c2] at h2
    rw[qjJ h2,q9N h3]
    simp[c0,c1,c2]
   ·rw[if_neg c2] at h2
    rw[q9N h2]
    simp[c0,c1,c2]
  ·rw[if_neg c1] at h1
   rw[q9N h1]
   simp[c0,c1]
 ·rw[if_neg c0] at h0
  rw[q9N h0]
  simp[c0]
theorem qgp(x y s:List UInt8)(h1:x.length≤1000000)(h2:y.length≤1000000)(h3:s.length≤1000000):(uk [.s x,.s y,.s s]).run=some (0,[.i (qFk x y s)]):=by
  rw[quI]
  have c0:=q4f x (by omega)
  have c1:=q4f y (by omega)
  have c2:=q4f s (by omega)
  have d0:cS [[.s x],[.s y],[.s s]] 0 0=x:=rfl
  have d1:cS [[.s x],[.s y],[.s s]] 1 0=y:=rfl
  have d2:cS [[.s x],[.s y],[.s s]] 2 0=s:=rfl
  have d3:qh [[U.s x],[U.s y],[U.s s]]=3:=rfl
  have w0:qk .i64 0 1=1:=by decide
  have w1:qk .i64 1 1=2:=by decide
  have w2:qk .i64 2 1=3:=by decide
  have key:=qIo (S:=q3z) (st:=fun i=>[.i 3,.i (i:Int),.s x,.s y,.s s,.r [[.s x],[.s y],[.s s]]]) (e0:=qfO x) (e1:=qfO y) (e2:=qfO s) (fin:=[.s x,.s y,.s s])
    (by rw [q5E]; simp only [show (((0 : Nat)) : Int) = 0 from rfl, show (((1 : Nat)) : Int) = 1 from rfl, d0, d3]
        by_cases c:qfO x=0
        · simp only[STD,c0,c,w0,show (0:Int)<3 by omega,Int.le_refl,and_self]
        · simp only[STD,c0,c,show (0:Int)<3 by omega,Int.le_refl,and_self])
    (by rw [q5E]; simp only [show (((1 : Nat)) : Int) = 1 from rfl, show (((2 : Nat)) : Int) = 2 from rfl, d1, d3]
        by_cases c:qfO y=0
        · simp only[STD,c1,c,w1,show (1:Int)<3 by omega,show (0:Int)≤1 by omega,and_self]
        · simp only[STD,c1,c,show (1:Int)<3 by omega,show (0:Int)≤1 by omega,and_self])
    (by rw [q5E]; simp only [show (((2 : Nat)) : Int) = 2 from rfl, show (((3 : Nat)) : Int) = 3 from rfl, d2, d3]
        by_cases c:qfO s=0
        · simp only[STD,c2,c,w2,show (2:Int)<3 by omega,show (0:Int)≤2 by omega,and_self]
        · simp only[STD,c2,c,show (2:Int)<3 by omega,show (0:Int)≤2 by omega,and_self])
    (by rw[q5E];simp only[show (((3:Nat)):Int)=3 from rfl];simp only[STD,show ¬(3:Int)<3 by omega])
  simp only[show (((0:Nat)):Int)=0 from rfl] at key
  unfold qFk
  rw[d3]
  by_cases e0:qfO x=0
  · by_cases e1:qfO y=0
    · by_cases e2:qfO s=0
      · simp only[e0,e1,e2,ne_eq,not_true,if_false] at key ⊢
        obtain⟨q,hq,_⟩:=qwK e2
        have hl:(0:Int)<qt s:=by
          have h1:=qso q
          have h2:=qrV q
          rw[hq];unfold qt;omega
        by_cases hm:s.getD 0 0=45
        · simp only[STD,key,qu key,Int.le_refl,hl,and_self,qn5,hm]
        · simp only[STD,key,qu key,Int.le_refl,hl,and_self,qn5,hm]
      · simp only[e0,e1,e2,ne_eq,not_true,not_false_eq_true,if_false,if_true] at key ⊢
        simp only[STD,key,qu key,show ¬(1=0) by omega]
    · simp only[e0,e1,ne_eq,not_true,not_false_eq_true,if_false,if_true] at key ⊢
      simp only[STD,key,qu key,show ¬(1=0) by omega]
  · simp only[e0,ne_eq,not_false_eq_true,if_true] at key ⊢
    simp only[STD,key,qu key,show ¬(1=0) by omega]
theorem qwW(x y s:List UInt8)(h1:x.length≤1000000)(h2:y.length≤1000000)(h3:s.length≤1000000):(q47 [.s x,.s y,.s s]).run=some (0,[.i (qFk x y s)]):=by
  rw[qul]
  have c0:=q1P x (by omega)
  have c1:=q1P y (by omega)
  have c2:=q1P s (by omega)
  have d0:cS [[.s x],[.s y],[.s s]] 0 0=x:=rfl
  have d1:cS [[.s x],[.s y],[.s s]] 1 0=y:=rfl
  have d2:cS [[.s x],[.s y],[.s s]] 2 0=s:=rfl
  have d3:qh [[U.s x],[U.s y],[U.s s]]=3:=rfl
  have w0:qk .i64 0 1=1:=by decide
  have w1:qk .i64 1 1=2:=by decide
  have w2:qk .i64 2 1=3:=by decide
  have key:=qIo (S:=q3Q) (st:=fun i=>[.i 3,.i (i:Int),.s x,.s y,.s s,.r [[.s x],[.s y],[.s s]]]) (e0:=qfO x) (e1:=qfO y) (e2:=qfO s) (fin:=[.s x,.s y,.s s])
    (by rw [q62]; simp only [show (((0 : Nat)) : Int) = 0 from rfl, show (((1 : Nat)) : Int) = 1 from rfl, d0, d3]
        by_cases c:qfO x=0
        · simp only[STD,c0,c,w0,show (0:Int)<3 by omega,Int.le_refl,and_self]
        · simp only[STD,c0,c,show (0:Int)<3 by omega,Int.le_refl,and_self])
    (by rw [q62]; simp only [show (((1 : Nat)) : Int) = 1 from rfl, show (((2 : Nat)) : Int) = 2 from rfl, d1, d3]
        by_cases c:qfO y=0
        · simp only[STD,c1,c,w1,show (1:Int)<3 by omega,show (0:Int)≤1 by omega,and_self]
        · simp only[STD,c1,c,show (1:Int)<3 by omega,show (0:Int)≤1 by omega,and_self])
    (by rw [q62]; simp only [show (((2 : Nat)) : Int) = 2 from rfl, show (((3 : Nat)) : Int) = 3 from rfl, d2, d3]
        by_cases c:qfO s=0
        · simp only[STD,c2,c,w2,show (2:Int)<3 by omega,show (0:Int)≤2 by omega,and_self]
        · simp only[STD,c2,c,show (2:Int)<3 by omega,show (0:Int)≤2 by omega,and_self])
    (by rw[q62];simp only[show (((3:Nat)):Int)=3 from rfl];simp only[STD,show ¬(3:Int)<3 by omega])
  simp only[show (((0:Nat)):Int)=0 from rfl] at key
  unfold qFk
  rw[d3]
  by_cases e0:qfO x=0
  · by_cases e1:qfO y=0
    · by_cases e2:qfO s=0
      · simp only[e0,e1,e2,ne_eq,not_true,if_false] at key ⊢
        obtain⟨q,rfl,hok⟩:=qwK e2
        have hS:=q5m (a:=q) (q1Z hok (by omega))
        by_cases hm:q<0
        · simp only[STD,key,qu key,hS,qvB,hm,qGy hm]
        · simp only[STD,key,qu key,hS,qvB,hm,qG4 (show 0≤q by grind)]
      · simp only[e0,e1,e2,ne_eq,not_true,not_false_eq_true,if_false,if_true] at key ⊢
        simp only[STD,key,qu key,show ¬(1=0) by omega]
    · simp only[e0,e1,ne_eq,not_true,not_false_eq_true,if_false,if_true] at key ⊢
      simp only[STD,key,qu key,show ¬(1=0) by omega]
  · simp only[e0,ne_eq,not_false_eq_true,if_true] at key ⊢
    simp only[STD,key,qu key,show ¬(1=0) by omega]
theorem qGV{d:DQ}(h1:okQ d.x)(h2:okQ d.y)(h3:okQ d.s)(h:0≤d.s):qFk (tQ d.x) (tQ d.y) (tQ d.s)=0:=by
 unfold qFk
 rw[qoC h1,qoC h2,qoC h3]
 have:=qG4 h
 rw[if_neg (by simp),if_neg (by simp),if_neg (by simp),if_neg this]
end Go.Eng

namespace Go.Eng
def Bd(C e:Nat)(x:Int):Prop:=x.natAbs≤C*10^e
theorem Bd.mul{C e C' e':Nat}{x y:Int}(h:Bd C e x)(h':Bd C' e' y):Bd (C*C') (e+e') (x*y):=by
 unfold Bd at *
 rw[Int.natAbs_mul,Nat.pow_add]
 have:=Nat.mul_le_mul h h'
 have e1:C*10^e*(C'*10^e')=C*C'*(10^e*10^e'):=by
  rw[Nat.mul_mul_mul_comm]
 omega
theorem Bd.mono{C e C' e':Nat}{x:Int}(h:Bd C e x)(hC:C≤C')(he:e≤e'):Bd C' e' x:=by
 unfold Bd at *
 exact Nat.le_trans h (Nat.mul_le_mul hC (Nat.pow_le_pow_right (by omega) he))
theorem Bd.add{C C' e:Nat}{x y:Int}(h:Bd C e x)(h':Bd C' e y):Bd (C+C') e (x+y):=by
 unfold Bd at *
 rw[Nat.add_mul]
 have:=Int.natAbs_add_le x y
 omega
theorem Bd.neg{C e:Nat}{x:Int}(h:Bd C e x):Bd C e (-x):=by unfold Bd at *;rw[Int.natAbs_neg];exact h
theorem Bd.sub{C C' e:Nat}{x y:Int}(h:Bd C e x)(h':Bd C' e y):Bd (C+C') e (x-y):=by
 rw[Int.sub_eq_add_neg];exact h.add h'.neg
theorem Bd.okL{C e k:Nat}{x:Int}(h:Bd C e x)(hC:C≤10^k)(he:k+e≤1023)(hne:0<e+k):okL x:=by
 unfold Go.Eng.okL nl
 unfold Bd at h
 have h1:C*10^e≤10^k*10^e:=Nat.mul_le_mul_right _ hC
 rw[←Nat.pow_add] at h1
 have h2:(10:Nat)^(k+e)<10^(k+e+1):=Nat.pow_lt_pow_right (by omega) (by omega)
 have:=q7w (k+e) x.natAbs (by omega)
 omega
structure Wt (h v:Nat) (q:Rat):Prop where
 n:Bd 1 h q.num
 d:Bd 1 v (q.den:Int)
 dh:Bd 1 h (q.den:Int)
theorem qr0{q:Rat}{P M:Int}(hM:M≠0)(h:q*(M:Rat)=(P:Rat)):q.num.natAbs≤P.natAbs∧q.den≤M.natAbs:=by
 have hM':(M:Rat)≠0:=by
  intro e
  exact hM (Rat.intCast_inj.1 (e.trans (by simp)))
 have e:q=Rat.divInt P M:=by
  rw[Rat.divInt_eq_div,←h]
  exact(Rat.mul_div_cancel hM').symm
 rw[e]
 constructor
 ·rw[Rat.num_divInt]
  refine Nat.le_trans (Int.natAbs_ediv_le_natAbs _ _) ?_
  rw[Int.natAbs_mul,Int.natAbs_sign_of_ne_zero hM];omega
 ·rw[Rat.den_divInt,if_neg hM]
  exact Nat.div_le_self _ _
structure SQ where
 fx:Rat
 fy:Rat
 ax:Rat
 ay:Rat
 h:Rat
def qp(a b:DQ)(neg:Bool):SQ:=
 let dx:=b.x-a.x
 let dy:=b.y-a.y
 let far:=dx*dx+dy*dy
 let t:=(far+a.s-b.s)/(2*far)
 ⟨a.x+t*dx,a.y+t*dy,if neg then dy else 0-dy,if neg then 0-dx else dx,a.s/far-t*t⟩
def kA(d:DQ)(p:SQ):Rat:=(p.fx-d.x)*(p.fx-d.x)+(p.fy-d.y)*(p.fy-d.y)+p.h*(p.ax*p.ax+p.ay*p.ay)-d.s
def kB(d:DQ)(p:SQ):Rat:=2*((p.fx-d.x)*p.ax+(p.fy-d.y)*p.ay)
def u6(d:DQ)(p:SQ):Prop:=qhd (kA d p) (kB d p) p.h≤0
instance (d:DQ) (p:SQ):Decidable (u6 d p):=by unfold u6;infer_instance
section
variable (a1 p1 b1 q1 c1 r1 a2 p2 b2 q2 c2 r2 a3 p3 b3 q3 c3 r3:Int)
def iU:Int:=a2*p1-a1*p2
def iN:Int:=iU a1 p1 a2 p2*iU a1 p1 a2 p2*((q1*q2)*(q1*q2))+iU b1 q1 b2 q2*iU b1 q1 b2 q2*((p1*p2)*(p1*p2))
def iD:Int:=(p1*p2*(q1*q2))*(p1*p2*(q1*q2))
def iT:Int:=iN a1 p1 b1 q1 a2 p2 b2 q2*(r1*r2)+(c1*r2-c2*r1)*iD p1 q1 p2 q2
def iE:Int:=a1*p3-a3*p1
def iG:Int:=iE a1 p1 a3 p3*iE a1 p1 a3 p3*((q1*q3)*(q1*q3))+iE b1 q1 b3 q3*iE b1 q1 b3 q3*((p1*p3)*(p1*p3))
def iH:Int:=iE a1 p1 a3 p3*iU a1 p1 a2 p2*((q1*q1)*(q2*q3))+iE b1 q1 b3 q3*iU b1 q1 b2 q2*((p1*p1)*(p2*p3))
def iSq:Int:=((p1*q1)*(p3*q3))*((p1*q1)*(p3*q3))
def iA:Int:=iG a1 p1 b1 q1 a3 p3 b3 q3*iN a1 p1 b1 q1 a2 p2 b2 q2*(r1*r2*r3)*(p2*q2)+iT a1 p1 b1 q1 c1 r1 a2 p2 b2 q2 c2 r2*iH a1 p1 b1 q1 a2 p2 b2 q2 a3 p3 b3 q3*r3*(p3*q3)
 + c1*iN a1 p1 b1 q1 a2 p2 b2 q2*(r2*r3)*iSq p1 q1 p3 q3*(p2*q2)-c3*iN a1 p1 b1 q1 a2 p2 b2 q2*(r1*r2)*iSq p1 q1 p3 q3*(p2*q2)
def iM:Int:=iN a1 p1 b1 q1 a2 p2 b2 q2*(r1*r2*r3)*iSq p1 q1 p3 q3*(p2*q2)
def iK:Int:=2*(iE b1 q1 b3 q3*iU a1 p1 a2 p2*(p3*q2)-iE a1 p1 a3 p3*iU b1 q1 b2 q2*(q3*p2))
def iQ:Int:=(p1*p2*p3)*(q1*q2*q3)
def iCn:Int:=4*(c1*iD p1 q1 p2 q2*iN a1 p1 b1 q1 a2 p2 b2 q2*r1*(r2*r2))-iT a1 p1 b1 q1 c1 r1 a2 p2 b2 q2 c2 r2*iT a1 p1 b1 q1 c1 r1 a2 p2 b2 q2 c2 r2
def iCd:Int:=4*(iN a1 p1 b1 q1 a2 p2 b2 q2*iN a1 p1 b1 q1 a2 p2 b2 q2)*((r1*r2)*(r1*r2))
end
section
variable {a1 p1 b1 q1 c1 r1 a2 p2 b2 q2 c2 r2 a3 p3 b3 q3 c3 r3:Int} {hx1 hy1 hs1 hx2 hy2 hs2 hx3 hy3 hs3 vx1 vy1 vs1 vx2 vy2 vs2 vx3 vy3 vs3:Nat}
theorem bU(h1:Bd 1 hx1 a1)(h2:Bd 1 hx1 p1)(h3:Bd 1 hx2 a2)(h4:Bd 1 hx2 p2):Bd 2 (hx1+hx2) (iU a1 p1 a2 p2):=
 ((h3.mul h2).mono (Nat.le_refl _) (by omega)).sub (h1.mul h4)
theorem bE(h1:Bd 1 hx1 a1)(h2:Bd 1 hx1 p1)(h3:Bd 1 hx3 a3)(h4:Bd 1 hx3 p3):Bd 2 (hx1+hx3) (iE a1 p1 a3 p3):=
 (h1.mul h4).sub ((h3.mul h2).mono (Nat.le_refl _) (by omega))
theorem bN(x1:Bd 1 hx1 a1)(x1':Bd 1 hx1 p1)(y1:Bd 1 hy1 b1)(y1':Bd 1 hy1 q1)(x2:Bd 1 hx2 a2)(x2':Bd 1 hx2 p2)(y2:Bd 1 hy2 b2)(y2':Bd 1 hy2 q2) :
  Bd 8 (2*(hx1+hx2+hy1+hy2)) (iN a1 p1 b1 q1 a2 p2 b2 q2):=by
 have u:=bU x1 x1' x2 x2'
 have v:=bU y1 y1' y2 y2'
 have qq:=y1'.mul y2'
 have pp:=x1'.mul x2'
 exact(((u.mul u).mul (qq.mul qq)).mono (C':=4) (by omega) (by omega)).add (((v.mul v).mul (pp.mul pp)).mono (C':=4) (by omega) (by omega))
theorem bD(x1':Bd 1 hx1 p1)(y1':Bd 1 hy1 q1)(x2':Bd 1 hx2 p2)(y2':Bd 1 hy2 q2):Bd 1 (2*(hx1+hx2+hy1+hy2)) (iD p1 q1 p2 q2):=by
 have z:=(x1'.mul x2').mul (y1'.mul y2')
 exact(z.mul z).mono (by omega) (by omega)
theorem bT(x1:Bd 1 hx1 a1)(x1':Bd 1 hx1 p1)(y1:Bd 1 hy1 b1)(y1':Bd 1 hy1 q1)(x2:Bd 1 hx2 a2)(x2':Bd 1 hx2 p2)(y2:Bd 1 hy2 b2)(y2':Bd 1 hy2 q2)
  (s1:Bd 1 hs1 c1) (s1':Bd 1 hs1 r1) (s2:Bd 1 hs2 c2) (s2':Bd 1 hs2 r2):Bd 10 (2*(hx1+hx2+hy1+hy2)+hs1+hs2) (iT a1 p1 b1 q1 c1 r1 a2 p2 b2 q2 c2 r2):=by
 have n:=bN x1 x1' y1 y1' x2 x2' y2 y2'
 have d:=bD x1' y1' x2' y2'
 have s:=(s1.mul s2').sub ((s2.mul s1').mono (Nat.le_refl _) (by omega))
 exact((n.mul (s1'.mul s2')).mono (C':=8) (by omega) (by omega)).add ((s.mul d).mono (C':=2) (by omega) (by omega))
theorem bG(x1:Bd 1 hx1 a1)(x1':Bd 1 hx1 p1)(y1:Bd 1 hy1 b1)(y1':Bd 1 hy1 q1)(x3:Bd 1 hx3 a3)(x3':Bd 1 hx3 p3)(y3:Bd 1 hy3 b3)(y3':Bd 1 hy3 q3) :
  Bd 8 (2*(hx1+hx3+hy1+hy3)) (iG a1 p1 b1 q1 a3 p3 b3 q3):=by
 have u:=bE x1 x1' x3 x3'
 have v:=bE y1 y1' y3 y3'
 have qq:=y1'.mul y3'
 have pp:=x1'.mul x3'
 exact(((u.mul u).mul (qq.mul qq)).mono (C':=4) (by omega) (by omega)).add (((v.mul v).mul (pp.mul pp)).mono (C':=4) (by omega) (by omega))
theorem bH(x1:Bd 1 hx1 a1)(x1':Bd 1 hx1 p1)(y1:Bd 1 hy1 b1)(y1':Bd 1 hy1 q1)(x2:Bd 1 hx2 a2)(x2':Bd 1 hx2 p2)(y2:Bd 1 hy2 b2)(y2':Bd 1 hy2 q2)
  (x3:Bd 1 hx3 a3) (x3':Bd 1 hx3 p3) (y3:Bd 1 hy3 b3) (y3':Bd 1 hy3 q3):Bd 8 (2*hx1+hx2+hx3+2*hy1+hy2+hy3) (iH a1 p1 b1 q1 a2 p2 b2 q2 a3 p3 b3 q3):=by
 have u:=bU x1 x1' x2 x2'
 have v:=bU y1 y1' y2 y2'
 have e:=bE x1 x1' x3 x3'
 have f:=bE y1 y1' y3 y3'
 exact(((e.mul u).mul ((y1'.mul y1').mul (y2'.mul y3'))).mono (C':=4) (by omega) (by omega)).add (((f.mul v).mul ((x1'.mul x1').mul (x2'.mul x3'))).mono (C':=4) (by omega) (by omega))
theorem bSq(x1':Bd 1 hx1 p1)(y1':Bd 1 hy1 q1)(x3':Bd 1 hx3 p3)(y3':Bd 1 hy3 q3):Bd 1 (2*(hx1+hx3+hy1+hy3)) (iSq p1 q1 p3 q3):=by
 have z:=(x1'.mul y1').mul (x3'.mul y3')
 exact(z.mul z).mono (by omega) (by omega)
theorem bA(x1:Bd 1 hx1 a1)(x1':Bd 1 hx1 p1)(y1:Bd 1 hy1 b1)(y1':Bd 1 hy1 q1)(x2:Bd 1 hx2 a2)(x2':Bd 1 hx2 p2)(y2:Bd 1 hy2 b2)(y2':Bd 1 hy2 q2)
  (x3:Bd 1 hx3 a3) (x3':Bd 1 hx3 p3) (y3:Bd 1 hy3 b3) (y3':Bd 1 hy3 q3) (s1:Bd 1 hs1 c1) (s1':Bd 1 hs1 r1) (s2:Bd 1 hs2 c2) (s2':Bd 1 hs2 r2) (s3:Bd 1 hs3 c3) (s3':Bd 1 hs3 r3) :
  Bd 160 (4*hx1+3*hx2+2*hx3+4*hy1+3*hy2+2*hy3+hs1+hs2+hs3) (iA a1 p1 b1 q1 c1 r1 a2 p2 b2 q2 c2 r2 a3 p3 b3 q3 c3 r3):=by
 have g:=bG x1 x1' y1 y1' x3 x3' y3 y3'
 have n:=bN x1 x1' y1 y1' x2 x2' y2 y2'
 have t:=bT x1 x1' y1 y1' x2 x2' y2 y2' s1 s1' s2 s2'
 have h:=bH x1 x1' y1 y1' x2 x2' y2 y2' x3 x3' y3 y3'
 have sq:=bSq x1' y1' x3' y3'
 have k1:=(((g.mul n).mul ((s1'.mul s2').mul s3')).mul (x2'.mul y2')).mono (C':=64) (e':=4*hx1+3*hx2+2*hx3+4*hy1+3*hy2+2*hy3+hs1+hs2+hs3) (by omega) (by omega)
 have k2:=(((t.mul h).mul s3').mul (x3'.mul y3')).mono (C':=80) (e':=4*hx1+3*hx2+2*hx3+4*hy1+3*hy2+2*hy3+hs1+hs2+hs3) (by omega) (by omega)
 have k3:=((((s1.mul n).mul (s2'.mul s3')).mul sq).mul (x2'.mul y2')).mono (C':=8) (e':=4*hx1+3*hx2+2*hx3+4*hy1+3*hy2+2*hy3+hs1+hs2+hs3) (by omega) (by omega)
 have k4:=((((s3.mul n).mul (s1'.mul s2')).mul sq).mul (x2'.mul y2')).mono (C':=8) (e':=4*hx1+3*hx2+2*hx3+4*hy1+3*hy2+2*hy3+hs1+hs2+hs3) (by omega) (by omega)
 exact((k1.add k2).add k3).sub k4
theorem bM(x1:Bd 1 hx1 a1)(x1':Bd 1 hx1 p1)(y1:Bd 1 hy1 b1)(y1':Bd 1 hy1 q1)(x2:Bd 1 hx2 a2)(x2':Bd 1 hx2 p2)(y2:Bd 1 hy2 b2)(y2':Bd 1 hy2 q2)
  (wx1:Bd 1 vx1 p1) (wy1:Bd 1 vy1 q1) (wx2:Bd 1 vx2 p2) (wy2:Bd 1 vy2 q2) (wx3:Bd 1 vx3 p3) (wy3:Bd 1 vy3 q3) (ws1:Bd 1 vs1 r1) (ws2:Bd 1 vs2 r2) (ws3:Bd 1 vs3 r3) :
  Bd 8 (2*(hx1+hx2+hy1+hy2)+(vs1+vs2+vs3)+2*(vx1+vx3+vy1+vy3)+(vx2+vy2)) (iM a1 p1 b1 q1 r1 a2 p2 b2 q2 r2 p3 q3 r3):=by
 have n:=bN x1 x1' y1 y1' x2 x2' y2 y2'
 have sq:=bSq wx1 wy1 wx3 wy3
 exact(((n.mul ((ws1.mul ws2).mul ws3)).mul sq).mul (wx2.mul wy2)).mono (by omega) (by omega)
theorem bK(x1:Bd 1 hx1 a1)(x1':Bd 1 hx1 p1)(y1:Bd 1 hy1 b1)(y1':Bd 1 hy1 q1)(x2:Bd 1 hx2 a2)(x2':Bd 1 hx2 p2)(y2:Bd 1 hy2 b2)(y2':Bd 1 hy2 q2)
  (x3:Bd 1 hx3 a3) (x3':Bd 1 hx3 p3) (y3:Bd 1 hy3 b3) (y3':Bd 1 hy3 q3):Bd 16 (hx1+hx2+hx3+hy1+hy2+hy3) (iK a1 p1 b1 q1 a2 p2 b2 q2 a3 p3 b3 q3):=by
 have u:=bU x1 x1' x2 x2'
 have v:=bU y1 y1' y2 y2'
 have e:=bE x1 x1' x3 x3'
 have f:=bE y1 y1' y3 y3'
 have two:Bd 2 0 2:=by unfold Bd;decide
 have k1:=((f.mul u).mul (x3'.mul y2')).mono (C':=4) (e':=hx1+hx2+hx3+hy1+hy2+hy3) (by omega) (by omega)
 have k2:=((e.mul v).mul (y3'.mul x2')).mono (C':=4) (e':=hx1+hx2+hx3+hy1+hy2+hy3) (by omega) (by omega)
 exact(two.mul (k1.sub k2)).mono (by omega) (by omega)
theorem bQ(wx1:Bd 1 vx1 p1)(wy1:Bd 1 vy1 q1)(wx2:Bd 1 vx2 p2)(wy2:Bd 1 vy2 q2)(wx3:Bd 1 vx3 p3)(wy3:Bd 1 vy3 q3):Bd 1 (vx1+vx2+vx3+(vy1+vy2+vy3)) (iQ p1 q1 p2 q2 p3 q3):=
 (((wx1.mul wx2).mul wx3).mul ((wy1.mul wy2).mul wy3)).mono (by omega) (by omega)
theorem bCn(x1:Bd 1 hx1 a1)(x1':Bd 1 hx1 p1)(y1:Bd 1 hy1 b1)(y1':Bd 1 hy1 q1)(x2:Bd 1 hx2 a2)(x2':Bd 1 hx2 p2)(y2:Bd 1 hy2 b2)(y2':Bd 1 hy2 q2)
  (s1:Bd 1 hs1 c1) (s1':Bd 1 hs1 r1) (s2:Bd 1 hs2 c2) (s2':Bd 1 hs2 r2):Bd 132 (4*(hx1+hx2+hy1+hy2)+2*hs1+2*hs2) (iCn a1 p1 b1 q1 c1 r1 a2 p2 b2 q2 c2 r2):=by
 have n:=bN x1 x1' y1 y1' x2 x2' y2 y2'
 have d:=bD x1' y1' x2' y2'
 have t:=bT x1 x1' y1 y1' x2 x2' y2 y2' s1 s1' s2 s2'
 have four:Bd 4 0 4:=by unfold Bd;decide
 have k1:=(four.mul ((((s1.mul d).mul n).mul s1').mul (s2'.mul s2'))).mono (C':=32) (e':=4*(hx1+hx2+hy1+hy2)+2*hs1+2*hs2) (by omega) (by omega)
 have k2:=(t.mul t).mono (C':=100) (e':=4*(hx1+hx2+hy1+hy2)+2*hs1+2*hs2) (by omega) (by omega)
 exact k1.sub k2
theorem bCd(x1:Bd 1 hx1 a1)(x1':Bd 1 hx1 p1)(y1:Bd 1 hy1 b1)(y1':Bd 1 hy1 q1)(x2:Bd 1 hx2 a2)(x2':Bd 1 hx2 p2)(y2:Bd 1 hy2 b2)(y2':Bd 1 hy2 q2)
  (ws1:Bd 1 vs1 r1) (ws2:Bd 1 vs2 r2):Bd 256 (4*(hx1+hx2+hy1+hy2)+2*vs1+2*vs2) (iCd a1 p1 b1 q1 r1 a2 p2 b2 q2 r2):=by
 have n:=bN x1 x1' y1 y1' x2 x2' y2 y2'
 have four:Bd 4 0 4:=by unfold Bd;decide
 exact((four.mul (n.mul n)).mul ((ws1.mul ws2).mul (ws1.mul ws2))).mono (by omega) (by omega)
end
section
variable (a b d:DQ)
theorem qBR(q:Rat):(q.den:Rat)≠0:=by have:=q4H q;grind
theorem qAS(neg:Bool)(hf:(b.x-a.x)*(b.x-a.x)+(b.y-a.y)*(b.y-a.y)≠0) :
  kA d (qp a b neg)*((iM a.x.num a.x.den a.y.num a.y.den a.s.den b.x.num b.x.den b.y.num b.y.den b.s.den d.x.den d.y.den d.s.den:Int):Rat)=((iA a.x.num a.x.den a.y.num a.y.den a.s.num a.s.den b.x.num b.x.den b.y.num b.y.den b.s.num b.s.den d.x.num d.x.den d.y.num d.y.den d.s.num d.s.den:Int):Rat) ∧
  kB d (qp a b neg)*((iQ a.x.den a.y.den b.x.den b.y.den d.x.den d.y.den:Int):Rat)=(((if neg then -1 else 1)*iK a.x.num a.x.den a.y.num a.y.den b.x.num b.x.den b.y.num b.y.den d.x.num d.x.den d.y.num d.y.den:Int):Rat) ∧
  (qp a b neg).h*((iCd a.x.num a.x.den a.y.num a.y.den a.s.den b.x.num b.x.den b.y.num b.y.den b.s.den:Int):Rat)=((iCn a.x.num a.x.den a.y.num a.y.den a.s.num a.s.den b.x.num b.x.den b.y.num b.y.den b.s.num b.s.den:Int):Rat) ∧
  iN a.x.num a.x.den a.y.num a.y.den b.x.num b.x.den b.y.num b.y.den≠0:=by
 obtain⟨far,hfar⟩:∃far,far=(b.x-a.x)*(b.x-a.x)+(b.y-a.y)*(b.y-a.y):=⟨_,rfl⟩
 obtain⟨t,ht⟩:∃t,t=(far+a.s-b.s)/(2*far):=⟨_,rfl⟩
 obtain⟨h,hh⟩:∃h,h=a.s/far-t*t:=⟨_,rfl⟩
 rw[←hfar] at hf
 have h2f:2*far≠0:=by grind
 have ht':2*far*t=far+a.s-b.s:=by
  rw[ht,Rat.mul_comm];exact Rat.div_mul_cancel h2f
 have hh':far*h=a.s-far*(t*t):=by
  have:a.s/far*far=a.s:=Rat.div_mul_cancel hf
  rw[hh];grind
 have hc:qp a b neg=⟨a.x+t*(b.x-a.x),a.y+t*(b.y-a.y),if neg then b.y-a.y else 0-(b.y-a.y),if neg then 0-(b.x-a.x) else b.x-a.x,h⟩:=by
  rw[hh,ht,hfar];rfl
 rw[hc]
 have nx1:=qhs a.x
 have ny1:=qhs a.y
 have ns1:=qhs a.s
 have nx2:=qhs b.x
 have ny2:=qhs b.y
 have ns2:=qhs b.s
 have nx3:=qhs d.x
 have ny3:=qhs d.y
 have ns3:=qhs d.s
 have px1:=qBR a.x
 have py1:=qBR a.y
 have px2:=qBR b.x
 have py2:=qBR b.y
 obtain⟨x1,y1,s1⟩:=a
 obtain⟨x2,y2,s2⟩:=b
 obtain⟨x3,y3,s3⟩:=d
 simp only at *
 have hU:((iU x1.num x1.den x2.num x2.den:Int):Rat)=(x2-x1)*((x1.den:Rat)*x2.den):=by
  unfold iU;simp only[Rat.intCast_sub,Rat.intCast_mul,Rat.intCast_natCast,nx1,nx2];grind
 have hV:((iU y1.num y1.den y2.num y2.den:Int):Rat)=(y2-y1)*((y1.den:Rat)*y2.den):=by
  unfold iU;simp only[Rat.intCast_sub,Rat.intCast_mul,Rat.intCast_natCast,ny1,ny2];grind
 have hE:((iE x1.num x1.den x3.num x3.den:Int):Rat)=(x1-x3)*((x1.den:Rat)*x3.den):=by
  unfold iE;simp only[Rat.intCast_sub,Rat.intCast_mul,Rat.intCast_natCast,nx1,nx3];grind
 have hF:((iE y1.num y1.den y3.num y3.den:Int):Rat)=(y1-y3)*((y1.den:Rat)*y3.den):=by
  unfold iE;simp only[Rat.intCast_sub,Rat.intCast_mul,Rat.intCast_natCast,ny1,ny3];grind
 have hD:((iD x1.den y1.den x2.den y2.den:Int):Rat)=((x1.den:Rat)*x2.den*(y1.den*y2.den))*((x1.den:Rat)*x2.den*(y1.den*y2.den)):=by
  unfold iD;simp only[Rat.intCast_mul,Rat.intCast_natCast]
 have hN:((iN x1.num x1.den y1.num y1.den x2.num x2.den y2.num y2.den:Int):Rat)=far*(((x1.den:Rat)*x2.den*(y1.den*y2.den))*((x1.den:Rat)*x2.den*(y1.den*y2.den))):=by
  unfold iN;simp only[Rat.intCast_add,Rat.intCast_mul,Rat.intCast_natCast,hU,hV,hfar];grind
 have hN0:iN x1.num x1.den y1.num y1.den x2.num x2.den y2.num y2.den≠0:=by
  intro e
  rw[e] at hN
  have h1:(x1.den:Rat)*x2.den*(y1.den*y2.den)≠0:=by
   have:=Rat.mul_pos (Rat.mul_pos (q4H x1) (q4H x2)) (Rat.mul_pos (q4H y1) (q4H y2))
   grind
  have h2:far*(((x1.den:Rat)*x2.den*(y1.den*y2.den))*((x1.den:Rat)*x2.den*(y1.den*y2.den)))=0:=by rw[←hN];simp
  rcases Rat.mul_eq_zero.1 h2 with h3|h3
  ·exact hf h3
  ·rcases Rat.mul_eq_zero.1 h3 with h4|h4<;>exact h1 h4
 have hT:((iT x1.num x1.den y1.num y1.den s1.num s1.den x2.num x2.den y2.num y2.den s2.num s2.den:Int):Rat)=2*t*far*(((x1.den:Rat)*x2.den*(y1.den*y2.den))*((x1.den:Rat)*x2.den*(y1.den*y2.den)))*((s1.den:Rat)*s2.den):=by
  unfold iT;simp only[Rat.intCast_add,Rat.intCast_sub,Rat.intCast_mul,Rat.intCast_natCast,hN,hD,ns1,ns2]
  generalize ((x1.den:Rat)*x2.den*(y1.den*y2.den))*((x1.den:Rat)*x2.den*(y1.den*y2.den))=D2
  have:2*t*far*D2*((s1.den:Rat)*s2.den)=(2*far*t)*(D2*((s1.den:Rat)*s2.den)):=by grind
  rw[this,ht'];grind
 have hG:((iG x1.num x1.den y1.num y1.den x3.num x3.den y3.num y3.den:Int):Rat)=((x1-x3)*(x1-x3)+(y1-y3)*(y1-y3))*(((x1.den:Rat)*y1.den*(x3.den*y3.den))*((x1.den:Rat)*y1.den*(x3.den*y3.den))):=by
  unfold iG;simp only[Rat.intCast_add,Rat.intCast_mul,Rat.intCast_natCast,hE,hF];grind
 have hH:((iH x1.num x1.den y1.num y1.den x2.num x2.den y2.num y2.den x3.num x3.den y3.num y3.den:Int):Rat)=((x1-x3)*(x2-x1)+(y1-y3)*(y2-y1))*(((x1.den:Rat)*x1.den*(x2.den*x3.den))*((y1.den:Rat)*y1.den*(y2.den*y3.den))):=by
  unfold iH;simp only[Rat.intCast_add,Rat.intCast_mul,Rat.intCast_natCast,hE,hF,hU,hV];grind
 have hSq:((iSq x1.den y1.den x3.den y3.den:Int):Rat)=((x1.den:Rat)*y1.den*(x3.den*y3.den))*((x1.den:Rat)*y1.den*(x3.den*y3.den)):=by
  unfold iSq;simp only[Rat.intCast_mul,Rat.intCast_natCast]
 refine⟨?_,?_,?_,hN0⟩
 ·unfold iM iA
  simp only[Rat.intCast_add,Rat.intCast_sub,Rat.intCast_mul,Rat.intCast_natCast,hN,hT,hG,hH,hSq,ns1,ns3]
  have hA:kA ⟨x3,y3,s3⟩ ⟨x1+t*(x2-x1),y1+t*(y2-y1),if neg then y2-y1 else 0-(y2-y1),if neg then 0-(x2-x1) else x2-x1,h⟩=(x1-x3)*(x1-x3)+(y1-y3)*(y1-y3)+2*t*((x1-x3)*(x2-x1)+(y1-y3)*(y2-y1))+s1-s3:=by
   have e1:kA ⟨x3,y3,s3⟩ ⟨x1+t*(x2-x1),y1+t*(y2-y1),if neg then y2-y1 else 0-(y2-y1),if neg then 0-(x2-x1) else x2-x1,h⟩=(x1-x3)*(x1-x3)+(y1-y3)*(y1-y3)+2*t*((x1-x3)*(x2-x1)+(y1-y3)*(y2-y1))+far*(t*t)+far*h-s3:=by
    unfold kA
    rw[hfar]
    cases neg
    ·simp only[Bool.false_eq_true,if_false];grind
    ·simp only[if_true];grind
   rw[e1,hh'];grind
  rw[hA]
  generalize (x1-x3)*(x1-x3)+(y1-y3)*(y1-y3)=e2
  generalize (x1-x3)*(x2-x1)+(y1-y3)*(y2-y1)=ed
  generalize (x1.den:Rat)=P1
  generalize (x2.den:Rat)=P2
  generalize (x3.den:Rat)=P3
  generalize (y1.den:Rat)=Q1
  generalize (y2.den:Rat)=Q2
  generalize (y3.den:Rat)=Q3
  generalize (s1.den:Rat)=R1
  generalize (s2.den:Rat)=R2
  generalize (s3.den:Rat)=R3
  clear hU hV hE hF hD hN hN0 hT hG hH hSq nx1 nx2 nx3 ny1 ny2 ny3 ns1 ns2 ns3 px1 px2 py1 py2 hf h2f ht' hh' hc hfar
  grind
 ·unfold iQ iK kB
  simp only[Rat.intCast_sub,Rat.intCast_mul,Rat.intCast_natCast,hE,hF,hU,hV]
  cases neg
  ·simp only[Bool.false_eq_true,if_false]
   simp
   grind
  ·simp only[if_true]
   simp
   grind
 ·unfold iCd iCn
  simp only[Rat.intCast_sub,Rat.intCast_mul,Rat.intCast_natCast,hN,hT,hD,ns1]
  generalize ((x1.den:Rat)*x2.den*(y1.den*y2.den))*((x1.den:Rat)*x2.den*(y1.den*y2.den))=D2
  generalize (s1.den:Rat)=R1
  generalize (s2.den:Rat)=R2
  have e:s1=far*h+far*(t*t):=by rw[hh'];grind
  have f4:((4:Int):Rat)=4:=by simp
  rw[f4,e]
  clear hU hV hE hF hD hN hN0 hT hG hH hSq nx1 nx2 nx3 ny1 ny2 ny3 ns1 ns2 ns3 px1 px2 py1 py2 hf h2f ht' hh' hc hfar
  grind
end
end Go.Eng

namespace Go.Eng
theorem qxa{a b c:Rat}(hc:0≤c):qhd a b c≤0↔(a≤0∧(b≤0∨c=0∨b*b*c≤a*a))∨(0<a∧b<0∧a*a≤b*b*c):=by
 have hs:=qjD (a*a-b*b*c)
 have hs':(0≤sgq (a*a-b*b*c))=(b*b*c≤a*a):=by
  have h1:=qEs (a*a-b*b*c)
  have h2:=qjD (-(a*a-b*b*c))
  refine propext ⟨fun h=>?_,fun h=>?_⟩
  ·have:=h2▸(show sgq (-(a*a-b*b*c))≤0 by omega);grind
  ·have:sgq (-(a*a-b*b*c))≤0:=h2▸(show -(a*a-b*b*c)≤0 by grind)
   omega
 have bd:=qiR (a*a-b*b*c)
 have pb:0<b→0<c→0<b*b*c:=fun h1 h2=>Rat.mul_pos (Rat.mul_pos h1 h1) h2
 have pa:0<a→0<a*a:=fun h1=>Rat.mul_pos h1 h1
 have za:a=0→a*a=0:=fun h=>by rw[h];grind
 have zc:c=0→b*b*c=0:=fun h=>by rw[h];grind
 unfold qhd
 generalize hz:sgq (a*a-b*b*c)=z at *
 rcases q6H a with⟨ha,ea⟩|⟨ha,ea⟩|⟨ha,ea⟩<;>rcases q6H b with⟨hb,eb⟩|⟨hb,eb⟩|⟨hb,eb⟩<;>rcases q6H c with⟨hc',ec⟩|⟨hc',ec⟩|⟨hc',ec⟩<;>rw[ea,eb,ec]
 all_goals try (exfalso;grind)
 all_goals simp only[
  
  
  show (-1:Int)*0=0 by decide,show (-1:Int)*1=-1 by decide,show (0:Int)*0=0 by decide,show (0:Int)*1=0 by decide,show (1:Int)*0=0 by decide,show (1:Int)*1=1 by decide,Int.one_mul]
 all_goals simp
 all_goals first|(exfalso;grind)|skip
 all_goals grind
theorem qti{a b:Rat}(h0:0≤a)(h:a≤b):a*a≤b*b:=by
 have:=Rat.mul_nonneg (show 0≤b-a by grind) (show 0≤b+a by grind)
 grind
theorem qBb{a b:Rat}(hb:0≤b)(h:a*a≤b*b):a≤b:=by
 apply Rat.not_lt.1
 intro hn
 have:=Rat.mul_pos (show 0<a-b by grind) (show 0<a+b by grind)
 grind
theorem qCo{a b c T0 T1:Rat}(h0:0≤T0)(h1:T0≤T1)(k0:T0*T0≤c)(k1:c≤T1*T1)(e0:a+b*T0≤0)(e1:a+b*T1≤0):qhd a b c≤0:=by
 have hc:0≤c:=by have:=Rat.mul_nonneg h0 h0;grind
 rw[qxa hc]
 by_cases hb:b≤0
 ·by_cases ha:a≤0
  ·exact .inl ⟨ha,.inl hb⟩
  ·have hb':b<0:=by
    apply Rat.not_le.1;intro hn
    have h:b=0:=by grind
    rw[h] at e0;grind
   refine .inr ⟨by grind,hb',?_⟩
   have h1:=qti (a:=a) (b:=(-b)*T0) (by grind) (by grind)
   have h2:=Rat.mul_le_mul_of_nonneg_left k0 (show 0≤b*b by have:=Rat.mul_nonneg (show 0≤-b by grind) (show 0≤-b by grind);grind)
   grind
 ·have hb':0≤b:=by grind
  have h3:=Rat.mul_nonneg hb' h0
  refine .inl ⟨by grind,.inr (.inr ?_)⟩
  have h3:=Rat.mul_nonneg hb' (show 0≤T1 by grind)
  have h1:=qti (a:=b*T1) (b:=-a) h3 (by grind)
  have h2:=Rat.mul_le_mul_of_nonneg_left k1 (Rat.mul_nonneg hb' hb')
  grind
theorem qDY{a b c:Rat}(hc:0≤c)(h:qhd a b c≤0):∃T,0≤T∧T*T≤c∧∀S,T≤S→S*S≤c→a+b*S≤0:=by
 rw[qxa hc] at h
 by_cases hb:b<0
 ·by_cases ha:a≤0
  ·refine⟨0,by grind,by grind,fun S h1 h2=>?_⟩
   have:=Rat.mul_nonneg (show 0≤-b by grind) h1
   grind
  ·rcases h with h|⟨h1,h2,h3⟩
   ·exact absurd h.1 ha
   ·have hq:a/(-b)*(-b)=a:=Rat.div_mul_cancel (by grind)
    have hq0:0≤a/(-b):=by
     apply Rat.not_lt.1;intro hn
     have:=Rat.mul_pos (show 0 < -(a/(-b)) by grind) (show 0 < -b by grind)
     grind
    generalize a/(-b)=T at *
    refine⟨T,hq0,?_,fun S hS _=>?_⟩
    ·apply Rat.not_lt.1;intro hn
     have:=Rat.mul_pos (show 0<T*T-c by grind) (Rat.mul_pos (show 0 < -b by grind) (show 0 < -b by grind))
     have e:a*a=T*T*(b*b):=by rw[←hq];grind
     rw[e] at h3;clear e hq;grind
    ·have:=Rat.mul_nonneg (show 0≤-b by grind) (show 0≤S-T by grind)
     grind
 ·refine⟨0,by grind,by grind,fun S h1 h2=>?_⟩
  rcases h with⟨h3,h4⟩|⟨_,h5,_⟩
  ·rcases h4 with h4|h4|h4
   ·have:b=0:=by grind
    rw[this];grind
   ·have:S*S≤0:=by grind
    have h6:=qBb (a:=S) (b:=0) (by grind) (by grind)
    have:S=0:=by grind
    rw[this];grind
   ·have k1:=Rat.mul_le_mul_of_nonneg_left h2 (Rat.mul_nonneg (show 0≤b by grind) (show 0≤b by grind))
    have:=qBb (a:=b*S) (b:=-a) (by grind) (by grind)
    grind
  ·exact absurd h5 hb
def pw(d:DQ)(x y:Rat):Rat:=(x-d.x)*(x-d.x)+(y-d.y)*(y-d.y)-d.s
def qki(l:List DQ):Prop:=∃x y:Rat,∀d∈l,pw d x y≤0
theorem qki.mono{l l':List DQ}(h:qki l)(hs:∀d∈l',d∈l):qki l':=by
 obtain⟨x,y,h⟩:=h
 exact⟨x,y,fun d hd=>h d (hs d hd)⟩
theorem qDj(d:DQ)(p:SQ)(T:Rat):pw d (p.fx+T*p.ax) (p.fy+T*p.ay)=kA d p+kB d p*T+(p.ax*p.ax+p.ay*p.ay)*(T*T-p.h):=by
 unfold pw kA kB;grind
theorem qa5(a:Rat):0≤a*a:=by
 rcases Rat.le_total (a:=0) (b:=a) with h|h
 ·exact Rat.mul_nonneg h h
 ·have:=Rat.mul_nonneg (show 0≤-a by grind) (show 0≤-a by grind);grind
theorem qvg(p:SQ)(hn:0≤p.h):∀l:List DQ,(∀d∈l,u6 d p)→∃T,0≤T∧T*T≤p.h∧∀d∈l,∀S,T≤S→S*S≤p.h→kA d p+kB d p*S≤0
 | [],_=>⟨0,by grind,by grind,fun d hd=>by cases hd⟩
 | a::l,h=>by
  obtain⟨T,h1,h2,h3⟩:=qvg p hn l fun d hd=>h d (List.mem_cons_of_mem _ hd)
  obtain⟨T',k1,k2,k3⟩:=qDY hn (h a List.mem_cons_self)
  rcases Rat.le_total (a:=T) (b:=T') with hT|hT
  ·refine⟨T',k1,k2,fun d hd S hS hS2=>?_⟩
   rcases List.mem_cons.1 hd with rfl|hd
   ·exact k3 S hS hS2
   ·exact h3 d hd S (Rat.le_trans hT hS) hS2
  ·refine⟨T,h1,h2,fun d hd S hS hS2=>?_⟩
   rcases List.mem_cons.1 hd with rfl|hd
   ·exact k3 S (Rat.le_trans hT hS) hS2
   ·exact h3 d hd S hS hS2
theorem qx4{l:List DQ}{p:SQ}(hn:0≤p.h)(h:∀d∈l,u6 d p):qki l:=by
 obtain⟨T,h1,h2,h3⟩:=qvg p hn l h
 refine⟨p.fx+T*p.ax,p.fy+T*p.ay,fun d hd=>?_⟩
 rw[qDj]
 have k1:=h3 d hd T (Rat.le_refl) h2
 have k2:=Rat.mul_nonneg (show 0≤p.ax*p.ax+p.ay*p.ay by have:=qa5 p.ax;have:=qa5 p.ay;grind) (show 0≤p.h-T*T by grind)
 grind
theorem qJs{A B C D p q r s:Rat}(_:A≤0)(_:B≤0)(_:C≤0)(_:D≤0)(_:0≤p)(_:0≤q)(_:0≤r)(_:0≤s):A+B+C+D-(p+q+r+s)≤0:=by grind
theorem qGC{x1 y1 x2 y2 x3 y3 x4 y4 m1 m2 m3 m4 X Y:Rat}(h1:0≤m1)(h2:0≤m2)(h3:0≤m3)(h4:0≤m4)(hM:0<m1+m2+m3+m4)
  (hX:X*(m1+m2+m3+m4)=m1*x1+m2*x2+m3*x3+m4*x4) (hY:Y*(m1+m2+m3+m4)=m1*y1+m2*y2+m3*y3+m4*y4) (d:DQ)
  (k1:m1=0∨pw d x1 y1≤0) (k2:m2=0∨pw d x2 y2≤0) (k3:m3=0∨pw d x3 y3≤0) (k4:m4=0∨pw d x4 y4≤0):pw d X Y≤0:=by
 have aux:∀{m a:Rat},0≤m→(m=0∨a≤0)→m*a≤0:=fun {m a} hm h=>by
  rcases h with rfl|h
  ·grind
  ·have:=Rat.mul_nonneg hm (show 0≤-a by grind);grind
 have e1:=aux h1 k1
 have e2:=aux h2 k2
 have e3:=aux h3 k3
 have e4:=aux h4 k4
 have s1:=Rat.mul_nonneg h1 (show 0≤(x1-X)*(x1-X)+(y1-Y)*(y1-Y) by have:=qa5 (x1-X);have:=qa5 (y1-Y);grind)
 have s2:=Rat.mul_nonneg h2 (show 0≤(x2-X)*(x2-X)+(y2-Y)*(y2-Y) by have:=qa5 (x2-X);have:=qa5 (y2-Y);grind)
 have s3:=Rat.mul_nonneg h3 (show 0≤(x3-X)*(x3-X)+(y3-Y)*(y3-Y) by have:=qa5 (x3-X);have:=qa5 (y3-Y);grind)
 have s4:=Rat.mul_nonneg h4 (show 0≤(x4-X)*(x4-X)+(y4-Y)*(y4-Y) by have:=qa5 (x4-X);have:=qa5 (y4-Y);grind)
 have key:(m1+m2+m3+m4)*pw d X Y=(m1*pw d x1 y1+m2*pw d x2 y2+m3*pw d x3 y3+m4*pw d x4 y4)
   - (m1*((x1-X)*(x1-X)+(y1-Y)*(y1-Y))+m2*((x2-X)*(x2-X)+(y2-Y)*(y2-Y))+m3*((x3-X)*(x3-X)+(y3-Y)*(y3-Y))+m4*((x4-X)*(x4-X)+(y4-Y)*(y4-Y))):=by
  have eX:m1*(x1-X)+m2*(x2-X)+m3*(x3-X)+m4*(x4-X)=0:=by grind
  have eY:m1*(y1-Y)+m2*(y2-Y)+m3*(y3-Y)+m4*(y4-Y)=0:=by grind
  have key0:(m1+m2+m3+m4)*pw d X Y=(m1*pw d x1 y1+m2*pw d x2 y2+m3*pw d x3 y3+m4*pw d x4 y4)
   - (m1*((x1-X)*(x1-X)+(y1-Y)*(y1-Y))+m2*((x2-X)*(x2-X)+(y2-Y)*(y2-Y))+m3*((x3-X)*(x3-X)+(y3-Y)*(y3-Y))+m4*((x4-X)*(x4-X)+(y4-Y)*(y4-Y)))
   - 2*((X-d.x)*(m1*(x1-X)+m2*(x2-X)+m3*(x3-X)+m4*(x4-X))+(Y-d.y)*(m1*(y1-Y)+m2*(y2-Y)+m3*(y3-Y)+m4*(y4-Y))):=by
   unfold pw
   clear hX hY eX eY e1 e2 e3 e4 s1 s2 s3 s4 k1 k2 k3 k4 h1 h2 h3 h4 hM aux
   grind
  rw[key0,eX,eY];grind
 apply Rat.not_lt.1
 intro hn
 have hpos:=Rat.mul_pos hM hn
 rw[key] at hpos
 exact absurd (qJs e1 e2 e3 e4 s1 s2 s3 s4) (Rat.not_le.2 hpos)
theorem qrb(a:Rat):∃m n:Rat,0≤m∧0≤n∧a=m-n∧(m=0∨n=0):=by
 rcases Rat.le_total (a:=0) (b:=a) with h|h
 ·exact⟨a,0,h,by grind,by grind,.inr rfl⟩
 ·exact⟨0,-a,by grind,by grind,by grind,.inl rfl⟩
theorem qwh{x1 y1 x2 y2 x3 y3 x4 y4 t1 t2 t3 t4:Rat}(h0:t1+t2+t3+t4=0)(hx:t1*x1+t2*x2+t3*x3+t4*x4=0)(hy:t1*y1+t2*y2+t3*y3+t4*y4=0)
  (hn:¬(t1=0∧t2=0∧t3=0∧t4=0)):∃X Y,∀d:DQ,((pw d x2 y2≤0∧pw d x3 y3≤0∧pw d x4 y4≤0)∨(pw d x1 y1≤0∧pw d x3 y3≤0∧pw d x4 y4≤0)∨(pw d x1 y1≤0∧pw d x2 y2≤0∧pw d x4 y4≤0)∨(pw d x1 y1≤0∧pw d x2 y2≤0∧pw d x3 y3≤0))→pw d X Y≤0:=by
 obtain⟨m1,n1,a1,b1,rfl,c1⟩:=qrb t1
 obtain⟨m2,n2,a2,b2,rfl,c2⟩:=qrb t2
 obtain⟨m3,n3,a3,b3,rfl,c3⟩:=qrb t3
 obtain⟨m4,n4,a4,b4,rfl,c4⟩:=qrb t4
 have hM:0<m1+m2+m3+m4:=by
  apply Rat.not_le.1;intro hle
  exact hn ⟨by grind,by grind,by grind,by grind⟩
 have hN:0<n1+n2+n3+n4:=by grind
 have hM0:m1+m2+m3+m4≠0:=by grind
 refine⟨(m1*x1+m2*x2+m3*x3+m4*x4)/(m1+m2+m3+m4),(m1*y1+m2*y2+m3*y3+m4*y4)/(m1+m2+m3+m4),fun d hd=>?_⟩
 have eX:(m1*x1+m2*x2+m3*x3+m4*x4)/(m1+m2+m3+m4)*(m1+m2+m3+m4)=m1*x1+m2*x2+m3*x3+m4*x4:=Rat.div_mul_cancel hM0
 have eY:(m1*y1+m2*y2+m3*y3+m4*y4)/(m1+m2+m3+m4)*(m1+m2+m3+m4)=m1*y1+m2*y2+m3*y3+m4*y4:=Rat.div_mul_cancel hM0
 generalize (m1*x1+m2*x2+m3*x3+m4*x4)/(m1+m2+m3+m4)=X at *
 generalize (m1*y1+m2*y2+m3*y3+m4*y4)/(m1+m2+m3+m4)=Y at *
 have hS:n1+n2+n3+n4=m1+m2+m3+m4:=by grind
 have fX:X*(n1+n2+n3+n4)=n1*x1+n2*x2+n3*x3+n4*x4:=by rw[hS,eX];grind
 have fY:Y*(n1+n2+n3+n4)=n1*y1+n2*y2+n3*y3+n4*y4:=by rw[hS,eY];grind
 have P:=qGC a1 a2 a3 a4 hM eX eY d
 have Q:=qGC b1 b2 b3 b4 hN fX fY d
 rcases hd with⟨p2,p3,p4⟩|⟨p1,p3,p4⟩|⟨p1,p2,p4⟩|⟨p1,p2,p3⟩
 ·rcases c1 with c|c
  ·exact P (.inl c) (.inr p2) (.inr p3) (.inr p4)
  ·exact Q (.inl c) (.inr p2) (.inr p3) (.inr p4)
 ·rcases c2 with c|c
  ·exact P (.inr p1) (.inl c) (.inr p3) (.inr p4)
  ·exact Q (.inr p1) (.inl c) (.inr p3) (.inr p4)
 ·rcases c3 with c|c
  ·exact P (.inr p1) (.inr p2) (.inl c) (.inr p4)
  ·exact Q (.inr p1) (.inr p2) (.inl c) (.inr p4)
 ·rcases c4 with c|c
  ·exact P (.inr p1) (.inr p2) (.inr p3) (.inl c)
  ·exact Q (.inr p1) (.inr p2) (.inr p3) (.inl c)
def qze(x1 y1 x2 y2 x3 y3:Rat):Rat:=(x2-x1)*(y3-y1)-(x3-x1)*(y2-y1)
theorem qIZ(x1 y1 x2 y2 x3 y3 x4 y4:Rat):∃X Y,∀d:DQ,((pw d x2 y2≤0∧pw d x3 y3≤0∧pw d x4 y4≤0)∨(pw d x1 y1≤0∧pw d x3 y3≤0∧pw d x4 y4≤0)∨(pw d x1 y1≤0∧pw d x2 y2≤0∧pw d x4 y4≤0)∨(pw d x1 y1≤0∧pw d x2 y2≤0∧pw d x3 y3≤0))→pw d X Y≤0:=by
 by_cases h:qze x2 y2 x3 y3 x4 y4=0∧-qze x1 y1 x3 y3 x4 y4=0∧qze x1 y1 x2 y2 x4 y4=0∧-qze x1 y1 x2 y2 x3 y3=0
 ·by_cases e:x1=x2∧y1=y2
  ·exact qwh (t1:=1) (t2:=-1) (t3:=0) (t4:=0) (by grind) (by grind) (by grind) (by grind)
  ·have hA:(x2-x1)*(y3-y1)-(x3-x1)*(y2-y1)=0:=by have:=h.2.2.2;unfold qze at this;grind
   have hD:(x2-x1)*(x2-x1)+(y2-y1)*(y2-y1)≠0:=by
    intro h0
    have s1:=qa5 (x2-x1)
    have s2:=qa5 (y2-y1)
    have z1:(x2-x1)*(x2-x1)=0:=by grind
    have z2:(y2-y1)*(y2-y1)=0:=by grind
    rcases Rat.mul_eq_zero.1 z1 with h1|h1<;>rcases Rat.mul_eq_zero.1 z2 with h2|h2<;>exact e ⟨by grind,by grind⟩
   have hu:((x3-x1)*(x2-x1)+(y3-y1)*(y2-y1))/((x2-x1)*(x2-x1)+(y2-y1)*(y2-y1))*((x2-x1)*(x2-x1)+(y2-y1)*(y2-y1))=(x3-x1)*(x2-x1)+(y3-y1)*(y2-y1):=Rat.div_mul_cancel hD
   generalize ((x3-x1)*(x2-x1)+(y3-y1)*(y2-y1))/((x2-x1)*(x2-x1)+(y2-y1)*(y2-y1))=u at *
   have cancel:∀z:Rat,z*((x2-x1)*(x2-x1)+(y2-y1)*(y2-y1))=0→z=0:=fun z hz=>by
    rcases Rat.mul_eq_zero.1 hz with h|h
    ·exact h
    ·exact absurd h hD
   have kx:(1-u)*x1+u*x2-x3=0:=cancel _ (by clear h e hD cancel;grind)
   have ky:(1-u)*y1+u*y2-y3=0:=cancel _ (by clear h e hD cancel kx;grind)
   exact qwh (t1:=1-u) (t2:=u) (t3:=-1) (t4:=0) (by grind) (by grind) (by grind) (by grind)
 ·exact qwh (t1:=qze x2 y2 x3 y3 x4 y4) (t2:=-qze x1 y1 x3 y3 x4 y4) (t3:=qze x1 y1 x2 y2 x4 y4) (t4:=-qze x1 y1 x2 y2 x3 y3) (by unfold qze;grind) (by unfold qze;grind) (by unfold qze;grind) h
theorem qIM:∀(n:Nat) (l:List DQ),l.length≤n→(∀x∈l,∀y∈l,∀z∈l,qki [x,y,z])→qki l
 | _,[],_,_=>⟨0,0,fun d hd=>by cases hd⟩
 | _,[x],_,h=>(h x (by simp) x (by simp) x (by simp)).mono (by simp)
 | _,[x,y],_,h=>(h x (by simp) y (by simp) y (by simp)).mono (by simp)
 | _,[x,y,z],_,h=>(h x (by simp) y (by simp) z (by simp)).mono (by simp)
 | 0,a::b::c::d::r,hl,_=>by simp at hl
 | n+1,a::b::c::d::r,hl,h=>by
  simp only[List.length_cons] at hl
  have sub:∀l':List DQ,(∀x∈l',x∈a::b::c::d::r)→l'.length≤n→qki l':=fun l' hs hn=>
   qIM n l' hn fun x hx y hy z hz=>h x (hs x hx) y (hs y hy) z (hs z hz)
  obtain⟨x1,y1,p1⟩:=sub (b::c::d::r) (by intro x hx;simp at hx ⊢;grind) (by simp only[List.length_cons];omega)
  obtain⟨x2,y2,p2⟩:=sub (a::c::d::r) (by intro x hx;simp at hx ⊢;grind) (by simp only[List.length_cons];omega)
  obtain⟨x3,y3,p3⟩:=sub (a::b::d::r) (by intro x hx;simp at hx ⊢;grind) (by simp only[List.length_cons];omega)
  obtain⟨x4,y4,p4⟩:=sub (a::b::c::r) (by intro x hx;simp at hx ⊢;grind) (by simp only[List.length_cons];omega)
  obtain⟨X,Y,hX⟩:=qIZ x1 y1 x2 y2 x3 y3 x4 y4
  refine⟨X,Y,fun e he=>hX e ?_⟩
  simp only[List.mem_cons] at he
  rcases he with rfl|rfl|rfl|rfl|he
  ·exact .inl ⟨p2 _ (by simp),p3 _ (by simp),p4 _ (by simp)⟩
  ·exact .inr (.inl ⟨p1 _ (by simp),p3 _ (by simp),p4 _ (by simp)⟩)
  ·exact .inr (.inr (.inl ⟨p1 _ (by simp),p2 _ (by simp),p4 _ (by simp)⟩))
  ·exact .inr (.inr (.inr ⟨p1 _ (by simp),p2 _ (by simp),p3 _ (by simp)⟩))
  ·exact .inl ⟨p2 _ (by simp[he]),p3 _ (by simp[he]),p4 _ (by simp[he])⟩
end Go.Eng

namespace Go.Eng
theorem qxW{ι:Type}(f:ι→Rat):∀(L:List ι),L≠[]→∃a∈L,∀k∈L,f k≤f a
 | [],h=>absurd rfl h
 | [a],_=>⟨a,by simp,fun k hk=>by simp at hk;rw[hk];exact Rat.le_refl⟩
 | a::b::r,_=>by
  obtain⟨m,hm,h⟩:=qxW f (b::r) (by simp)
  rcases Rat.le_total (a:=f a) (b:=f m) with hle|hle
  ·refine⟨m,List.mem_cons_of_mem _ hm,fun k hk=>?_⟩
   rcases List.mem_cons.1 hk with rfl|hk
   ·exact hle
   ·exact h k hk
  ·refine⟨a,List.mem_cons_self,fun k hk=>?_⟩
   rcases List.mem_cons.1 hk with rfl|hk
   ·exact Rat.le_refl
   ·exact Rat.le_trans (h k hk) hle
theorem hit{ι:Type}(al be:ι→Rat):∀(L:List ι),(∀k∈L,al k≤0)→(∃k∈L,0<be k)→∃t,0≤t∧(∀k∈L,al k+be k*t≤0)∧∃b∈L,0<be b∧al b+be b*t=0
 | [],_,h=>by obtain⟨k,hk,_⟩:=h;cases hk
 | a::L,h0,h1=>by
  have hLn:∀k∈L,al k≤0:=fun k hk=>h0 k (List.mem_cons_of_mem _ hk)
  have ha0:=h0 a List.mem_cons_self
  by_cases ha:0<be a
  ·obtain⟨ta,hta⟩:∃ta,ta=-al a/be a:=⟨_,rfl⟩
   have eta:ta*be a=-al a:=by rw[hta];exact Rat.div_mul_cancel (by grind)
   have ta0:0≤ta:=by
    apply Rat.not_lt.1;intro hn
    have:=Rat.mul_pos (show 0 < -ta by grind) ha
    grind
   have own:al a+be a*ta=0:=by grind
   by_cases hL:∃k∈L,0<be k
   ·obtain⟨t,k1,k2,b,hb,k3,k4⟩:=hit al be L hLn hL
    rcases Rat.le_total (a:=t) (b:=ta) with hle|hle
    ·refine⟨t,k1,fun k hk=>?_,b,List.mem_cons_of_mem _ hb,k3,k4⟩
     rcases List.mem_cons.1 hk with rfl|hk
     ·have:=Rat.mul_nonneg (show 0≤be k by grind) (show 0≤ta-t by grind);grind
     ·exact k2 k hk
    ·refine⟨ta,ta0,fun k hk=>?_,a,List.mem_cons_self,ha,own⟩
     rcases List.mem_cons.1 hk with rfl|hk
     ·grind
     ·rcases Rat.le_total (a:=0) (b:=be k) with hb|hb
      ·have:=Rat.mul_nonneg hb (show 0≤t-ta by grind);have:=k2 k hk;grind
      ·have:=Rat.mul_nonneg (show 0≤-be k by grind) ta0;have:=hLn k hk;grind
   ·refine⟨ta,ta0,fun k hk=>?_,a,List.mem_cons_self,ha,own⟩
    rcases List.mem_cons.1 hk with rfl|hk
    ·grind
    ·have hb:be k≤0:=Rat.not_lt.1 fun hn=>hL ⟨k,hk,hn⟩
     have:=Rat.mul_nonneg (show 0≤-be k by grind) ta0;have:=hLn k hk;grind
  ·have hL:∃k∈L,0<be k:=by
    obtain⟨k,hk,h⟩:=h1
    rcases List.mem_cons.1 hk with rfl|hk
    ·exact absurd h ha
    ·exact⟨k,hk,h⟩
   obtain⟨t,k1,k2,b,hb,k3,k4⟩:=hit al be L hLn hL
   refine⟨t,k1,fun k hk=>?_,b,List.mem_cons_of_mem _ hb,k3,k4⟩
   rcases List.mem_cons.1 hk with rfl|hk
   ·have:=Rat.mul_nonneg (show 0≤-be k by grind) k1;grind
   ·exact k2 k hk
theorem qoL{a:Rat}(h:a*a≤0):a=0:=by
 have:=qa5 a
 rcases Rat.mul_eq_zero.1 (show a*a=0 by grind) with h|h<;>exact h
theorem qra{a b c d:Rat}(h:kv a b c d=0):a=c∧b=d:=by
 unfold kv at h
 have s1:=qa5 (a-c)
 have s2:=qa5 (b-d)
 have:=qoL (a:=a-c) (by grind)
 have:=qoL (a:=b-d) (by grind)
 exact⟨by grind,by grind⟩
theorem qDT(a b c d:Rat):0≤kv a b c d:=by
 unfold kv
 have s1:=qa5 (a-c)
 have s2:=qa5 (b-d)
 grind
theorem qHB{l:List DQ}{x y:Rat}(hl:l≠[])(hs:∀d∈l,0≤d.s)(h:∀d∈l,pw d x y≤0) :
  (∃a∈l,∀d∈l,pw d a.x a.y≤0)∨∃a∈l,∃b∈l,∃X Y,kv b.x b.y a.x a.y≠0∧pw b X Y=pw a X Y∧(∀d∈l,pw d X Y≤pw a X Y)∧pw a X Y≤0:=by
 obtain⟨a,ha,hmax⟩:=qxW (fun d=>pw d x y) l hl
 by_cases hc:∀d∈l,pw d a.x a.y≤0
 ·exact .inl ⟨a,ha,hc⟩
 ·have hex:∃k∈l,0<pw k a.x a.y:=by
   by_cases hn:∃k∈l,0<pw k a.x a.y
   ·exact hn
   ·exact absurd (fun d hd=>Rat.not_lt.1 fun h0=>hn ⟨d,hd,h0⟩) hc
  obtain⟨k0,hk0,hp⟩:=hex
  have hsa:=hs a ha
  have paa:pw a a.x a.y=-a.s:=by unfold pw;grind
  obtain⟨al,hal⟩:∃al:DQ→Rat,al=fun k=>pw k x y-pw a x y:=⟨_,rfl⟩
  obtain⟨be,hbe⟩:∃be:DQ→Rat,be=fun k=>pw k a.x a.y-pw a a.x a.y-(pw k x y-pw a x y):=⟨_,rfl⟩
  have al0:∀k∈l,al k≤0:=fun k hk=>by rw[hal];have:=hmax k hk;simp only at this ⊢;grind
  have be0:al k0+be k0>0:=by rw[hal,hbe];simp only;grind
  obtain⟨t,t0,ht,b,hb,hb1,hb2⟩:=hit al be l al0 ⟨k0,hk0,by have:=al0 k0 hk0;grind⟩
  have line:∀k,pw k (x+t*(a.x-x)) (y+t*(a.y-y))-pw a (x+t*(a.x-x)) (y+t*(a.y-y))=al k+be k*t:=fun k=>by
   rw[hal,hbe];simp only;unfold pw;grind
  have t1:t≤1:=by
   apply Rat.not_lt.1;intro hn
   have h1:=ht k0 hk0
   have h2:=al0 k0 hk0
   have:=Rat.mul_pos (show 0<be k0 by grind) (show 0<t-1 by grind)
   grind
  refine .inr ⟨a,ha,b,hb,x+t*(a.x-x),y+t*(a.y-y),fun hf=>?_,?_,fun d hd=>?_,?_⟩
  ·obtain⟨e1,e2⟩:=qra hf
   have:be b=0:=by rw[hbe];simp only;unfold pw;rw[e1,e2];grind
   grind
  ·have:=line b;grind
  ·have:=line d;have:=ht d hd;grind
  ·have h1:=h a ha
   have e:pw a (x+t*(a.x-x)) (y+t*(a.y-y))=(1-t)*(1-t)*((x-a.x)*(x-a.x)+(y-a.y)*(y-a.y))-a.s:=by unfold pw;grind
   have q:0≤(x-a.x)*(x-a.x)+(y-a.y)*(y-a.y):=by have:=qa5 (x-a.x);have:=qa5 (y-a.y);grind
   have m:=qti (a:=1-t) (b:=1) (by grind) (by grind)
   have:=Rat.mul_nonneg (show 0≤1-(1-t)*(1-t) by grind) q
   rw[e]
   have:pw a x y=(x-a.x)*(x-a.x)+(y-a.y)*(y-a.y)-a.s:=rfl
   grind
theorem qt9{a b:DQ}(neg:Bool)(hf:kv b.x b.y a.x a.y≠0) :
  (qp a b neg).ax*(qp a b neg).ax+(qp a b neg).ay*(qp a b neg).ay=kv b.x b.y a.x a.y ∧
  (qp a b neg).ax*(b.x-a.x)+(qp a b neg).ay*(b.y-a.y)=0 ∧
  (qp a b neg).ax*((qp a b neg).fx-a.x)+(qp a b neg).ay*((qp a b neg).fy-a.y)=0 ∧
  2*(((qp a b neg).fx-a.x)*(b.x-a.x)+((qp a b neg).fy-a.y)*(b.y-a.y))=kv b.x b.y a.x a.y+a.s-b.s ∧
  kA a (qp a b neg)=0∧kB a (qp a b neg)=0∧kA b (qp a b neg)=0∧kB b (qp a b neg)=0:=by
 obtain⟨far,hfar⟩:∃far,far=kv b.x b.y a.x a.y:=⟨_,rfl⟩
 obtain⟨t,ht⟩:∃t,t=(far+a.s-b.s)/(2*far):=⟨_,rfl⟩
 obtain⟨h,hh⟩:∃h,h=a.s/far-t*t:=⟨_,rfl⟩
 rw[←hfar] at hf
 have h2f:2*far≠0:=by grind
 have ht':2*far*t=far+a.s-b.s:=by
  rw[ht,Rat.mul_comm];exact Rat.div_mul_cancel h2f
 have hh':far*h=a.s-far*(t*t):=by
  have:a.s/far*far=a.s:=Rat.div_mul_cancel hf
  rw[hh];grind
 have hc:qp a b neg=⟨a.x+t*(b.x-a.x),a.y+t*(b.y-a.y),if neg then b.y-a.y else 0-(b.y-a.y),if neg then 0-(b.x-a.x) else b.x-a.x,h⟩:=by
  rw[hh,ht,hfar];rfl
 have hfar':far=(b.x-a.x)*(b.x-a.x)+(b.y-a.y)*(b.y-a.y):=hfar
 rw[hc,←hfar]
 unfold kA kB
 clear hc hfar ht hh
 cases neg
 ·simp only[Bool.false_eq_true,if_false]
  refine⟨by grind,by grind,by grind,by grind,by grind,by grind,by grind,by grind⟩
 ·simp only[if_true]
  refine⟨by grind,by grind,by grind,by grind,by grind,by grind,by grind,by grind⟩
theorem qvC(a b:DQ):(qp a b true).ax=-(qp a b false).ax∧(qp a b true).ay=-(qp a b false).ay:=by
 unfold qp
 simp only[Bool.false_eq_true,if_false,if_true]
 exact⟨by grind,by grind⟩
theorem qxw{l:List DQ}{a b:DQ}{x y:Rat}(neg:Bool)(hf:kv b.x b.y a.x a.y≠0)(hab:pw b x y=pw a x y)(hm:∀d∈l,pw d x y≤pw a x y)(h0:pw a x y≤0)
  (hv:0≤(qp a b neg).ax*(x-a.x)+(qp a b neg).ay*(y-a.y)) :
  (0≤(qp a b neg).h∧∀d∈l,u6 d (qp a b neg)) ∨
  ∃t k,0≤t∧k∈l∧(qp a b neg).ax*(k.x-a.x)+(qp a b neg).ay*(k.y-a.y)<0∧pw k (x+t*(qp a b neg).ax) (y+t*(qp a b neg).ay)=pw a (x+t*(qp a b neg).ax) (y+t*(qp a b neg).ay) ∧
   pw b (x+t*(qp a b neg).ax) (y+t*(qp a b neg).ay)=pw a (x+t*(qp a b neg).ax) (y+t*(qp a b neg).ay)∧(∀d∈l,pw d (x+t*(qp a b neg).ax) (y+t*(qp a b neg).ay)≤pw a (x+t*(qp a b neg).ax) (y+t*(qp a b neg).ay)) ∧
   pw a (x+t*(qp a b neg).ax) (y+t*(qp a b neg).ay)≤0:=by
 obtain⟨f1,f2,f3,f4,f5,f6,f7,f8⟩:=qt9 neg hf
 have hpos:0<kv b.x b.y a.x a.y:=by have:=qDT b.x b.y a.x a.y;grind
 have hfd:kv b.x b.y a.x a.y=(b.x-a.x)*(b.x-a.x)+(b.y-a.y)*(b.y-a.y):=rfl
 have hax:(qp a b neg).ax=if neg then b.y-a.y else 0-(b.y-a.y):=rfl
 have hay:(qp a b neg).ay=if neg then 0-(b.x-a.x) else b.x-a.x:=rfl
 generalize qp a b neg=p at *
 generalize kv b.x b.y a.x a.y=far at *
 obtain⟨T0,hT0⟩:∃T0,T0=(p.ax*(x-p.fx)+p.ay*(y-p.fy))/far:=⟨_,rfl⟩
 have eT0:T0*far=p.ax*(x-p.fx)+p.ay*(y-p.fy):=by rw[hT0];exact Rat.div_mul_cancel hf
 have hp:(x-p.fx)*(b.x-a.x)+(y-p.fy)*(b.y-a.y)=0:=by
  unfold pw at hab;grind
 have cancel:∀z:Rat,z*far=0→z=0:=fun z hz=>by
  rcases Rat.mul_eq_zero.1 hz with h|h
  ·exact h
  ·exact absurd h hf
 have ex:x=p.fx+T0*p.ax:=by
  have:x-p.fx-T0*p.ax=0:=cancel _ (by
   have e:(x-p.fx-T0*p.ax)*far=(x-p.fx)*far-p.ax*(T0*far):=by grind
   rw[e,eT0,hfd]
   cases neg
   ·simp only[Bool.false_eq_true,if_false] at hax hay;rw[hax,hay];clear hax hay eT0 hT0 f1 f2 f3 f4 f5 f6 f7 f8 hv hab;grind
   ·simp only[if_true] at hax hay;rw[hax,hay];clear hax hay eT0 hT0 f1 f2 f3 f4 f5 f6 f7 f8 hv hab;grind)
  grind
 have ey:y=p.fy+T0*p.ay:=by
  have:y-p.fy-T0*p.ay=0:=cancel _ (by
   have e:(y-p.fy-T0*p.ay)*far=(y-p.fy)*far-p.ay*(T0*far):=by grind
   rw[e,eT0,hfd]
   cases neg
   ·simp only[Bool.false_eq_true,if_false] at hax hay;rw[hax,hay];clear hax hay eT0 hT0 f1 f2 f3 f4 f5 f6 f7 f8 hv hab ex;grind
   ·simp only[if_true] at hax hay;rw[hax,hay];clear hax hay eT0 hT0 f1 f2 f3 f4 f5 f6 f7 f8 hv hab ex;grind)
  grind
 have T0n:0≤T0:=by
  apply Rat.not_lt.1;intro hn
  have:=Rat.mul_pos (show 0 < -T0 by grind) hpos
  grind
 have line:∀d T,pw d (p.fx+T*p.ax) (p.fy+T*p.ay)=kA d p+kB d p*T+far*(T*T-p.h):=fun d T=>by rw[qDj,f1]
 have lineA:∀T,pw a (p.fx+T*p.ax) (p.fy+T*p.ay)=far*(T*T-p.h):=fun T=>by rw[line,f5,f6];grind
 have lineB:∀T,pw b (p.fx+T*p.ax) (p.fy+T*p.ay)=far*(T*T-p.h):=fun T=>by rw[line,f7,f8];grind
 have at0:∀d∈l,kA d p+kB d p*T0≤0:=fun d hd=>by
  have:=hm d hd
  rw[ex,ey,line,lineA] at this
  grind
 have hT:T0*T0≤p.h:=by
  rw[ex,ey,lineA] at h0
  apply Rat.not_lt.1;intro hn
  have:=Rat.mul_pos hpos (show 0<T0*T0-p.h by grind)
  grind
 have hn:0≤p.h:=by have:=qa5 T0;grind
 have kb:∀d:DQ,kB d p=-(2*(p.ax*(d.x-a.x)+p.ay*(d.y-a.y))):=fun d=>by unfold kB;grind
 have all:∀T1,T0≤T1→p.h≤T1*T1→(∀d∈l,kA d p+kB d p*T1≤0)→0≤p.h∧∀d∈l,u6 d p:=fun T1 h1 h2 h3=>
  ⟨hn,fun d hd=>qCo T0n h1 hT h2 (at0 d hd) (h3 d hd)⟩
 by_cases hk:∃k∈l,0<kB k p
 ·obtain⟨t,t0,ht,k,hk,hk1,hk2⟩:=hit (fun d=>kA d p+kB d p*T0) (fun d=>kB d p) l at0 hk
  by_cases hle:(T0+t)*(T0+t)≤p.h
  ·have eX:x+t*p.ax=p.fx+(T0+t)*p.ax:=by grind
   have eY:y+t*p.ay=p.fy+(T0+t)*p.ay:=by grind
   refine .inr ⟨t,k,t0,hk,?_,?_,?_,fun d hd=>?_,?_⟩
   ·rw[kb] at hk1;grind
   ·rw[eX,eY,line,lineA];grind
   ·rw[eX,eY,lineA,lineB]
   ·rw[eX,eY,line,lineA];have:=ht d hd;grind
   ·rw[eX,eY,lineA]
    have:=Rat.mul_nonneg (show 0≤far by grind) (show 0≤p.h-(T0+t)*(T0+t) by grind);grind
  ·exact .inl (all (T0+t) (by grind) (by grind) fun d hd=>by have:=ht d hd;grind)
 ·refine .inl (all (T0+p.h+1) (by grind) ?_ fun d hd=>?_)
  ·have:=qti (a:=p.h+1) (b:=T0+p.h+1) (by grind) (by grind)
   have:=Rat.mul_nonneg hn hn
   grind
  ·have h1:kB d p≤0:=Rat.not_lt.1 fun h=>hk ⟨d,hd,h⟩
   have:=Rat.mul_nonneg (show 0≤-kB d p by grind) (show 0≤p.h+1 by grind)
   have:=at0 d hd
   grind
def Vx(l:List DQ)(x y:Rat)(t:DQ×DQ×DQ):Prop:=
 qze t.1.x t.1.y t.2.1.x t.2.1.y t.2.2.x t.2.2.y≠0∧pw t.2.1 x y=pw t.1 x y∧pw t.2.2 x y=pw t.1 x y∧(∀d∈l,pw d x y≤pw t.1 x y)∧pw t.1 x y≤0
theorem qHz{l:List DQ}{x y x' y':Rat}{t:DQ×DQ×DQ}(h:Vx l x y t)(h':Vx l x' y' t):x=x'∧y=y':=by
 obtain⟨a,b,c⟩:=t
 obtain⟨hA,h1,h2,-,-⟩:=h
 obtain⟨-,h1',h2',-,-⟩:=h'
 unfold pw qze at *
 simp only at *
 have e1:(x-x')*(b.x-a.x)+(y-y')*(b.y-a.y)=0:=by grind
 have e2:(x-x')*(c.x-a.x)+(y-y')*(c.y-a.y)=0:=by grind
 generalize b.x-a.x=p at *
 generalize b.y-a.y=q at *
 generalize c.x-a.x=r at *
 generalize c.y-a.y=s at *
 have k1:(x-x')*(p*s-r*q)=0:=by clear h1 h2 h1' h2' hA;grind
 have k2:(y-y')*(p*s-r*q)=0:=by clear h1 h2 h1' h2' hA;grind
 constructor
 ·rcases Rat.mul_eq_zero.1 k1 with h|h
  ·grind
  ·exact absurd h hA
 ·rcases Rat.mul_eq_zero.1 k2 with h|h
  ·grind
  ·exact absurd h hA
theorem qFe(l:List DQ):∀L:List (DQ×DQ×DQ),(∃t∈L,∃x y,Vx l x y t)→∃t∈L,∃x y,Vx l x y t∧∀t'∈L,∀x' y',Vx l x' y' t'→pw t'.1 x' y'≤pw t.1 x y
 | [],h=>by obtain⟨t,ht,_⟩:=h;cases ht
 | s::L,h=>by
  by_cases hs:∃x y,Vx l x y s
  ·obtain⟨x,y,hs⟩:=hs
   have own:∀x' y',Vx l x' y' s→pw s.1 x' y'≤pw s.1 x y:=fun x' y' h'=>by
    obtain⟨rfl,rfl⟩:=qHz h' hs;exact Rat.le_refl
   by_cases hL:∃t∈L,∃x y,Vx l x y t
   ·obtain⟨t,ht,u,v,hv,hmax⟩:=qFe l L hL
    rcases Rat.le_total (a:=pw s.1 x y) (b:=pw t.1 u v) with hle|hle
    ·refine⟨t,List.mem_cons_of_mem _ ht,u,v,hv,fun t' ht' x' y' h'=>?_⟩
     rcases List.mem_cons.1 ht' with rfl|ht'
     ·exact Rat.le_trans (own x' y' h') hle
     ·exact hmax t' ht' x' y' h'
    ·refine⟨s,List.mem_cons_self,x,y,hs,fun t' ht' x' y' h'=>?_⟩
     rcases List.mem_cons.1 ht' with rfl|ht'
     ·exact own x' y' h'
     ·exact Rat.le_trans (hmax t' ht' x' y' h') hle
   ·refine⟨s,List.mem_cons_self,x,y,hs,fun t' ht' x' y' h'=>?_⟩
    rcases List.mem_cons.1 ht' with rfl|ht'
    ·exact own x' y' h'
    ·exact absurd ⟨t',ht',x',y',h'⟩ hL
  ·have hL:∃t∈L,∃x y,Vx l x y t:=by
    obtain⟨t,ht,h⟩:=h
    rcases List.mem_cons.1 ht with rfl|ht
    ·exact absurd h hs
    ·exact⟨t,ht,h⟩
   obtain⟨t,ht,u,v,hv,hmax⟩:=qFe l L hL
   refine⟨t,List.mem_cons_of_mem _ ht,u,v,hv,fun t' ht' x' y' h'=>?_⟩
   rcases List.mem_cons.1 ht' with rfl|ht'
   ·exact absurd ⟨x',y',h'⟩ hs
   ·exact hmax t' ht' x' y' h'
theorem qDJ{l:List DQ}{x y:Rat}{t:DQ×DQ×DQ}(ht:t.1∈l∧t.2.1∈l∧t.2.2∈l)(hv:Vx l x y t) :
  ∃a∈l,∃b∈l,∃neg,kv b.x b.y a.x a.y≠0∧pw a x y=pw t.1 x y∧pw b x y=pw a x y∧0≤(qp a b neg).ax*(x-a.x)+(qp a b neg).ay*(y-a.y) ∧
   ∀k∈l,pw k x y=pw a x y→0≤(qp a b neg).ax*(k.x-a.x)+(qp a b neg).ay*(k.y-a.y):=by
 obtain⟨a0,b0,c0⟩:=t
 obtain⟨hA,h1,h2,h3,h4⟩:=hv
 simp only at *
 obtain⟨I,hI⟩:∃I,I=l.filter fun k=>decide (pw k x y=pw a0 x y):=⟨_,rfl⟩
 have memI:∀k,k∈I↔k∈l∧pw k x y=pw a0 x y:=fun k=>by rw[hI];simp
 have ia:a0∈I:=(memI _).2 ⟨ht.1,rfl⟩
 have ib:b0∈I:=(memI _).2 ⟨ht.2.1,h1⟩
 have ic:c0∈I:=(memI _).2 ⟨ht.2.2,h2⟩
 obtain⟨a,haI,hmax⟩:=qxW (fun k:DQ=>kv k.x k.y x y) I (by intro h;rw[h] at ia;cases ia)
 obtain⟨hal,hap⟩:=(memI a).1 haI
 obtain⟨D,hD⟩:∃D:DQ→Rat,D=fun k=>(x-a.x)*(k.x-a.x)+(y-a.y)*(k.y-a.y):=⟨_,rfl⟩
 obtain⟨X,hX⟩:∃X:DQ→Rat,X=fun k=>(x-a.x)*(k.y-a.y)-(y-a.y)*(k.x-a.x):=⟨_,rfl⟩
 obtain⟨J,hJ⟩:∃J,J=I.filter fun k=>decide (kv k.x k.y a.x a.y≠0):=⟨_,rfl⟩
 have memJ:∀k,k∈J↔k∈I∧kv k.x k.y a.x a.y≠0:=fun k=>by rw[hJ];simp
 have hDp:∀k∈J,0<D k:=fun k hk=>by
  obtain⟨hk1,hk2⟩:=(memJ k).1 hk
  have e1:=hmax k hk1
  have e2:=qDT k.x k.y a.x a.y
  rw[hD]
  simp only at e1 ⊢
  unfold kv at e1 e2 hk2
  grind
 have hJn:J≠[]:=by
  intro hJ0
  have all:∀k∈I,k.x=a.x∧k.y=a.y:=fun k hk=>by
   by_cases hz:kv k.x k.y a.x a.y=0
   ·exact qra hz
   ·have:=(memJ k).2 ⟨hk,hz⟩
    rw[hJ0] at this;cases this
  obtain⟨p1,q1⟩:=all a0 ia
  obtain⟨p2,q2⟩:=all b0 ib
  obtain⟨p3,q3⟩:=all c0 ic
  apply hA
  unfold qze
  rw[p1,p2,p3,q1,q2,q3];grind
 have slope:∀k b:DQ,0<D k→0<D b→X k/D k≤X b/D b→X k*D b≤X b*D k:=fun k b k0 b0 h=>by
  have e1:X k/D k*D k=X k:=Rat.div_mul_cancel (by grind)
  have e2:X b/D b*D b=X b:=Rat.div_mul_cancel (by grind)
  generalize X k/D k=u at *
  generalize X b/D b=v at *
  have:=Rat.mul_nonneg (show 0≤v-u by grind) (Rat.mul_nonneg (show 0≤D k by grind) (show 0≤D b by grind))
  rw[←e1,←e2];grind
 have lag:∀k b:DQ,((x-a.x)*(x-a.x)+(y-a.y)*(y-a.y))*((k.x-a.x)*(b.y-a.y)-(k.y-a.y)*(b.x-a.x))=D k*X b-X k*D b:=fun k b=>by
  rw[hD,hX];simp only;grind
 have upos:∀b,0<D b→0<(x-a.x)*(x-a.x)+(y-a.y)*(y-a.y):=fun b hb=>by
  apply Rat.not_le.1;intro hn
  have s1:=qa5 (x-a.x)
  have s2:=qa5 (y-a.y)
  have z1:=qoL (a:=x-a.x) (by grind)
  have z2:=qoL (a:=y-a.y) (by grind)
  rw[hD] at hb;simp only at hb;rw[z1,z2] at hb;grind
 obtain⟨b,hb,hbm⟩:=qxW (fun k=>X k/D k) J hJn
 have hbD:=hDp b hb
 obtain⟨hbI,hbf⟩:=(memJ b).1 hb
 obtain⟨hbl,hbp⟩:=(memI b).1 hbI
 have onI:∀k∈l,pw k x y=pw a x y→k∈I:=fun k hk e=>(memI k).2 ⟨hk,by rw[e,hap]⟩
 by_cases hXb:0≤X b
 ·refine⟨a,hal,b,hbl,true,hbf,hap,by rw[hbp,hap],?_,fun k hk hkp=>?_⟩
  ·have e:(qp a b true).ax*(x-a.x)+(qp a b true).ay*(y-a.y)=X b:=by
    rw[hX];unfold qp;simp only[if_true];grind
   rw[e];exact hXb
  ·have e:(qp a b true).ax*(k.x-a.x)+(qp a b true).ay*(k.y-a.y)=(k.x-a.x)*(b.y-a.y)-(k.y-a.y)*(b.x-a.x):=by
    unfold qp;simp only[if_true];grind
   rw[e]
   by_cases hz:kv k.x k.y a.x a.y=0
   ·obtain⟨z1,z2⟩:=qra hz
    rw[z1,z2];grind
   ·have hkJ:=(memJ k).2 ⟨onI k hk hkp,hz⟩
    have s:=slope k b (hDp k hkJ) hbD (hbm k hkJ)
    have g:=lag k b
    apply Rat.not_lt.1;intro hn
    have:=Rat.mul_pos (upos b hbD) (show 0 < -((k.x-a.x)*(b.y-a.y)-(k.y-a.y)*(b.x-a.x)) by grind)
    grind
 ·obtain⟨c,hc,hcm⟩:=qxW (fun k=>-(X k/D k)) J hJn
  have hcD:=hDp c hc
  obtain⟨hcI,hcf⟩:=(memJ c).1 hc
  obtain⟨hcl,hcp⟩:=(memI c).1 hcI
  have hXc:X c<0:=by
   have s:=slope c b hcD hbD (hbm c hc)
   apply Rat.not_le.1;intro hn
   have m1:=Rat.mul_nonneg hn (show 0≤D b by grind)
   have m2:=Rat.mul_pos (show 0 < -X b by grind) hcD
   grind
  refine⟨a,hal,c,hcl,false,hcf,hap,by rw[hcp,hap],?_,fun k hk hkp=>?_⟩
  ·have e:(qp a c false).ax*(x-a.x)+(qp a c false).ay*(y-a.y)=-X c:=by
    rw[hX];unfold qp;simp only[Bool.false_eq_true,if_false];grind
   rw[e];grind
  ·have e:(qp a c false).ax*(k.x-a.x)+(qp a c false).ay*(k.y-a.y)=-((k.x-a.x)*(c.y-a.y)-(k.y-a.y)*(c.x-a.x)):=by
    unfold qp;simp only[Bool.false_eq_true,if_false];grind
   rw[e]
   by_cases hz:kv k.x k.y a.x a.y=0
   ·obtain⟨z1,z2⟩:=qra hz
    rw[z1,z2];grind
   ·have hkJ:=(memJ k).2 ⟨onI k hk hkp,hz⟩
    have hle:=hcm k hkJ
    have s:=slope c k hcD (hDp k hkJ) (by grind)
    have g:=lag k c
    apply Rat.not_lt.1;intro hn
    have:=Rat.mul_pos (upos c hcD) (show 0<(k.x-a.x)*(c.y-a.y)-(k.y-a.y)*(c.x-a.x) by grind)
    grind
theorem qGs{l:List DQ}(hl:l≠[])(hs:∀d∈l,0≤d.s)(hm:qki l) :
  (∃a∈l,∀d∈l,pw d a.x a.y≤0)∨∃a∈l,∃b∈l,∃neg,kv b.x b.y a.x a.y≠0∧0≤(qp a b neg).h∧∀d∈l,u6 d (qp a b neg):=by
 obtain⟨x,y,hxy⟩:=hm
 rcases qHB hl hs hxy with h|⟨a,ha,b,hb,X,Y,hf,hab,hmx,h0⟩
 ·exact .inl h
 ·right
  have vtx:∀{a b k:DQ} {neg:Bool} {X Y:Rat},(qp a b neg).ax*(k.x-a.x)+(qp a b neg).ay*(k.y-a.y)<0→pw k X Y=pw a X Y→pw b X Y=pw a X Y→(∀d∈l,pw d X Y≤pw a X Y)→pw a X Y≤0→Vx l X Y (a,b,k):=by
   intro a b k neg X Y h1 h2 h3 h4 h5
   refine⟨fun hA=>?_,h3,h2,h4,h5⟩
   unfold qze at hA
   simp only at hA
   unfold qp at h1
   cases neg
   ·simp only[Bool.false_eq_true,if_false] at h1;grind
   ·simp only[if_true] at h1;grind
  have hneg:∃neg,0≤(qp a b neg).ax*(X-a.x)+(qp a b neg).ay*(Y-a.y):=by
   obtain⟨e1,e2⟩:=qvC a b
   rcases Rat.le_total (a:=0) (b:=(qp a b false).ax*(X-a.x)+(qp a b false).ay*(Y-a.y)) with h|h
   ·exact⟨false,h⟩
   ·exact⟨true,by rw[e1,e2];grind⟩
  obtain⟨neg,hv⟩:=hneg
  rcases qxw neg hf hab hmx h0 hv with⟨h1,h2⟩|⟨t,k,t0,hk,k1,k2,k3,k4,k5⟩
  ·exact⟨a,ha,b,hb,neg,hf,h1,h2⟩
  ·obtain⟨L,hL⟩:∃L,L=l.flatMap fun a=>l.flatMap fun b=>l.map fun c=>(a,b,c):=⟨_,rfl⟩
   have memL:∀t:DQ×DQ×DQ,t∈L↔t.1∈l∧t.2.1∈l∧t.2.2∈l:=fun t=>by
    obtain⟨a,b,c⟩:=t
    rw[hL];simp only[List.mem_flatMap,List.mem_map,Prod.mk.injEq]
    exact⟨fun⟨a',h1,b',h2,c',h3,e1,e2,e3⟩=>⟨e1▸h1,e2▸h2,e3▸h3⟩,fun⟨h1,h2,h3⟩=>⟨a,h1,b,h2,c,h3,rfl,rfl,rfl⟩⟩
   obtain⟨s,hs,u,v,hV,hmax⟩:=qFe l L ⟨(a,b,k),(memL _).2 ⟨ha,hb,hk⟩,_,_,vtx k1 k2 k3 k4 k5⟩
   obtain⟨a',ha',b',hb',neg',hf',hp',hab',hv',hact⟩:=qDJ ((memL s).1 hs) hV
   rcases qxw neg' hf' hab' (fun d hd=>by rw[hp'];exact hV.2.2.2.1 d hd) (by rw[hp'];exact hV.2.2.2.2) hv' with⟨h1,h2⟩|⟨t,k,t0,hk,k1,k2,k3,k4,k5⟩
   ·exact⟨a',ha',b',hb',neg',hf',h1,h2⟩
   ·exfalso
    have hm':=hmax (a',b',k) ((memL _).2 ⟨ha',hb',hk⟩) _ _ (vtx k1 k2 k3 k4 k5)
    simp only at hm'
    rw[←hp'] at hm'
    obtain⟨f1,-⟩:=qt9 neg' hf'
    have hpos:0<kv b'.x b'.y a'.x a'.y:=by have:=qDT b'.x b'.y a'.x a'.y;grind
    generalize qp a' b' neg'=p at *
    have t1:0<t:=by
     apply Rat.not_le.1;intro hn
     have:t=0:=by grind
     rw[this] at k2
     have e1:u+0*p.ax=u:=by grind
     have e2:v+0*p.ay=v:=by grind
     rw[e1,e2] at k2
     have:=hact k hk k2
     grind
    have e:pw a' (u+t*p.ax) (v+t*p.ay)=pw a' u v+2*(t*(p.ax*(u-a'.x)+p.ay*(v-a'.y)))+t*t*(p.ax*p.ax+p.ay*p.ay):=by unfold pw;grind
    rw[e,f1] at hm'
    have m1:=Rat.mul_nonneg t0 hv'
    have m2:=Rat.mul_pos (Rat.mul_pos t1 t1) hpos
    grind
end Go.Eng

namespace Go.Eng
def cls(q:Rat):Prop:=(qn q≤12∧q.den=1)∨(qn q≤10∧qd q≤10)
def qHR(q:Rat):Prop:=qn q≤13∧qd q≤10
structure GD (d:DQ):Prop where
 x:cls d.x
 y:cls d.y
 s:qHR d.s
 nn:0≤d.s
theorem Bd.of_nl{m:Int}{k:Nat}(h:nl m≤k):Bd 1 k m:=by
 unfold Bd
 have:=qIB h
 omega
theorem Bd.of_le{C e:Nat}{x y:Int}(h:Bd C e y)(hxy:x.natAbs≤y.natAbs):Bd C e x:=Nat.le_trans hxy h
theorem qvd{q:Rat}(h:cls q):∃u v,Wt u v q∧((u=12∧v=0)∨(u=10∧v=10)):=by
 rcases h with⟨h1,h2⟩|⟨h1,h2⟩
 ·refine⟨12,0,⟨Bd.of_nl h1,?_,?_⟩,.inl ⟨rfl,rfl⟩⟩
  ·unfold Bd;rw[h2];decide
  ·unfold Bd;rw[h2];decide
 ·exact⟨10,10,⟨Bd.of_nl h1,Bd.of_nl (m:=(q.den:Int)) h2,Bd.of_nl (m:=(q.den:Int)) h2⟩,.inr ⟨rfl,rfl⟩⟩
theorem qAe{q:Rat}(h:qHR q):∃u v,Wt u v q∧u=13∧v=10:=
 ⟨13,10,⟨Bd.of_nl h.1,Bd.of_nl (m:=(q.den:Int)) h.2,(Bd.of_nl (m:=(q.den:Int)) h.2).mono (by omega) (by omega)⟩,rfl,rfl⟩
theorem zv{q:Rat}(h:cls q):bnd 12 10 q:=by
 rcases h with⟨h1,h2⟩|⟨h1,h2⟩
 ·exact⟨h1,by unfold qd;rw[h2];decide⟩
 ·exact⟨by omega,h2⟩
theorem q5U{q:Rat}(h:qHR q):bnd 13 10 q:=h
theorem GD.sh{d:DQ}(h:GD d):d.sh:=⟨zv h.x,zv h.y,q5U h.s⟩
theorem qCV{a b d:DQ}(ga:GD a)(gb:GD b)(gd:GD d)(neg:Bool)(hf:(b.x-a.x)*(b.x-a.x)+(b.y-a.y)*(b.y-a.y)≠0)(oa:okQ (kA d (qp a b neg)))(ob:okQ (kB d (qp a b neg)))(oc:okQ (qp a b neg).h) :
  RootOk (kA d (qp a b neg)) (kB d (qp a b neg)) (qp a b neg).h:=by
 obtain⟨f1,f2,f3,f4⟩:=qAS a b d neg hf
 generalize kA d (qp a b neg)=A at *
 generalize kB d (qp a b neg)=B at *
 generalize (qp a b neg).h=H at *
 obtain⟨hx1,vx1,wx1,ex1⟩:=qvd ga.x
 obtain⟨hy1,vy1,wy1,ey1⟩:=qvd ga.y
 obtain⟨hs1,vs1,ws1,es1⟩:=qAe ga.s
 obtain⟨hx2,vx2,wx2,ex2⟩:=qvd gb.x
 obtain⟨hy2,vy2,wy2,ey2⟩:=qvd gb.y
 obtain⟨hs2,vs2,ws2,es2⟩:=qAe gb.s
 obtain⟨hx3,vx3,wx3,ex3⟩:=qvd gd.x
 obtain⟨hy3,vy3,wy3,ey3⟩:=qvd gd.y
 obtain⟨hs3,vs3,ws3,es3⟩:=qAe gd.s
 have k1:8*hx1+vx1≤96∧14*hx1+4*vx1≤180:=by omega
 have k2:8*hy1+vy1≤96∧14*hy1+4*vy1≤180:=by omega
 have k3:7*hx2+vx2≤84∧14*hx2+2*vx2≤168:=by omega
 have k4:7*hy2+vy2≤84∧14*hy2+2*vy2≤168:=by omega
 have k5:2*hx3+vx3≤30∧2*hx3+4*vx3≤60:=by omega
 have k6:2*hy3+vy3≤30∧2*hy3+4*vy3≤60:=by omega
 have k7:hs1+2*vs1≤33∧2*hs1+4*vs1≤66:=by omega
 have k8:hs2+2*vs2≤33∧2*hs2+4*vs2≤66:=by omega
 have k9:hs3≤13∧vs3≤10:=by omega
 clear ex1 ey1 es1 ex2 ey2 es2 ex3 ey3 es3
 have p0:∀q:Rat,(q.den:Int)≠0:=fun q=>by have:=qzc q;omega
 have hM:iM a.x.num a.x.den a.y.num a.y.den a.s.den b.x.num b.x.den b.y.num b.y.den b.s.den d.x.den d.y.den d.s.den≠0:=by
  unfold iM iSq
  have:=p0 a.x;have:=p0 a.y;have:=p0 a.s;have:=p0 b.x;have:=p0 b.y;have:=p0 b.s;have:=p0 d.x;have:=p0 d.y;have:=p0 d.s
  exact Int.mul_ne_zero (Int.mul_ne_zero (Int.mul_ne_zero f4 (Int.mul_ne_zero (Int.mul_ne_zero ‹_› ‹_›) ‹_›)) (Int.mul_ne_zero (Int.mul_ne_zero (Int.mul_ne_zero ‹_› ‹_›) (Int.mul_ne_zero ‹_› ‹_›)) (Int.mul_ne_zero (Int.mul_ne_zero ‹_› ‹_›) (Int.mul_ne_zero ‹_› ‹_›)))) (Int.mul_ne_zero ‹_› ‹_›)
 have hQ:iQ a.x.den a.y.den b.x.den b.y.den d.x.den d.y.den≠0:=by
  unfold iQ
  exact Int.mul_ne_zero (Int.mul_ne_zero (Int.mul_ne_zero (p0 _) (p0 _)) (p0 _)) (Int.mul_ne_zero (Int.mul_ne_zero (p0 _) (p0 _)) (p0 _))
 have hC:iCd a.x.num a.x.den a.y.num a.y.den a.s.den b.x.num b.x.den b.y.num b.y.den b.s.den≠0:=by
  unfold iCd
  exact Int.mul_ne_zero (Int.mul_ne_zero (by omega) (Int.mul_ne_zero f4 f4)) (Int.mul_ne_zero (Int.mul_ne_zero (p0 _) (p0 _)) (Int.mul_ne_zero (p0 _) (p0 _)))
 obtain⟨g1,g2⟩:=qr0 hM f1
 obtain⟨g3,g4⟩:=qr0 hQ f2
 obtain⟨g5,g6⟩:=qr0 hC f3
 have b1:=(bA wx1.n wx1.dh wy1.n wy1.dh wx2.n wx2.dh wy2.n wy2.dh wx3.n wx3.dh wy3.n wy3.dh ws1.n ws1.dh ws2.n ws2.dh ws3.n ws3.dh).of_le (x:=A.num) g1
 have b2:=(bM wx1.n wx1.dh wy1.n wy1.dh wx2.n wx2.dh wy2.n wy2.dh wx1.d wy1.d wx2.d wy2.d wx3.d wy3.d ws1.d ws2.d ws3.d).of_le (x:=(A.den:Int)) g2
 have b3:Bd 16 (hx1+hx2+hx3+hy1+hy2+hy3) B.num:=by
  refine(bK wx1.n wx1.dh wy1.n wy1.dh wx2.n wx2.dh wy2.n wy2.dh wx3.n wx3.dh wy3.n wy3.dh).of_le (Nat.le_trans g3 ?_)
  rw[Int.natAbs_mul]
  cases neg<;>simp
 have b4:=(bQ wx1.d wy1.d wx2.d wy2.d wx3.d wy3.d).of_le (x:=(B.den:Int)) g4
 have b5:=(bCn wx1.n wx1.dh wy1.n wy1.dh wx2.n wx2.dh wy2.n wy2.dh ws1.n ws1.dh ws2.n ws2.dh).of_le (x:=H.num) g5
 have b6:=(bCd wx1.n wx1.dh wy1.n wy1.dh wx2.n wx2.dh wy2.n wy2.dh ws1.d ws2.d).of_le (x:=(H.den:Int)) g6
 have X1:=b1.mul b4
 have X:Bd 40960 500 (rX A B H):=(X1.mul b6).mono (by omega) (by omega)
 have Y:=b3.mul b2
 have R:=b5.mul b6
 have XX:=(X.mul X).mono (C':=1677721600) (e':=1000) (by omega) (by omega)
 have YY:=Y.mul Y
 have YR:=(YY.mul R).mono (C':=553648128) (e':=972) (by omega) (by omega)
 have c10:(1000000000:Nat)≤10^9:=by decide
 exact { oa:=oa,ob:=ob,oc:=oc,x1:=X1.okL (k:=9) (by omega) (by omega) (by omega),x:=X.okL (k:=9) (by omega) (by omega) (by omega),y:=Y.okL (k:=9) (by omega) (by omega) (by omega),r:=R.okL (k:=9) (by omega) (by omega) (by omega),xx:=XX.okL (k:=10) (by decide) (by omega) (by omega),yy:=YY.okL (k:=9) (by omega) (by omega) (by omega),yr:=YR.okL (k:=9) (by omega) (by omega) (by omega),d:=((XX.mono (C':=1677721600) (e':=1000) (by omega) (by omega)).sub (YR.mono (C':=553648128) (e':=1000) (by omega) (by omega))).okL (k:=10) (by decide) (by omega) (by omega) }
end Go.Eng

namespace Go.Eng
theorem qIX{far c:Rat}(h0:far≠0)(hf:bnd 87 80 far)(hc:bnd 24 20 c):bnd 108 108 ((far+c)/(2*far)):=by
 have hn:far.num≠0:=fun h=>h0 (Rat.num_eq_zero.1 h)
 have hm:2*(far.num*(c.den:Int))≠0:=by
  have:=qzc c
  exact Int.mul_ne_zero (by omega) (Int.mul_ne_zero hn (by omega))
 have h2f:2*far≠0:=by grind
 have key:(far+c)/(2*far)*((2*(far.num*(c.den:Int)):Int):Rat)=((far.num*(c.den:Int)+c.num*(far.den:Int):Int):Rat):=by
  have e1:=qhs far
  have e2:=qhs c
  have e3:(far+c)/(2*far)*(2*far)=far+c:=Rat.div_mul_cancel h2f
  have f2:((2:Int):Rat)=2:=by simp
  simp only[Rat.intCast_add,Rat.intCast_mul,Rat.intCast_natCast,e1,e2,f2]
  generalize (far+c)/(2*far)=q at *
  generalize (far.den:Rat)=fd at *
  generalize (c.den:Rat)=cd at *
  have e4:q*(2*(far*fd*cd))=q*(2*far)*(fd*cd):=by grind
  rw[e4,e3];grind
 obtain⟨k1,k2⟩:=qr0 hm key
 have g1:=qeo k1
 have g2:=qDe k2
 have a1:=quX (far.num*(c.den:Int)) (c.num*(far.den:Int))
 have a2:=yU far.num (c.den:Int)
 have a3:=yU c.num (far.den:Int)
 have a4:=yU 2 (far.num*(c.den:Int))
 have a5:nl 2=1:=by decide
 have a6:dl (2*(far.num*(c.den:Int))).natAbs=nl (2*(far.num*(c.den:Int))):=rfl
 have b1:nl far.num≤87:=hf.1
 have b2:nl (far.den:Int)≤80:=hf.2
 have b3:nl c.num≤24:=hc.1
 have b4:nl (c.den:Int)≤20:=hc.2
 refine⟨?_,?_⟩
 ·show nl _≤108
  omega
 ·show dl _≤108
  omega
structure PB (p:SQ):Prop where
 fx:bnd 142 138 p.fx
 fy:bnd 142 138 p.fy
 ax:bnd 23 20 p.ax
 ay:bnd 23 20 p.ay
 h:bnd 314 313 p.h
theorem qIP(a:Rat):0-a=-a:=by grind
theorem qzy{a b:DQ}(ga:GD a)(gb:GD b)(hf:kv b.x b.y a.x a.y≠0):bnd 108 108 ((kv b.x b.y a.x a.y+a.s-b.s)/(2*kv b.x b.y a.x a.y)):=by
 rw[show kv b.x b.y a.x a.y+a.s-b.s=kv b.x b.y a.x a.y+(a.s-b.s) by grind]
 exact qIX hf (qpE (zv gb.x) (zv gb.y) (zv ga.x) (zv ga.y)) ((q5U ga.s).sub (q5U gb.s) (by omega) (by omega))
theorem qik(a b:DQ)(neg:Bool):qp a b neg=⟨a.x+(kv b.x b.y a.x a.y+a.s-b.s)/(2*kv b.x b.y a.x a.y)*(b.x-a.x),a.y+(kv b.x b.y a.x a.y+a.s-b.s)/(2*kv b.x b.y a.x a.y)*(b.y-a.y),if neg then b.y-a.y else 0-(b.y-a.y),if neg then 0-(b.x-a.x) else b.x-a.x,a.s/kv b.x b.y a.x a.y-(kv b.x b.y a.x a.y+a.s-b.s)/(2*kv b.x b.y a.x a.y)*((kv b.x b.y a.x a.y+a.s-b.s)/(2*kv b.x b.y a.x a.y))⟩:=rfl
theorem qob{a b:DQ}(ga:GD a)(gb:GD b)(neg:Bool)(hf:kv b.x b.y a.x a.y≠0):PB (qp a b neg):=by
 have dx:=q39 (zv gb.x) (zv ga.x)
 have dy:=q39 (zv gb.y) (zv ga.y)
 have far:=qpE (zv gb.x) (zv gb.y) (zv ga.x) (zv ga.y)
 have ht:=qzy ga gb hf
 rw[qik]
 have nx:bnd 23 20 (0-(b.x-a.x)):=by rw[qIP];exact dx.neg
 have ny:bnd 23 20 (0-(b.y-a.y)):=by rw[qIP];exact dy.neg
 have hh:=((q5U ga.s).div hf far).sub (ht.mul ht) (K:=314) (by omega) (by omega)
 have hx:=(zv ga.x).add (ht.mul dx) (K:=142) (by omega) (by omega)
 have hy:=(zv ga.y).add (ht.mul dy) (K:=142) (by omega) (by omega)
 exact⟨hx,hy,by cases neg<;>assumption,by cases neg<;>assumption,hh⟩
theorem PB.m{p:SQ}{d:DQ}(hp:PB p)(gd:GD d):bnd 153 148 (p.fx-d.x)∧bnd 153 148 (p.fy-d.y):=
 ⟨hp.fx.sub (zv gd.x) (by omega) (by omega),hp.fy.sub (zv gd.y) (by omega) (by omega)⟩
theorem PB.mm{p:SQ}{d:DQ}(hp:PB p)(gd:GD d):bnd 603 592 ((p.fx-d.x)*(p.fx-d.x)+(p.fy-d.y)*(p.fy-d.y)):=
 qsF (hp.m gd).1 (hp.m gd).2 (hp.m gd).1 (hp.m gd).2
theorem PB.aa{p:SQ}(hp:PB p):bnd 87 80 (p.ax*p.ax+p.ay*p.ay):=qsF hp.ax hp.ay hp.ax hp.ay
theorem PB.ha{p:SQ}(hp:PB p):bnd 401 393 (p.h*(p.ax*p.ax+p.ay*p.ay)):=hp.h.mul hp.aa
theorem PB.x{p:SQ}{d:DQ}(hp:PB p)(gd:GD d):bnd 997 985 ((p.fx-d.x)*(p.fx-d.x)+(p.fy-d.y)*(p.fy-d.y)+p.h*(p.ax*p.ax+p.ay*p.ay)):=
 (hp.mm gd).add hp.ha (by omega) (by omega)
theorem PB.ma{p:SQ}{d:DQ}(hp:PB p)(gd:GD d):bnd 345 336 ((p.fx-d.x)*p.ax+(p.fy-d.y)*p.ay):=
 qsF (hp.m gd).1 (hp.m gd).2 hp.ax hp.ay
theorem PB.kA{p:SQ}{d:DQ}(hp:PB p)(gd:GD d):bnd 1008 995 (kA d p):=(hp.x gd).sub (q5U gd.s) (by omega) (by omega)
theorem PB.kB{p:SQ}{d:DQ}(hp:PB p)(gd:GD d):bnd 346 337 (kB d p):=qly.mul (hp.ma gd)
structure PG (p:SQ):Prop where
 pb:PB p
 nn:0≤p.h
 root:∀d,GD d→RootOk (kA d p) (kB d p) p.h
theorem qGe{a b:DQ}(ga:GD a)(gb:GD b)(neg:Bool)(hf:kv b.x b.y a.x a.y≠0)(hn:0≤(qp a b neg).h):PG (qp a b neg):=
 ⟨qob ga gb neg hf,hn,fun _ gd=>qCV ga gb gd neg hf (((qob ga gb neg hf).kA gd).ok (by omega) (by omega)) (((qob ga gb neg hf).kB gd).ok (by omega) (by omega)) ((qob ga gb neg hf).h.ok (by omega) (by omega))⟩
theorem qIK{a:DQ}(ga:GD a):PG ⟨a.x,a.y,0,0,0⟩:=by
 refine⟨⟨(zv ga.x).mono (by omega) (by omega),(zv ga.y).mono (by omega) (by omega),q94.mono (by omega) (by omega),q94.mono (by omega) (by omega),q94.mono (by omega) (by omega)⟩,Rat.le_refl,fun d gd=>?_⟩
 have e1:Go.Eng.kA d ⟨a.x,a.y,0,0,0⟩=kv a.x a.y d.x d.y-d.s:=by unfold Go.Eng.kA kv;grind
 have e2:Go.Eng.kB d ⟨a.x,a.y,0,0,0⟩=0:=by unfold Go.Eng.kB;grind
 rw[e1,e2]
 have f1:bnd 98 90 (kv a.x a.y d.x d.y-d.s):=(qpE (zv ga.x) (zv ga.y) (zv gd.x) (zv gd.y)).sub (q5U gd.s) (by omega) (by omega)
 exact RootOk.of f1 q94 q94 (by omega) (by omega)
theorem qEr{d:DQ}{p:SQ}(gd:GD d)(hp:PG p) :
  (yH [.s (tQ d.x),.s (tQ d.y),.s (tQ d.s),.s (tQ p.fx),.s (tQ p.fy),.s (tQ p.ax),.s (tQ p.ay),.s (tQ p.h),.i 0]).run=some (0,[.b (decide (u6 d p)),.i 0]):=by
 rw[qlT]
 have hr:=qGF (hp.root d gd) hp.nn
 obtain⟨hp,-,-⟩:=hp
 obtain⟨m1,m2⟩:=hp.m gd
 have h0:=qAU hp.fx hp.fy (zv gd.x) (zv gd.y) (by omega) (by omega) (by omega)
 have h1:=qBW m1 m2 m1 m2 (by omega) (by omega)
 have h2:=qBW hp.ax hp.ay hp.ax hp.ay (by omega) (by omega)
 have h3:=qyH hp.h hp.aa (by omega) (by omega)
 have h4:=qEx (hp.mm gd) hp.ha (by omega) (by omega) (by omega)
 have h5:=qy5 (hp.x gd) (q5U gd.s) (by omega) (by omega) (by omega)
 have h6:=qBW m1 m2 hp.ax hp.ay (by omega) (by omega)
 have h7:=qyH qly (hp.ma gd) (by omega) (by omega)
 rw[qBQ] at h7
 have e:u6 d p=(qhd (Go.Eng.kA d p) (Go.Eng.kB d p) p.h≤0):=rfl
 unfold Go.Eng.kA Go.Eng.kB at hr e
 simp only[STD,h0,h1,h2,h3,h4,h5,h6,h7,hr,e]
 rfl
theorem qDz{d:DQ}{p:SQ}(gd:GD d)(hp:PB p) :
  (q43 [.s (tQ d.x),.s (tQ d.y),.s (tQ d.s),.s (tQ p.fx),.s (tQ p.fy),.s (tQ p.ax),.s (tQ p.ay),.s (tQ p.h)]).run=some (0,[.b (decide (u6 d p))]):=by
 rw[qtV]
 obtain⟨m1,m2⟩:=hp.m gd
 have s1:=m1.sm (K:=200) (by omega) (by omega)
 have s2:=m2.sm (K:=200) (by omega) (by omega)
 have s3:=hp.ax.sm (K:=200) (by omega) (by omega)
 have s4:=hp.ay.sm (K:=200) (by omega) (by omega)
 have h0:=qzU (hp.fx.sm (by omega) (by omega)) (hp.fy.sm (by omega) (by omega)) ((zv gd.x).sm (by omega) (by omega)) ((zv gd.y).sm (by omega) (by omega))
 have h1:=qEh (by omega) s1 s2 s1 s2
 have h2:=qEh (by omega) s3 s4 s3 s4
 have h3:=vt (hp.h.sm (by omega) (by omega)) (hp.aa.sm (by omega) (by omega))
 have h4:=q9y ((hp.mm gd).sm (by omega) (by omega)) (hp.ha.sm (by omega) (by omega))
 have h5:=q4t ((hp.x gd).sm (by omega) (by omega)) ((q5U gd.s).sm (by omega) (by omega))
 have h6:=qEh (by omega) s1 s2 s3 s4
 have h7:=vt (qly.sm (by omega) (by omega)) ((hp.ma gd).sm (by omega) (by omega))
 have h8:=qxL ((hp.kA gd).sm (by omega) (by omega)) ((hp.kB gd).sm (by omega) (by omega)) (hp.h.sm (by omega) (by omega))
 rw[qBQ] at h7
 have e:u6 d p=(qhd (Go.Eng.kA d p) (Go.Eng.kB d p) p.h≤0):=rfl
 unfold Go.Eng.kA Go.Eng.kB at h8 e
 simp only[STD,h0,h1,h2,h3,h4,h5,h6,h7,h8,e]
 rfl
def qi8(d:DQ):List U:=[.s (tQ d.x),.s (tQ d.y),.s (tQ d.s)]
def rD(l:List DQ):R:=l.map qi8
def ix(l:List DQ)(i:Nat):DQ:=l.getD i ⟨0,0,0⟩
theorem qv(l:List DQ):qh (rD l)=(l.length:Int):=by simp[qh,rD]
theorem qhe{l:List DQ}{i:Nat}(h:i<l.length):cS (rD l) (i:Int) 0=tQ (ix l i).x∧cS (rD l) (i:Int) 1=tQ (ix l i).y∧cS (rD l) (i:Int) 2=tQ (ix l i).s:=by
 unfold cS vk rD ix
 simp[List.getD_eq_getElem?_getD,h,qi8,U.toS]
theorem qf2{l:List DQ}{i:Nat}(h:i<l.length):ix l i∈l:=by
 unfold ix
 simp[List.getD_eq_getElem?_getD,h]
def q9w(a b:DQ)(same:Bool)(side:Int):Option SQ:=
 if same then (if side=0 then some ⟨a.x,a.y,0,0,0⟩ else none)
 else if kv b.x b.y a.x a.y=0 then none
 else if 0≤(qp a b (decide (side<0))).h∧((qp a b (decide (side<0))).h=0↔side=0) then some (qp a b (decide (side<0))) else none
theorem qBI{a b:DQ}(ga:GD a)(gb:GD b){same:Bool}{side:Int}{p:SQ}(h:q9w a b same side=some p):PG p:=by
 unfold q9w at h
 split at h
 ·split at h
  ·cases h;exact qIK ga
  ·cases h
 ·split at h
  ·cases h
  ·rename_i hf
   split at h
   ·rename_i hc
    cases h;exact qGe ga gb _ hf hc.1
   ·cases h
def q0Z(l:List DQ)(i j:Nat)(side:Int):Bool:=
 match q9w (ix l i) (ix l j) (decide (i=j)) side with
 | none=>false
 | some p=>l.all fun d=>decide (u6 d p)
def qov(l:List DQ)(i j:Nat)(side:Int):Option (Nat×Nat×Int):=if q0Z l i j side then some (i,j,side) else none
def q9s(l:List DQ)(i j:Nat):Option (Nat×Nat×Int):=
 match qov l i j 0 with
 | some w=>some w
 | none=>match qov l i j 1 with
  | some w=>some w
  | none=>qov l i j (-1)
def ka(l:List DQ):Option (Nat×Nat×Int):=
 match yQ (fun i=>qov l i i 0) 0 l.length with
 | some w=>some w
 | none=>yQ (fun i=>yQ (fun k=>q9s l i (i+1+k)) 0 (l.length-(i+1))) 0 l.length
end Go.Eng

namespace Go.Eng
theorem qCE(d a:DQ):u6 d ⟨a.x,a.y,0,0,0⟩↔pw d a.x a.y≤0:=by
 have e1:kA d ⟨a.x,a.y,0,0,0⟩=pw d a.x a.y:=by unfold kA pw;grind
 have e2:kB d ⟨a.x,a.y,0,0,0⟩=0:=by unfold kB;grind
 unfold u6
 rw[e1,e2]
 simp only[qvu,qjD]
theorem qyG{d:DQ}{p q:SQ}(hA:kA d p=kA d q)(hB:kB d p=kB d q)(hh:p.h=q.h):u6 d p↔u6 d q:=by
 unfold u6;rw[hA,hB,hh]
theorem qrA{d:DQ}{p:SQ}(hh:p.h=0):u6 d p↔kA d p≤0:=by
 unfold u6
 rw[hh,qxa (by grind)]
 constructor
 ·rintro (⟨h,-⟩|⟨h1,h2,h3⟩)
  ·exact h
  ·have:=Rat.mul_pos h1 h1;grind
 ·intro h;exact .inl ⟨h,.inr (.inl rfl)⟩
theorem qD3{a b:DQ}(neg:Bool)(hf:kv b.x b.y a.x a.y≠0) :
  (qp b a (!neg)).fx=(qp a b neg).fx∧(qp b a (!neg)).fy=(qp a b neg).fy∧(qp b a (!neg)).ax=(qp a b neg).ax∧(qp b a (!neg)).ay=(qp a b neg).ay∧(qp b a (!neg)).h=(qp a b neg).h:=by
 have hsw:kv a.x a.y b.x b.y=kv b.x b.y a.x a.y:=by unfold kv;grind
 rw[qik,qik,hsw]
 generalize kv b.x b.y a.x a.y=far at *
 have h2f:2*far≠0:=by grind
 have h1:(far+b.s-a.s)/(2*far)*(2*far)=far+b.s-a.s:=Rat.div_mul_cancel h2f
 have h2:(far+a.s-b.s)/(2*far)*(2*far)=far+a.s-b.s:=Rat.div_mul_cancel h2f
 have h3:a.s/far*far=a.s:=Rat.div_mul_cancel hf
 have h4:b.s/far*far=b.s:=Rat.div_mul_cancel hf
 generalize (far+b.s-a.s)/(2*far)=u at *
 generalize (far+a.s-b.s)/(2*far)=t at *
 generalize a.s/far=p at *
 generalize b.s/far=q at *
 have cancel:∀z:Rat,z*far=0→z=0:=fun z hz=>by
  rcases Rat.mul_eq_zero.1 hz with h|h
  ·exact h
  ·exact absurd h hf
 have hu:u=1-t:=by
  have:=cancel (u-(1-t)) (by grind)
  grind
 have hpq:q=p-t*t+(1-t)*(1-t):=by
  have:=cancel (q-(p-t*t+(1-t)*(1-t))) (by grind)
  grind
 simp only
 refine⟨by rw[hu];grind,by rw[hu];grind,?_,?_,by rw[hu,hpq];grind⟩
 ·cases neg<;>simp only[Bool.not_false,Bool.not_true,Bool.false_eq_true,if_false,if_true]<;>grind
 ·cases neg<;>simp only[Bool.not_false,Bool.not_true,Bool.false_eq_true,if_false,if_true]<;>grind
theorem qcD{l:List DQ}{d:DQ}(h:d∈l):∃i,i<l.length∧ix l i=d:=by
 obtain⟨i,hi,e⟩:=List.getElem_of_mem h
 exact⟨i,hi,by unfold ix;simp[List.getD_eq_getElem?_getD,hi,e]⟩
def Wit(l:List DQ):Prop:=(∃i,i<l.length∧q0Z l i i 0=true)∨∃i j side,i<j∧j<l.length∧(side=0∨side=1∨side=-1)∧q0Z l i j side=true
theorem qfo{l:List DQ}{i j:Nat}{side:Int}:q0Z l i j side=true↔∃p,q9w (ix l i) (ix l j) (decide (i=j)) side=some p∧∀d∈l,u6 d p:=by
 unfold q0Z
 cases h:q9w (ix l i) (ix l j) (decide (i=j)) side with
 | none=>simp
 | some p=>simp
theorem qGc{a b:DQ}{same:Bool}{side:Int}{p:SQ}(h:q9w a b same side=some p):0≤p.h:=by
 unfold q9w at h
 split at h
 ·split at h
  ·cases h;exact Rat.le_refl
  ·cases h
 ·split at h
  ·cases h
  ·split at h
   ·rename_i hc
    cases h;exact hc.1
   ·cases h
theorem qtK{l:List DQ}{i j:Nat}{side:Int}(h:q0Z l i j side=true):qki l:=by
 obtain⟨p,h1,h2⟩:=qfo.1 h
 exact qx4 (qGc h1) h2
theorem qAI{l:List DQ}(hl:l≠[])(hs:∀d∈l,0≤d.s)(hm:qki l):Wit l:=by
 rcases qGs hl hs hm with⟨a,ha,h⟩|⟨a,ha,b,hb,neg,hf,h0,hk⟩
 ·obtain⟨i,hi,rfl⟩:=qcD ha
  refine .inl ⟨i,hi,qfo.2 ⟨⟨(ix l i).x,(ix l i).y,0,0,0⟩,?_,fun d hd=>(qCE d _).2 (h d hd)⟩⟩
  unfold q9w;simp
 ·have main:∀(i j:Nat) (neg:Bool),i<j→j<l.length→kv (ix l j).x (ix l j).y (ix l i).x (ix l i).y≠0→0≤(qp (ix l i) (ix l j) neg).h→(∀d∈l,u6 d (qp (ix l i) (ix l j) neg))→Wit l:=by
   intro i j neg hij hj hf h0 hk
   by_cases hz:(qp (ix l i) (ix l j) neg).h=0
   ·have hz':(qp (ix l i) (ix l j) false).h=0:=hz
    refine .inr ⟨i,j,0,hij,hj,.inl rfl,qfo.2 ⟨qp (ix l i) (ix l j) false,?_,fun d hd=>?_⟩⟩
    ·unfold q9w
     rw[if_neg (by simp;omega),if_neg hf]
     simp[hz']
    ·have:=(qrA hz).1 (hk d hd)
     rw[qrA hz']
     have e:kA d (qp (ix l i) (ix l j) false)=kA d (qp (ix l i) (ix l j) neg):=by
      unfold kA;rw[hz,hz']
      have e1:(qp (ix l i) (ix l j) false).fx=(qp (ix l i) (ix l j) neg).fx:=rfl
      have e2:(qp (ix l i) (ix l j) false).fy=(qp (ix l i) (ix l j) neg).fy:=rfl
      rw[e1,e2];grind
     rw[e];exact this
   ·cases neg
    ·refine .inr ⟨i,j,1,hij,hj,.inr (.inl rfl),qfo.2 ⟨qp (ix l i) (ix l j) false,?_,hk⟩⟩
     unfold q9w
     rw[if_neg (by simp;omega),if_neg hf]
     simp[hz,h0]
    ·refine .inr ⟨i,j,-1,hij,hj,.inr (.inr rfl),qfo.2 ⟨qp (ix l i) (ix l j) true,?_,hk⟩⟩
     unfold q9w
     rw[if_neg (by simp;omega),if_neg hf]
     simp[hz,h0]
  obtain⟨i,hi,rfl⟩:=qcD ha
  obtain⟨j,hj,rfl⟩:=qcD hb
  rcases Nat.lt_trichotomy i j with hij|rfl|hij
  ·exact main i j neg hij hj hf h0 hk
  ·exact absurd (by unfold kv;grind) hf
  ·obtain⟨e1,e2,e3,e4,e5⟩:=qD3 neg hf
   refine main j i (!neg) hij hi ?_ (by rw[e5];exact h0) fun d hd=>?_
   ·intro h;apply hf;unfold kv at *;grind
   ·refine(qyG ?_ ?_ e5).2 (hk d hd)
    ·unfold kA;rw[e1,e2,e3,e4,e5]
    ·unfold kB;rw[e1,e2,e3,e4]
theorem qnE{l:List DQ}{i j:Nat}{side:Int}{w:Nat×Nat×Int}(h:qov l i j side=some w):w=(i,j,side)∧q0Z l i j side=true:=by
 unfold qov at h
 split at h
 ·cases h;exact⟨rfl,by assumption⟩
 ·cases h
theorem qom{l:List DQ}{i j:Nat}{side:Int}(h:qov l i j side=none):q0Z l i j side=false:=by
 unfold qov at h
 split at h
 ·cases h
 ·simp_all
theorem q5i{α:Type}{f:Nat→Option α}{a:α}:∀{k i:Nat},yQ f i k=some a→∃j,i≤j∧j<i+k∧f j=some a∧∀m,i≤m→m<j→f m=none
 | 0,i,h=>by cases h
 | k+1,i,h=>by
  simp only[yQ] at h
  cases hf:f i with
  | some b=>rw[hf] at h;exact⟨i,Nat.le_refl _,by omega,by rw[hf];exact h,fun m h1 h2=>by omega⟩
  | none=>
   rw[hf] at h
   obtain⟨j,h1,h2,h3,h4⟩:=q5i h
   refine⟨j,by omega,by omega,h3,fun m m1 m2=>?_⟩
   rcases Nat.eq_or_lt_of_le m1 with rfl|m1
   ·exact hf
   ·exact h4 m m1 m2
theorem qzu{l:List DQ}{i j:Nat}{w:Nat×Nat×Int}(h:q9s l i j=some w):∃side,w=(i,j,side)∧(side=0∨side=1∨side=-1)∧q0Z l i j side=true:=by
 unfold q9s at h
 cases h0:qov l i j 0 with
 | some v=>rw[h0] at h;simp only at h;cases h;obtain⟨e1,e2⟩:=qnE h0;exact⟨0,e1,.inl rfl,e2⟩
 | none=>
  rw[h0] at h;simp only at h
  cases h1:qov l i j 1 with
  | some v=>rw[h1] at h;simp only at h;cases h;obtain⟨e1,e2⟩:=qnE h1;exact⟨1,e1,.inr (.inl rfl),e2⟩
  | none=>
   rw[h1] at h;simp only at h
   obtain⟨e1,e2⟩:=qnE h;exact⟨-1,e1,.inr (.inr rfl),e2⟩
theorem qAz{l:List DQ}{i j:Nat}(h:q9s l i j=none):∀side:Int,side=0∨side=1∨side=-1→q0Z l i j side=false:=by
 unfold q9s at h
 cases h0:qov l i j 0 with
 | some v=>rw[h0] at h;cases h
 | none=>
  rw[h0] at h;simp only at h
  cases h1:qov l i j 1 with
  | some v=>rw[h1] at h;cases h
  | none=>
   rw[h1] at h;simp only at h
   rintro side (rfl|rfl|rfl)
   ·exact qom h0
   ·exact qom h1
   ·exact qom h
theorem qzY{l:List DQ}{w:Nat×Nat×Int}(h:ka l=some w):q0Z l w.1 w.2.1 w.2.2=true∧w.1≤w.2.1∧w.2.1<l.length∧(w.2.2=0∨w.2.2=1∨w.2.2=-1)∧(w.1=w.2.1→w.2.2=0):=by
 unfold ka at h
 cases h0:yQ (fun i=>qov l i i 0) 0 l.length with
 | some v=>
  rw[h0] at h;simp only at h;cases h
  obtain⟨i,-,hi,hf,-⟩:=q5i h0
  obtain⟨rfl,e⟩:=qnE hf
  exact⟨e,Nat.le_refl _,by simpa using hi,.inl rfl,fun _=>rfl⟩
 | none=>
  rw[h0] at h;simp only at h
  obtain⟨i,-,hi,hf,-⟩:=q5i h
  obtain⟨k,-,hk,hf,-⟩:=q5i hf
  obtain⟨side,rfl,h1,h2⟩:=qzu hf
  exact⟨h2,by simp only;omega,by simp only;omega,h1,fun h=>by simp only at h;omega⟩
theorem qA5{l:List DQ}(h:ka l=none):¬Wit l:=by
 unfold ka at h
 cases h0:yQ (fun i=>qov l i i 0) 0 l.length with
 | some v=>rw[h0] at h;cases h
 | none=>
  rw[h0] at h;simp only at h
  rintro (⟨i,hi,hp⟩|⟨i,j,side,hij,hj,hs,hp⟩)
  ·have:=qom (q3L h0 i (by omega) (by omega));simp_all
  ·have h1:=q3L h i (by omega) (by omega)
   have h2:=q3L h1 (j-(i+1)) (by omega) (by omega)
   simp only[show i+1+(j-(i+1))=j by omega] at h2
   have:=qAz h2 side hs;simp_all
theorem qpA{l:List DQ}(hl:l≠[])(hs:∀d∈l,0≤d.s):(ka l).isSome=true↔qki l:=by
 constructor
 ·intro h
  cases hf:ka l with
  | none=>rw[hf] at h;cases h
  | some w=>exact qtK (qzY hf).1
 ·intro h
  cases hf:ka l with
  | none=>exact absurd (qAI hl hs h) (qA5 hf)
  | some w=>rfl
theorem qFZ{d:DQ}(h:0≤d.s):qki [d]:=⟨d.x,d.y,fun e he=>by simp at he;rw[he];unfold pw;grind⟩
theorem qFY{l:List DQ}(hs:∀d∈l,0≤d.s)(h2:∀i j,i<j→j<l.length→qki [ix l i,ix l j])(h3:∀i j k,i<j→j<k→k<l.length→qki [ix l i,ix l j,ix l k]):qki l:=by
 refine qIM l.length l (Nat.le_refl _) fun x hx y hy z hz=>?_
 obtain⟨i,hi,rfl⟩:=qcD hx
 obtain⟨j,hj,rfl⟩:=qcD hy
 obtain⟨k,hk,rfl⟩:=qcD hz
 have p2:∀i j,i<l.length→j<l.length→qki [ix l i,ix l j]:=fun i j hi hj=>by
  rcases Nat.lt_trichotomy i j with h|rfl|h
  ·exact h2 i j h hj
  ·exact(qFZ (hs _ (qf2 hi))).mono (by simp)
  ·exact(h2 j i h hi).mono (by simp<;>grind)
 rcases Nat.lt_trichotomy i j with h|rfl|h
 ·rcases Nat.lt_trichotomy j k with g|rfl|g
  ·exact h3 i j k h g hk
  ·exact(p2 i j hi hj).mono (by simp)
  ·rcases Nat.lt_trichotomy i k with f|rfl|f
   ·exact(h3 i k j f g hj).mono (by simp<;>grind)
   ·exact(p2 i j hi hj).mono (by simp<;>grind)
   ·exact(h3 k i j f h hj).mono (by simp<;>grind)
 ·exact(p2 i k hi hk).mono (by simp<;>grind)
 ·rcases Nat.lt_trichotomy i k with g|rfl|g
  ·exact(h3 j i k h g hk).mono (by simp<;>grind)
  ·exact(p2 i j hi hj).mono (by simp<;>grind)
  ·rcases Nat.lt_trichotomy j k with f|rfl|f
   ·exact(h3 j k i f g hi).mono (by simp<;>grind)
   ·exact(p2 i j hi hj).mono (by simp<;>grind)
   ·exact(h3 k j i f h hi).mono (by simp<;>grind)
end Go.Eng

namespace Go.Eng
def GDs(l:List DQ):Prop:=∀d∈l,GD d
theorem GDs.ix{l:List DQ}(h:GDs l){i:Nat}(hi:i<l.length):GD (ix l i):=h _ (qf2 hi)
theorem qFg(q:Rat):(seq (tQ q) [48]=true)=(q=0):=by rw[qY,qtp]
theorem qpb(q:Rat):(0:Int)<qt (tQ q):=by
 have h1:=qso q
 have h2:=qrV q
 unfold qt;omega
theorem qIT(i:Nat):((i:Int)=(i:Int))=True:=by simp
def plc(p:SQ):List PV:=[.s (tQ p.fx),.s (tQ p.fy),.s (tQ p.ax),.s (tQ p.ay),.s (tQ p.h)]
theorem qpv(q:Rat):(¬(tQ q).getD 0 0=45)=(0≤q):=by
 by_cases h:0≤q
 ·exact propext ⟨fun _=>h,fun _=>qG4 h⟩
 ·have:=qGy (c:=q) (by grind)
  exact propext ⟨fun h'=>absurd this h',fun h'=>absurd h' h⟩
theorem qEW(b:Bool)(p q:Prop)[Decidable p][Decidable q](hb:(b=true)=p):(Go.Eng.beq b (decide q))=decide (p↔q):=by
 subst hb
 by_cases hq:q<;>cases b<;>simp[Go.Eng.beq,hq]<;>rfl
set_option maxHeartbeats 2000000 in
theorem qH8{l:List DQ}(hl:GDs l){i j:Nat}(hi:i<l.length)(hj:j<l.length)(side:Int) :
  (q9w (ix l i) (ix l j) (decide (i=j)) side=none∧∃a b c d e,(j1 [.r (rD l),.i (i:Int),.i (j:Int),.i side,.i 0]).run=some (0,[.s a,.s b,.s c,.s d,.s e,.b false,.i 0])) ∨
  ∃p,q9w (ix l i) (ix l j) (decide (i=j)) side=some p∧(j1 [.r (rD l),.i (i:Int),.i (j:Int),.i side,.i 0]).run=some (0,plc p++[.b true,.i 0]):=by
 rw[qln]
 obtain⟨x1,x2,x3⟩:=qhe hi
 obtain⟨y1,y2,y3⟩:=qhe hj
 have ga:=hl.ix hi
 have gb:=hl.ix hj
 have bi:0≤(i:Int)∧(i:Int)<qh (rD l):=by rw[qv];omega
 have bj:0≤(j:Int)∧(j:Int)<qh (rD l):=by rw[qv];omega
 obtain⟨a,ha⟩:∃a,a=ix l i:=⟨_,rfl⟩
 obtain⟨b,hb⟩:∃b,b=ix l j:=⟨_,rfl⟩
 rw[←ha] at x1 x2 x3 ga ⊢
 rw[←hb] at y1 y2 y3 gb ⊢
 simp only[x1,x2,x3,y1,y2,y3]
 clear x1 x2 x3 y1 y2 y3 hb
 unfold q9w plc
 by_cases hij:i=j
 ·subst hij
  have z:tQ 0=[48]:=rfl
  by_cases hs:side=0
  ·subst hs
   right
   refine⟨⟨a.x,a.y,0,0,0⟩,by simp,?_⟩
   have e:ieq 0 0=true:=rfl
   simp only[STD,bi,and_self,z,e]
   rfl
  ·left
   refine⟨by simp[hs],tQ a.x,tQ a.y,[48],[48],[48],?_⟩
   have e:ieq side 0=false:=by simp[ieq,hs]
   simp only[STD,bi,and_self,e]
 ·have hij':¬(i:Int)=(j:Int):=by omega
  obtain⟨a1,a2,a3⟩:=ga.sh
  obtain⟨b1,b2,b3⟩:=gb.sh
  have dx:=q39 b1 a1
  have dy:=q39 b2 a2
  have far:=qpE b1 b2 a1 a2
  have h0:=qAU b1 b2 a1 a2 (by omega) (by omega) (by omega)
  have h1:=qBW dx dy dx dy (by omega) (by omega)
  have hfd:(b.x-a.x)*(b.x-a.x)+(b.y-a.y)*(b.y-a.y)=kv b.x b.y a.x a.y:=rfl
  rw[hfd] at h1
  by_cases hf:kv b.x b.y a.x a.y=0
  ·left
   refine⟨by simp[hij,hf],[],[],[],[],[],?_⟩
   simp only[STD,bi,bj,and_self,hij',h0,h1,qFg,hf]
  ·have hpb:=fun neg=>qob ga gb neg hf
   have ht:=qzy ga gb hf
   have n1:bnd 98 90 (kv b.x b.y a.x a.y+a.s):=far.add a3 (by omega) (by omega)
   have h2:=qEx far a3 (by omega) (by omega) (by omega)
   have n2:bnd 112 100 (kv b.x b.y a.x a.y+a.s-b.s):=n1.sub b3 (by omega) (by omega)
   have h3:=qy5 n1 b3 (by omega) (by omega) (by omega)
   have h4:=qyH qly far (by omega) (by omega)
   rw[qBQ] at h4
   have n4:=qly.mul far
   have hf2:2*kv b.x b.y a.x a.y≠0:=by grind
   have h5:=qIq hf2 n2 n4 (by omega) (by omega)
   have h6:=qyH ht dx (by omega) (by omega)
   have h7:=qEx a1 (ht.mul dx) (by omega) (by omega) (by omega)
   have h8:=qyH ht dy (by omega) (by omega)
   have h9:=qEx a2 (ht.mul dy) (by omega) (by omega) (by omega)
   have h10:=qy5 q94 dy (by omega) (by omega) (by omega)
   have h14:=qy5 q94 dx (by omega) (by omega) (by omega)
   rw[show tQ 0=[48] from rfl] at h10 h14
   have h11:=qIq hf a3 far (by omega) (by omega)
   have h12:=qyH ht ht (by omega) (by omega)
   have h13:=qy5 (a3.div hf far) (ht.mul ht) (by omega) (by omega) (by omega)
   have hbd:=fun (q:Rat)=>qEW (seq (tQ q) [48]) (q=0) (side=0) (qFg q)
   have hie:ieq side 0=decide (side=0):=rfl
   rw[if_neg (by simp[hij]),if_neg hf]
   obtain⟨p,hcr'⟩:∃p,p=qp a b (decide (side<0)):=⟨_,rfl⟩
   rw[←hcr']
   have hcr:=hcr'.symm
   clear hcr'
   rw[qik] at hcr
   obtain⟨t,htt⟩:∃t,t=(kv b.x b.y a.x a.y+a.s-b.s)/(2*kv b.x b.y a.x a.y):=⟨_,rfl⟩
   rw[←htt] at hcr h5 h6 h7 h8 h9 h12 h13
   obtain⟨h,hh⟩:∃h,h=a.s/kv b.x b.y a.x a.y-t*t:=⟨_,rfl⟩
   rw[←hh] at hcr h13
   have hp5:p.h=h:=by rw[←hcr]
   by_cases hs:side<0
   ·simp only[hs,decide_true,if_true] at hcr
    by_cases hn:0≤h
    ·by_cases hz:(h=0↔side=0)
     ·right
      refine⟨p,by rw[if_pos ⟨by rw[hp5];exact hn,by rw[hp5];exact hz⟩],?_⟩
      rw[←hcr]
      simp only[STD,bi,bj,and_self,hij',h0,h1,h2,h3,h4,h5,h6,h7,h8,h9,h10,h11,h12,h13,h14,qFg,hf,hs,Int.le_refl,qpb,qn5,qpv,hn,hie,hbd,hz,decide_true]
      rfl
     ·left
      refine⟨by rw[if_neg (by rw[hp5];exact fun c=>hz c.2)],tQ p.fx,tQ p.fy,tQ p.ax,tQ p.ay,tQ p.h,?_⟩
      rw[←hcr]
      simp only[STD,bi,bj,and_self,hij',h0,h1,h2,h3,h4,h5,h6,h7,h8,h9,h10,h11,h12,h13,h14,qFg,hf,hs,Int.le_refl,qpb,qn5,qpv,hn,hie,hbd,hz,decide_false]
    ·left
     refine⟨by rw[if_neg (by rw[hp5];exact fun c=>hn c.1)],tQ p.fx,tQ p.fy,tQ p.ax,tQ p.ay,tQ p.h,?_⟩
     rw[←hcr]
     simp only[STD,bi,bj,and_self,hij',h0,h1,h2,h3,h4,h5,h6,h7,h8,h9,h10,h11,h12,h13,h14,qFg,hf,hs,Int.le_refl,qpb,qn5,qpv,hn]
   ·simp only[hs,decide_false,Bool.false_eq_true,if_false] at hcr
    by_cases hn:0≤h
    ·by_cases hz:(h=0↔side=0)
     ·right
      refine⟨p,by rw[if_pos ⟨by rw[hp5];exact hn,by rw[hp5];exact hz⟩],?_⟩
      rw[←hcr]
      simp only[STD,bi,bj,and_self,hij',h0,h1,h2,h3,h4,h5,h6,h7,h8,h9,h10,h11,h12,h13,h14,qFg,hf,hs,Int.le_refl,qpb,qn5,qpv,hn,hie,hbd,hz,decide_true]
      rfl
     ·left
      refine⟨by rw[if_neg (by rw[hp5];exact fun c=>hz c.2)],tQ p.fx,tQ p.fy,tQ p.ax,tQ p.ay,tQ p.h,?_⟩
      rw[←hcr]
      simp only[STD,bi,bj,and_self,hij',h0,h1,h2,h3,h4,h5,h6,h7,h8,h9,h10,h11,h12,h13,h14,qFg,hf,hs,Int.le_refl,qpb,qn5,qpv,hn,hie,hbd,hz,decide_false]
    ·left
     refine⟨by rw[if_neg (by rw[hp5];exact fun c=>hn c.1)],tQ p.fx,tQ p.fy,tQ p.ax,tQ p.ay,tQ p.h,?_⟩
     rw[←hcr]
     simp only[STD,bi,bj,and_self,hij',h0,h1,h2,h3,h4,h5,h6,h7,h8,h9,h10,h11,h12,h13,h14,qFg,hf,hs,Int.le_refl,qpb,qn5,qpv,hn]
end Go.Eng

namespace Go.Eng
theorem qCw{a b:DQ}(ga:GD a)(gb:GD b) :
  (q2o [.s (tQ a.x),.s (tQ a.y),.s (tQ a.s),.s (tQ b.x),.s (tQ b.y),.s (tQ b.s)]).run=some (0,if kv b.x b.y a.x a.y=0 then [.s [],.s [],.s [],.s [],.s [],.b false] else plc (qp a b false)++[.b (decide (0≤(qp a b false).h))]):=by
 rw[qpB]
 obtain⟨a1,a2,a3⟩:=ga.sh
 obtain⟨b1,b2,b3⟩:=gb.sh
 have dx:=q39 b1 a1
 have dy:=q39 b2 a2
 have far:=qpE b1 b2 a1 a2
 have h0:=qzU (b1.sm (by omega) (by omega)) (b2.sm (by omega) (by omega)) (a1.sm (by omega) (by omega)) (a2.sm (by omega) (by omega))
 have s1:=dx.sm (K:=100) (by omega) (by omega)
 have s2:=dy.sm (K:=100) (by omega) (by omega)
 have h1:=qEh (K:=100) (by omega) s1 s2 s1 s2
 have hfd:(b.x-a.x)*(b.x-a.x)+(b.y-a.y)*(b.y-a.y)=kv b.x b.y a.x a.y:=rfl
 rw[hfd] at h1
 by_cases hf:kv b.x b.y a.x a.y=0
 ·rw[if_pos hf]
  simp only[STD,h0,h1,qFg,hf]
 ·rw[if_neg hf]
  have ht:=qzy ga gb hf
  have n1:bnd 98 90 (kv b.x b.y a.x a.y+a.s):=far.add a3 (by omega) (by omega)
  have h2:=q9y (far.sm (by omega) (by omega)) (a3.sm (by omega) (by omega))
  have n2:bnd 112 100 (kv b.x b.y a.x a.y+a.s-b.s):=n1.sub b3 (by omega) (by omega)
  have h3:=q4t (n1.sm (by omega) (by omega)) (b3.sm (by omega) (by omega))
  have h4:=vt (qly.sm (by omega) (by omega)) (far.sm (by omega) (by omega))
  rw[qBQ] at h4
  have n4:=qly.mul far
  have hf2:2*kv b.x b.y a.x a.y≠0:=by grind
  have h5:=quQ hf2 (n2.sm (by omega) (by omega)) (n4.sm (by omega) (by omega))
  have h6:=quQ hf (a3.sm (by omega) (by omega)) (far.sm (by omega) (by omega))
  have h7:=vt (ht.sm (by omega) (by omega)) (ht.sm (by omega) (by omega))
  have h8:=q4t ((a3.div hf far).sm (by omega) (by omega)) ((ht.mul ht).sm (by omega) (by omega))
  have n8:=(a3.div hf far).sub (ht.mul ht) (K:=314) (by omega) (by omega)
  have h9:=vt (ht.sm (by omega) (by omega)) (dx.sm (by omega) (by omega))
  have h10:=q9y (a1.sm (by omega) (by omega)) ((ht.mul dx).sm (by omega) (by omega))
  have h11:=vt (ht.sm (by omega) (by omega)) (dy.sm (by omega) (by omega))
  have h12:=q9y (a2.sm (by omega) (by omega)) ((ht.mul dy).sm (by omega) (by omega))
  have h13:=qe5 (dy.sm (by omega) (by omega))
  have h14:=q5m (n8.sm (by omega) (by omega))
  have hle:∀q:Rat,ile 0 (sgq q)=decide (0≤q):=fun q=>by
   unfold ile
   rcases q6H q with⟨h,e⟩|⟨h,e⟩|⟨h,e⟩<;>rw[e]
   ·simp;grind
   ·simp[h]
   ·simp;grind
  rw[qik]
  unfold plc
  simp only[STD,h0,h1,h2,h3,h4,h5,h6,h7,h8,h9,h10,h11,h12,h13,h14,qFg,hf,hle,qIP]
  rfl
theorem qwU(a b:DQ)(neg:Bool):(qp a b neg).h=(qp a b false).h:=rfl
theorem qEt{l:List DQ}(hl:GDs l){i j:Nat}(hi:i<l.length)(hj:j<l.length)(side:Int) :
  (q9w (ix l i) (ix l j) (decide (i=j)) side=none∧∃a b c d e,(uW [.r (rD l),.i (i:Int),.i (j:Int),.i side]).run=some (0,[.s a,.s b,.s c,.s d,.s e,.b false])) ∨
  ∃p,q9w (ix l i) (ix l j) (decide (i=j)) side=some p∧(uW [.r (rD l),.i (i:Int),.i (j:Int),.i side]).run=some (0,plc p++[.b true]):=by
 rw[qqY]
 obtain⟨x1,x2,x3⟩:=qhe hi
 obtain⟨y1,y2,y3⟩:=qhe hj
 have ga:=hl.ix hi
 have gb:=hl.ix hj
 have bi:0≤(i:Int)∧(i:Int)<qh (rD l):=by rw[qv];omega
 have bj:0≤(j:Int)∧(j:Int)<qh (rD l):=by rw[qv];omega
 obtain⟨a,ha⟩:∃a,a=ix l i:=⟨_,rfl⟩
 obtain⟨b,hb⟩:∃b,b=ix l j:=⟨_,rfl⟩
 rw[←ha] at x1 x2 x3 ga ⊢
 rw[←hb] at y1 y2 y3 gb ⊢
 have hc:=qCw ga gb
 simp only[x1,x2,x3,y1,y2,y3]
 clear x1 x2 x3 y1 y2 y3 hb
 unfold q9w plc
 by_cases hij:i=j
 ·subst hij
  have z:tQ 0=[48]:=rfl
  by_cases hs:side=0
  ·subst hs
   right
   refine⟨⟨a.x,a.y,0,0,0⟩,by simp,?_⟩
   have e:ieq 0 0=true:=rfl
   simp only[STD,bi,and_self,z,e]
   rfl
  ·left
   refine⟨by simp[hs],tQ a.x,tQ a.y,[48],[48],[48],?_⟩
   have e:ieq side 0=false:=by simp[ieq,hs]
   simp only[STD,bi,and_self,e]
 ·have hij':¬(i:Int)=(j:Int):=by omega
  by_cases hf:kv b.x b.y a.x a.y=0
  ·left
   rw[if_pos hf] at hc
   refine⟨by simp[hij,hf],[],[],[],[],[],?_⟩
   simp only[STD,bi,bj,and_self,hij',hc]
  ·rw[if_neg hf] at hc
   have hpl:∀(p:SQ) (x:PV),plc p++[x]=[.s (tQ p.fx),.s (tQ p.fy),.s (tQ p.ax),.s (tQ p.ay),.s (tQ p.h),x]:=fun _ _=>rfl
   rw[hpl] at hc
   have hbd:=fun (q:Rat)=>qEW (seq (tQ q) [48]) (q=0) (side=0) (qFg q)
   have hie:ieq side 0=decide (side=0):=rfl
   rw[if_neg (by simp[hij]),if_neg hf,qwU]
   by_cases hn:0≤(qp a b false).h
   ·by_cases hz:((qp a b false).h=0↔side=0)
    ·right
     refine⟨qp a b (decide (side<0)),by rw[if_pos ⟨hn,hz⟩],?_⟩
     by_cases hs:side<0
     ·have dx:=q39 (zv gb.x) (zv ga.x)
      have dy:=q39 (zv gb.y) (zv ga.y)
      have t1:=qe5 (a:=(qp a b false).ax) (by show sm _ (0-(b.y-a.y));rw[qIP];exact dy.neg.sm (by omega) (by omega))
      have t2:=qe5 (a:=(qp a b false).ay) (by show sm _ (b.x-a.x);exact dx.sm (by omega) (by omega))
      obtain⟨f1,f2⟩:=qvC a b
      simp only[STD,bi,bj,and_self,hij',hc,hn,hie,hbd,hz,hs,decide_true,t1,t2,f1,f2]
      rfl
     ·simp only[STD,bi,bj,and_self,hij',hc,hn,hie,hbd,hz,hs,decide_true,decide_false]
      rfl
    ·left
     refine⟨by rw[if_neg (fun c=>hz c.2)],[],[],[],[],[],?_⟩
     simp only[STD,bi,bj,and_self,hij',hc,hn,hie,hbd,hz,decide_true,decide_false]
   ·left
    refine⟨by rw[if_neg (fun c=>hn c.1)],[],[],[],[],[],?_⟩
    simp only[STD,bi,bj,and_self,hij',hc,hn,decide_false]
theorem qxd{α:Type}(p:Nat→Bool)(g:Nat→α)(n:Nat):(yQ (fun i=>if p i=true then none else some (g i)) 0 n=none∧∀i,i<n→p i=true)∨∃i,i<n∧p i=false∧yQ (fun i=>if p i=true then none else some (g i)) 0 n=some (g i):=by
 cases h:yQ (fun i=>if p i=true then none else some (g i)) 0 n with
 | none=>
  refine .inl ⟨rfl,fun i hi=>?_⟩
  have:=q3L h i (by omega) (by omega)
  cases hp:p i
  ·rw[hp] at this;simp at this
  ·rfl
 | some a=>
  obtain⟨j,-,hj,hf,-⟩:=q5i h
  cases hp:p j
  ·rw[hp] at hf;simp at hf
   exact .inr ⟨j,by omega,hp,by rw[hf]⟩
  ·rw[hp] at hf;simp at hf
theorem qyw(l:List DQ)(p:DQ→Bool):l.all p=true↔∀i,i<l.length→p (ix l i)=true:=by
 rw[List.all_eq_true]
 constructor
 ·intro h i hi;exact h _ (qf2 hi)
 ·intro h d hd
  obtain⟨i,hi,rfl⟩:=qcD hd
  exact h i hi
theorem qvY{l:List DQ}{p:DQ→Bool}{i:Nat}(hi:i<l.length)(h:p (ix l i)=false):l.all p=false:=by
 cases ha:l.all p
 ·rfl
 ·have:=(qyw l p).1 ha i hi;simp_all
theorem qvN{l:List DQ}(hl:GDs l)(hn:l.length<1000000){i j:Nat}(hi:i<l.length)(hj:j<l.length)(side:Int) :
  (qS [.r (rD l),.i (i:Int),.i (j:Int),.i side,.i 0]).run=some (0,[.b (q0Z l i j side),.i 0]):=by
 rw[qk5]
 unfold q0Z
 rcases qH8 hl hi hj side with⟨h1,a,b,c,d,e,h2⟩|⟨p,h1,h2⟩
 ·rw[h1]
  simp only[STD,h2]
 ·rw[h1]
  have hp:=qBI (hl.ix hi) (hl.ix hj) h1
  unfold plc at h2
  simp only[List.cons_append,List.nil_append] at h2
  have key:=q7m (S:=vb)
   (fun k=>[.r (rD l),.i (qh (rD l)),.i (k:Int),.r (rD l),.r (rD l),.r (rD l),.i (i:Int),.i (j:Int),.i side,.b true,.s (tQ p.fx),.s (tQ p.fy),.s (tQ p.ax),.s (tQ p.ay),.s (tQ p.h),.b true,.r (rD l),.i (i:Int),.i (j:Int),.i side,.s (tQ p.fx),.s (tQ p.fy),.s (tQ p.ax),.s (tQ p.ay),.s (tQ p.h),.b true,.s (tQ p.fx),.s (tQ p.fy),.s (tQ p.ax),.s (tQ p.ay),.s (tQ p.h),.b true,.b true,.r (rD l),.i 0,.i (i:Int),.i (j:Int),.i side,.s (tQ p.fx),.s (tQ p.fy),.s (tQ p.ax),.s (tQ p.ay),.s (tQ p.h)])
   (fun k=>if decide (u6 (ix l k) p)=true then none else some (1,[.i (k:Int),.r (rD l),.r (rD l),.r (rD l),.i (i:Int),.i (j:Int),.i side,.b true,.s (tQ p.fx),.s (tQ p.fy),.s (tQ p.ax),.s (tQ p.ay),.s (tQ p.h),.b true,.r (rD l),.i (i:Int),.i (j:Int),.i side,.s (tQ p.fx),.s (tQ p.fy),.s (tQ p.ax),.s (tQ p.ay),.s (tQ p.h),.b true,.s (tQ p.fx),.s (tQ p.fy),.s (tQ p.ax),.s (tQ p.ay),.s (tQ p.h),.b true,.b true,.r (rD l),.i 0,.i (i:Int),.i (j:Int),.i side,.s (tQ p.fx),.s (tQ p.fy),.s (tQ p.ax),.s (tQ p.ay),.s (tQ p.h)]))
   (0,[.r (rD l),.r (rD l),.r (rD l),.i (i:Int),.i (j:Int),.i side,.b true,.s (tQ p.fx),.s (tQ p.fy),.s (tQ p.ax),.s (tQ p.ay),.s (tQ p.h),.b true,.r (rD l),.i (i:Int),.i (j:Int),.i side,.s (tQ p.fx),.s (tQ p.fy),.s (tQ p.ax),.s (tQ p.ay),.s (tQ p.h),.b true,.s (tQ p.fx),.s (tQ p.fy),.s (tQ p.ax),.s (tQ p.ay),.s (tQ p.h),.b true,.b true,.r (rD l),.i 0,.i (i:Int),.i (j:Int),.i side,.s (tQ p.fx),.s (tQ p.fy),.s (tQ p.ax),.s (tQ p.ay),.s (tQ p.h)])
   l.length (by omega)
   (fun k hk hf=>by
    rw[kr]
    obtain⟨x1,x2,x3⟩:=qhe hk
    have hK:=qEr (hl.ix hk) hp
    by_cases hd:u6 (ix l k) p
    ·simp only[x1,x2,x3,STD,hK,hd,qv,kd hk (show l.length<9223372036854775808 by omega),show (k:Int)<(l.length:Int) by omega,show (0:Int)≤(k:Int) by omega,and_self,decide_true]
    ·simp[hd] at hf)
   (fun k r hk hf=>by
    rw[kr]
    obtain⟨x1,x2,x3⟩:=qhe hk
    have hK:=qEr (hl.ix hk) hp
    by_cases hd:u6 (ix l k) p
    ·simp[hd] at hf
    ·simp only[hd,decide_false,Bool.false_eq_true,if_false,Option.some.injEq] at hf
     subst hf
     simp only[x1,x2,x3,STD,hK,hd,qv,show (k:Int)<(l.length:Int) by omega,show (0:Int)≤(k:Int) by omega,and_self,decide_false])
   (by rw[kr];simp only[STD,qv,show ¬(l.length:Int)<(l.length:Int) by omega])
  rcases qxd (fun k=>decide (u6 (ix l k) p)) (fun k=>((1,[.i (k:Int),.r (rD l),.r (rD l),.r (rD l),.i (i:Int),.i (j:Int),.i side,.b true,.s (tQ p.fx),.s (tQ p.fy),.s (tQ p.ax),.s (tQ p.ay),.s (tQ p.h),.b true,.r (rD l),.i (i:Int),.i (j:Int),.i side,.s (tQ p.fx),.s (tQ p.fy),.s (tQ p.ax),.s (tQ p.ay),.s (tQ p.h),.b true,.s (tQ p.fx),.s (tQ p.fy),.s (tQ p.ax),.s (tQ p.ay),.s (tQ p.h),.b true,.b true,.r (rD l),.i 0,.i (i:Int),.i (j:Int),.i side,.s (tQ p.fx),.s (tQ p.fy),.s (tQ p.ax),.s (tQ p.ay),.s (tQ p.h)]):Nat×List PV)) l.length with⟨s1,s2⟩|⟨k,hk,s2,s1⟩
  ·rw[s1] at key
   have hall:(l.all fun d=>decide (u6 d p))=true:=(qyw l _).2 s2
   simp only[Option.getD_none] at key
   simp only[STD,h2,hall]
   have key':=key
   simp only[show ((0:Nat):Int)=0 from rfl] at key'
   simp only[STD,key',qu key',show ieq 0 0=true from rfl]
  ·rw[s1] at key
   have hall:=qvY (p:=fun d=>decide (u6 d p)) hk s2
   simp only[Option.getD_some] at key
   simp only[STD,h2,hall]
   have key':=key
   simp only[show ((0:Nat):Int)=0 from rfl] at key'
   simp only[STD,key',qu key',show ¬(1=0) by omega,show (0:Int)≤(k:Int) by omega]
theorem qvM{l:List DQ}(hl:GDs l)(hn:l.length<1000000){i j:Nat}(hi:i<l.length)(hj:j<l.length)(side:Int) :
  (zN [.r (rD l),.i (i:Int),.i (j:Int),.i side]).run=some (0,[.b (q0Z l i j side)]):=by
 rw[qtC]
 unfold q0Z
 rcases qEt hl hi hj side with⟨h1,a,b,c,d,e,h2⟩|⟨p,h1,h2⟩
 ·rw[h1]
  simp only[STD,h2]
 ·rw[h1]
  have hp:=qBI (hl.ix hi) (hl.ix hj) h1
  unfold plc at h2
  simp only[List.cons_append,List.nil_append] at h2
  have key:=q7m (S:=q22)
   (fun k=>[.r (rD l),.i (k:Int),.s (tQ p.fx),.s (tQ p.fy),.s (tQ p.ax),.s (tQ p.ay),.s (tQ p.h)])
   (fun k=>if decide (u6 (ix l k) p)=true then none else some (1,[.b false]))
   (0,[]) l.length (by omega)
   (fun k hk hf=>by
    rw[q8f]
    obtain⟨x1,x2,x3⟩:=qhe hk
    have hK:=qDz (hl.ix hk) hp.pb
    by_cases hd:u6 (ix l k) p
    ·simp only[x1,x2,x3,STD,hK,hd,qv,kd hk (show l.length<9223372036854775808 by omega),show (k:Int)<(l.length:Int) by omega,show (0:Int)≤(k:Int) by omega,and_self,decide_true]
    ·simp[hd] at hf)
   (fun k r hk hf=>by
    rw[q8f]
    obtain⟨x1,x2,x3⟩:=qhe hk
    have hK:=qDz (hl.ix hk) hp.pb
    by_cases hd:u6 (ix l k) p
    ·simp[hd] at hf
    ·simp only[hd,decide_false,Bool.false_eq_true,if_false,Option.some.injEq] at hf
     subst hf
     simp only[x1,x2,x3,STD,hK,hd,qv,show (k:Int)<(l.length:Int) by omega,show (0:Int)≤(k:Int) by omega,and_self,decide_false])
   (by rw[q8f];simp only[STD,qv,show ¬(l.length:Int)<(l.length:Int) by omega])
  rcases qxd (fun k=>decide (u6 (ix l k) p)) (fun k=>((1,[.b false]):Nat×List PV)) l.length with⟨s1,s2⟩|⟨k,hk,s2,s1⟩
  ·rw[s1] at key
   have hall:(l.all fun d=>decide (u6 d p))=true:=(qyw l _).2 s2
   simp only[Option.getD_none,show ((0:Nat):Int)=0 from rfl] at key
   simp only[STD,h2,hall,key,qu key]
  ·rw[s1] at key
   have hall:=qvY (p:=fun d=>decide (u6 d p)) hk s2
   simp only[Option.getD_some,show ((0:Nat):Int)=0 from rfl] at key
   simp only[STD,h2,hall,key,qu key,show ¬(1=0) by omega]
end Go.Eng

namespace Go.Eng
theorem j7{S:List PV→TR}{α:Type}(st:Nat→List PV)(f:Nat→Option α)(g:α→List PV)(fin:List PV)(n:Nat)(hn:n<9223372036854775808)
  (h:∀i,i<n→(S (st i)).run=(f i).elim (some (0,st (i+1))) (fun a=>some (2,g a))) (h3:(S (st n)).run=some (1,fin)) :
  (qf S (st 0)).run=some ((yQ f 0 n).elim (0,fin) (fun a=>(1,g a))):=by
 have key:=q7m st (fun i=>(f i).map fun a=>(1,g a)) (0,fin) n hn (fun i hi hf=>by
  rw[h i hi]
  cases hfi:f i with
  | none=>rfl
  | some a=>rw[hfi] at hf;cases hf) (fun i r hi hf=>by
  rw[h i hi]
  cases hfi:f i with
  | none=>rw[hfi] at hf;cases hf
  | some a=>rw[hfi] at hf;simp at hf;rw[←hf];rfl) h3
 rw[key,qgJ]
 cases yQ f 0 n<;>rfl
def sd(s:Nat):Int:=cI [[.i 0],[.i 1],[.i (-1)]] (s:Int) 0
theorem qvl(l:List DQ)(i j:Nat):yQ (fun s=>qov l i j (sd s)) 0 3=q9s l i j:=by
 have e0:sd 0=0:=rfl
 have e1:sd 1=1:=rfl
 have e2:sd 2=-1:=rfl
 simp only[yQ,e0,e1,e2]
 unfold q9s
 cases qov l i j 0
 ·cases qov l i j 1
  ·cases qov l i j (-1)<;>rfl
  ·rfl
 ·rfl
def dex(l:List DQ)(w:Nat×Nat×Int):List PV:=[.i 0,.r (rD l),.i (w.1:Int),.i (w.2.1:Int),.i w.2.2,.b true,.i (l.length:Int)]
def rex(w:Nat×Nat×Int):List PV:=[.b true,.i (w.1:Int),.i (w.2.1:Int),.i w.2.2]
def fW(o:Option (Nat×Nat×Int)):List PV:=o.elim [.i 0,.i 0,.i 0,.b false] (fun w=>[.i (w.1:Int),.i (w.2.1:Int),.i w.2.2,.b true])
theorem n3:qh [[U.i 0],[U.i 1],[U.i (-1)]]=3:=rfl
set_option maxHeartbeats 600000 in
theorem qAb{l:List DQ}(hl:GDs l)(hn:l.length<1000000):(qH [.r (rD l),.i 0]).run=some (0,fW (ka l)++[.i 0]):=by
 rw[qlK]
 have big:l.length<9223372036854775808:=by omega
 have A:=j7 (S:=vG) (fun k=>[.i (l.length:Int),.i (k:Int),.i 0,.r (rD l),.i 0,.i 0,.i 0,.b false,.i (l.length:Int)]) (fun k=>qov l k k 0) (dex l)
  [.i 0,.r (rD l),.i 0,.i 0,.i 0,.b false,.i (l.length:Int)] l.length big
  (fun k hk=>by
   rw[q5x]
   have hp:=qvN hl hn hk hk 0
   unfold qov
   by_cases c:q0Z l k k 0=true
   ·rw[if_pos c]
    simp only[STD,hp,c,show (k:Int)<(l.length:Int) by omega,dex]
   ·rw[if_neg c]
    simp only[STD,hp,c,show (k:Int)<(l.length:Int) by omega,kd hk big]
    rfl)
  (by rw[q5x];simp only[STD,show ¬(l.length:Int)<(l.length:Int) by omega])
 have B:=fun i j (hi:i<l.length) (hj:j<l.length)=>j7 (S:=vl) (fun s=>[.i (i:Int),.i (j:Int),.i (l.length:Int),.i (i:Int),.i 3,.i (s:Int),.i 0,.r (rD l),.i 0,.i 0,.i 0,.b false,.i (l.length:Int),.r [[.i 0],[.i 1],[.i (-1)]]]) (fun s=>qov l i j (sd s)) (dex l)
  [.i (i:Int),.i (j:Int),.i (l.length:Int),.i (i:Int),.i 0,.r (rD l),.i 0,.i 0,.i 0,.b false,.i (l.length:Int)] 3 (by omega)
  (fun s hs=>by
   rw[q4J]
   have hp:=qvN hl hn hi hj (sd s)
   have esd:cI [[.i 0],[.i 1],[.i (-1)]] (s:Int) 0=sd s:=rfl
   unfold qov
   by_cases c:q0Z l i j (sd s)=true
   ·rw[if_pos c]
    simp only[STD,hp,c,esd,n3,show (s:Int)<3 by omega,show (0:Int)≤(s:Int) by omega,and_self,dex]
   ·rw[if_neg c]
    simp only[STD,hp,c,esd,n3,show (s:Int)<3 by omega,show (0:Int)≤(s:Int) by omega,and_self,kd hs (show 3<9223372036854775808 by omega)]
    rfl)
  (by rw[q4J];simp only[STD,show ((3:Nat):Int)=3 from rfl,show ¬(3:Int)<3 by omega])
 have C:=fun i (hi:i<l.length)=>j7 (S:=vn) (fun k=>[.i (i:Int),.i ((i+1+k:Nat):Int),.i (l.length:Int),.i (i:Int),.i 0,.r (rD l),.i 0,.i 0,.i 0,.b false,.i (l.length:Int)]) (fun k=>q9s l i (i+1+k)) (dex l)
  [.i (l.length:Int),.i (i:Int),.i 0,.r (rD l),.i 0,.i 0,.i 0,.b false,.i (l.length:Int)] (l.length-(i+1)) (by omega)
  (fun k hk=>by
   rw[q4K]
   have hj:i+1+k<l.length:=by omega
   have b:=B i (i+1+k) hi hj
   rw[qvl] at b
   simp only[show ((0:Nat):Int)=0 from rfl] at b
   have w:=kd hj big
   cases hs:q9s l i (i+1+k) with
   | none=>
    rw[hs] at b
    simp only[Option.elim] at b ⊢
    simp only[STD,b,qu b,n3,show ((i+1+k:Nat):Int)<(l.length:Int) by omega,w]
    rfl
   | some v=>
    rw[hs] at b
    simp only[Option.elim,dex] at b ⊢
    simp only[STD,b,qu b,n3,show ((i+1+k:Nat):Int)<(l.length:Int) by omega,show ¬(1=0) by omega])
  (by rw[q4K];simp only[STD,show ¬((i+1+(l.length-(i+1)):Nat):Int)<(l.length:Int) by omega])
 have D:=j7 (S:=vL) (fun i=>[.i (l.length:Int),.i (i:Int),.i 0,.r (rD l),.i 0,.i 0,.i 0,.b false,.i (l.length:Int)]) (fun i=>yQ (fun k=>q9s l i (i+1+k)) 0 (l.length-(i+1))) (dex l)
  [.i 0,.r (rD l),.i 0,.i 0,.i 0,.b false,.i (l.length:Int)] l.length big
  (fun i hi=>by
   rw[q5e]
   have c:=C i hi
   simp only[Nat.add_zero] at c
   have w:=kd hi big
   cases hs:yQ (fun k=>q9s l i (i+1+k)) 0 (l.length-(i+1)) with
   | none=>
    rw[hs] at c
    simp only[Option.elim] at c ⊢
    simp only[STD,w,c,qu c,show (i:Int)<(l.length:Int) by omega]
   | some v=>
    rw[hs] at c
    simp only[Option.elim,dex] at c ⊢
    simp only[STD,w,c,qu c,show (i:Int)<(l.length:Int) by omega,show ¬(1=0) by omega])
  (by rw[q5e];simp only[STD,show ¬(l.length:Int)<(l.length:Int) by omega])
 simp only[show ((0:Nat):Int)=0 from rfl] at A D
 unfold ka
 cases hs:yQ (fun i=>qov l i i 0) 0 l.length with
 | some v=>
  rw[hs] at A
  simp only[Option.elim,dex] at A
  simp only[STD,qv,A,qu A,show ¬(1=0) by omega,fW,Option.elim]
  rfl
 | none=>
  rw[hs] at A
  simp only[Option.elim] at A
  simp only[]
  cases hs':yQ (fun i=>yQ (fun k=>q9s l i (i+1+k)) 0 (l.length-(i+1))) 0 l.length with
  | none=>
   rw[hs'] at D
   simp only[Option.elim] at D
   simp only[STD,qv,A,qu A,D,qu D,fW,Option.elim]
   rfl
  | some v=>
   rw[hs'] at D
   simp only[Option.elim,dex] at D
   simp only[STD,qv,A,qu A,D,qu D,fW,Option.elim,show ¬(1=0) by omega]
   rfl
set_option maxHeartbeats 600000 in
theorem qwG{l:List DQ}(hl:GDs l)(hn:l.length<1000000):(zF [.r (rD l)]).run=some (0,fW (ka l)):=by
 rw[qtP]
 have big:l.length<9223372036854775808:=by omega
 have A:=j7 (S:=q3h) (fun k=>[.r (rD l),.i (k:Int),.i 0,.i 0,.i 0]) (fun k=>qov l k k 0) rex
  [.r (rD l),.i 0,.i 0,.i 0] l.length big
  (fun k hk=>by
   rw[qhw]
   have hp:=qvM hl hn hk hk 0
   unfold qov
   by_cases c:q0Z l k k 0=true
   ·rw[if_pos c]
    simp only[STD,hp,c,qv,show (k:Int)<(l.length:Int) by omega,rex]
   ·rw[if_neg c]
    simp only[STD,hp,c,qv,show (k:Int)<(l.length:Int) by omega,kd hk big]
    rfl)
  (by rw[qhw];simp only[STD,qv,show ¬(l.length:Int)<(l.length:Int) by omega])
 have B:=fun i j (hi:i<l.length) (hj:j<l.length)=>j7 (S:=q25) (fun s=>[.r (rD l),.i (i:Int),.i (j:Int),.i 3,.i (s:Int),.i 0,.i 0,.i 0,.r [[.i 0],[.i 1],[.i (-1)]]]) (fun s=>qov l i j (sd s)) rex
  [.r (rD l),.i (i:Int),.i (j:Int),.i 0,.i 0,.i 0] 3 (by omega)
  (fun s hs=>by
   rw[qfe]
   have hp:=qvM hl hn hi hj (sd s)
   have esd:cI [[.i 0],[.i 1],[.i (-1)]] (s:Int) 0=sd s:=rfl
   unfold qov
   by_cases c:q0Z l i j (sd s)=true
   ·rw[if_pos c]
    simp only[STD,hp,c,esd,n3,show (s:Int)<3 by omega,show (0:Int)≤(s:Int) by omega,and_self,rex]
   ·rw[if_neg c]
    simp only[STD,hp,c,esd,n3,show (s:Int)<3 by omega,show (0:Int)≤(s:Int) by omega,and_self,kd hs (show 3<9223372036854775808 by omega)]
    rfl)
  (by rw[qfe];simp only[STD,show ((3:Nat):Int)=3 from rfl,show ¬(3:Int)<3 by omega])
 have C:=fun i (hi:i<l.length)=>j7 (S:=q2q) (fun k=>[.r (rD l),.i (i:Int),.i ((i+1+k:Nat):Int),.i 0,.i 0,.i 0]) (fun k=>q9s l i (i+1+k)) rex
  [.r (rD l),.i (i:Int),.i 0,.i 0,.i 0] (l.length-(i+1)) (by omega)
  (fun k hk=>by
   rw[qfP]
   have hj:i+1+k<l.length:=by omega
   have b:=B i (i+1+k) hi hj
   rw[qvl] at b
   simp only[show ((0:Nat):Int)=0 from rfl] at b
   have w:=kd hj big
   cases hs:q9s l i (i+1+k) with
   | none=>
    rw[hs] at b
    simp only[Option.elim] at b ⊢
    simp only[STD,b,qu b,n3,qv,show ((i+1+k:Nat):Int)<(l.length:Int) by omega,w]
    rfl
   | some v=>
    rw[hs] at b
    simp only[Option.elim,rex] at b ⊢
    simp only[STD,b,qu b,n3,qv,show ((i+1+k:Nat):Int)<(l.length:Int) by omega,show ¬(1=0) by omega])
  (by rw[qfP];simp only[STD,qv,show ¬((i+1+(l.length-(i+1)):Nat):Int)<(l.length:Int) by omega])
 have D:=j7 (S:=q2h) (fun i=>[.r (rD l),.i (i:Int),.i 0,.i 0,.i 0]) (fun i=>yQ (fun k=>q9s l i (i+1+k)) 0 (l.length-(i+1))) rex
  [.i 0,.i 0,.i 0] l.length big
  (fun i hi=>by
   rw[qfG]
   have c:=C i hi
   simp only[Nat.add_zero] at c
   have w:=kd hi big
   cases hs:yQ (fun k=>q9s l i (i+1+k)) 0 (l.length-(i+1)) with
   | none=>
    rw[hs] at c
    simp only[Option.elim] at c ⊢
    simp only[STD,w,c,qu c,qv,show (i:Int)<(l.length:Int) by omega]
   | some v=>
    rw[hs] at c
    simp only[Option.elim,rex] at c ⊢
    simp only[STD,w,c,qu c,qv,show (i:Int)<(l.length:Int) by omega,show ¬(1=0) by omega])
  (by rw[qfG];simp only[STD,qv,show ¬(l.length:Int)<(l.length:Int) by omega])
 simp only[show ((0:Nat):Int)=0 from rfl] at A D
 unfold ka
 cases hs:yQ (fun i=>qov l i i 0) 0 l.length with
 | some v=>
  rw[hs] at A
  simp only[Option.elim,rex] at A
  simp only[STD,A,qu A,show ¬(1=0) by omega,fW,Option.elim]
 | none=>
  rw[hs] at A
  simp only[Option.elim] at A
  simp only[]
  cases hs':yQ (fun i=>yQ (fun k=>q9s l i (i+1+k)) 0 (l.length-(i+1))) 0 l.length with
  | none=>
   rw[hs'] at D
   simp only[Option.elim] at D
   simp only[STD,A,qu A,D,qu D,fW,Option.elim]
  | some v=>
   rw[hs'] at D
   simp only[Option.elim,rex] at D
   simp only[STD,A,qu A,D,qu D,fW,Option.elim,show ¬(1=0) by omega]
end Go.Eng

namespace Go.Eng
theorem qEZ{d:DQ}(h:GD d):qFk (tQ d.x) (tQ d.y) (tQ d.s)=0:=
 qGV ((zv h.x).ok (by omega) (by omega)) ((zv h.y).ok (by omega) (by omega)) ((q5U h.s).ok (by omega) (by omega)) h.nn
theorem qvw{d:DQ}{px py:Rat}(gd:GD d)(hx:bnd 12 10 px)(hy:bnd 12 10 py) :
  (wx [.s (tQ d.x),.s (tQ d.y),.s (tQ d.s),.s (tQ px),.s (tQ py)]).run=some (0,[.b (decide (kv d.x d.y px py≤d.s)),.i 0]):=by
 rw[qfg]
 have ca:=qgp _ _ _ (show (tQ d.x).length≤1000000 from by have:=q8k ((zv gd.x).ok (by omega) (by omega));omega) (show (tQ d.y).length≤1000000 from by have:=q8k ((zv gd.y).ok (by omega) (by omega));omega) (show (tQ d.s).length≤1000000 from by have:=q8k ((q5U gd.s).ok (by omega) (by omega));omega)
 rw[qEZ gd] at ca
 have c0:=q5D (hx.ok (by omega) (by omega))
 have c1:=q5D (hy.ok (by omega) (by omega))
 have L:=j7 (S:=ym) (fun k=>[.i 2,.i (k:Int),.s (tQ d.x),.s (tQ d.y),.s (tQ d.s),.s (tQ px),.s (tQ py),.r [[.s (tQ px)],[.s (tQ py)]]]) (fun _=>(none:Option Nat)) (fun _=>[])
  [.s (tQ d.x),.s (tQ d.y),.s (tQ d.s),.s (tQ px),.s (tQ py)] 2 (by omega)
  (fun k hk=>by
   rw[q1O]
   have w:=kd hk (show 2<9223372036854775808 by omega)
   rcases (show k=0∨k=1 by omega) with rfl|rfl
   ·have c:(qD [.s (cS [[.s (tQ px)],[.s (tQ py)]] ((0:Nat):Int) 0)]).run=_:=c0
    simp only[STD,c,w,show ((0:Nat):Int)<2 by omega,show (0:Int)≤((0:Nat):Int) by omega,show qh [[U.s (tQ px)],[U.s (tQ py)]]=2 from rfl,and_self]
    rfl
   ·have c:(qD [.s (cS [[.s (tQ px)],[.s (tQ py)]] ((1:Nat):Int) 0)]).run=_:=c1
    simp only[STD,c,w,show ((1:Nat):Int)<2 by omega,show (0:Int)≤((1:Nat):Int) by omega,show qh [[U.s (tQ px)],[U.s (tQ py)]]=2 from rfl,and_self]
    rfl)
  (by rw[q1O];simp only[STD,show ((2:Nat):Int)=2 from rfl,show ¬(2:Int)<2 by omega])
 simp only[show ((0:Nat):Int)=0 from rfl,yQ,Option.elim] at L
 obtain⟨d1,d2,d3⟩:=gd.sh
 have f:=qJ7 d1 d2 hx hy
 have fb:=qpE d1 d2 hx hy
 have o:=qDO fb d3 (by omega) (by omega) (by omega)
 by_cases c:kv d.x d.y px py≤d.s
 ·simp only[STD,ca,show qh [[U.s (tQ px)],[U.s (tQ py)]]=2 from rfl,L,qu L,f,o,qfn,c,show ieq 0 0=true from rfl,decide_true]
 ·simp only[STD,ca,show qh [[U.s (tQ px)],[U.s (tQ py)]]=2 from rfl,L,qu L,f,o,qfn,c,decide_false]
end Go.Eng

namespace Go.Eng
noncomputable def cD(x:R)(i:Nat):Int:=qFk (cS x (i:Int) 0) (cS x (i:Int) 1) (cS x (i:Int) 2)
noncomputable def lE(x:R):Int:=if 64<x.length then 5 else if qcv (cD x) x.length=0 then (if x.length=0 then 13 else 0) else qcv (cD x) x.length
theorem qy9(x:R)(h:64<x.length∨∀i,i<x.length→∀j,(cS x (i:Int) j).length≤1000000):(zx [.r x]).run=some (0,[.i (lE x)]):=by
 rw[qwP]
 unfold lE
 by_cases hn:64<x.length
 ·have:(64:Int)<qh x:=by unfold qh;omega
  simp only[STD,this,hn]
 ·have h':∀i,i<x.length→∀j,(cS x (i:Int) j).length≤1000000:=by
   rcases h with h|h
   ·omega
   ·exact h
  have hn':¬(64:Int)<qh x:=by unfold qh;omega
  have L:=qr1 (S:=q53) (fun k=>[.r x,.r x,.i (qh x),.i (k:Int)]) (cD x) [] [.r x] x.length (by omega)
   (fun i hi=>by
    rw[qiT]
    have c:=qgp _ _ _ (h' i hi 0) (h' i hi 1) (h' i hi 2)
    have w:=kd hi (show x.length<9223372036854775808 by omega)
    by_cases e:qFk (cS x (i:Int) 0) (cS x (i:Int) 1) (cS x (i:Int) 2)=0
    ·simp only[STD,c,e,w,qB8 hi,kq,and_self,cD]
    ·simp only[STD,c,e,qB8 hi,kq,and_self,cD])
   (by rw[qiT];simp only[STD,qDu])
  simp only[show ((0:Nat):Int)=0 from rfl] at L
  by_cases e:qcv (cD x) x.length=0
  ·rw[if_pos e] at L
   by_cases z:x.length=0
   ·have:qh x=0:=by unfold qh;omega
    rw[if_neg hn,if_pos e,if_pos z]
    have L':=L
    rw[this] at L'
    simp only[STD,this,show ¬(64:Int)<0 by omega,L',qu L']
   ·have:¬qh x=0:=by unfold qh;omega
    simp only[STD,hn',L,qu L,hn,e,z,this]
  ·rw[if_neg e] at L
   simp only[STD,hn',L,qu L,hn,e,show ¬(1=0) by omega]
theorem qyD(x:R)(h:64<x.length∨∀i,i<x.length→∀j,(cS x (i:Int) j).length≤1000000):(q3u [.r x]).run=some (0,[.i (lE x)]):=by
 rw[qwf]
 unfold lE
 by_cases hn:64<x.length
 ·have:(64:Int)<qh x:=by unfold qh;omega
  simp only[STD,this,hn]
 ·have h':∀i,i<x.length→∀j,(cS x (i:Int) j).length≤1000000:=by
   rcases h with h|h
   ·omega
   ·exact h
  have hn':¬(64:Int)<qh x:=by unfold qh;omega
  have L:=qr1 (S:=q58) (fun k=>[.r x,.i (k:Int)]) (cD x) [] [.r x] x.length (by omega)
   (fun i hi=>by
    rw[qjf]
    have c:=qwW _ _ _ (h' i hi 0) (h' i hi 1) (h' i hi 2)
    have w:=kd hi (show x.length<9223372036854775808 by omega)
    by_cases e:qFk (cS x (i:Int) 0) (cS x (i:Int) 1) (cS x (i:Int) 2)=0
    ·simp only[STD,c,e,w,qB8 hi,kq,and_self,cD]
    ·simp only[STD,c,e,qB8 hi,kq,and_self,cD])
   (by rw[qjf];simp only[STD,qDu])
  simp only[show ((0:Nat):Int)=0 from rfl] at L
  by_cases e:qcv (cD x) x.length=0
  ·rw[if_pos e] at L
   by_cases z:x.length=0
   ·have:qh x=0:=by unfold qh;omega
    rw[if_neg hn,if_pos e,if_pos z]
    simp only[STD,this,show ¬(64:Int)<0 by omega,L,qu L]
   ·have:¬qh x=0:=by unfold qh;omega
    simp only[STD,hn',L,qu L,hn,e,z,this]
  ·rw[if_neg e] at L
   simp only[STD,hn',L,qu L,hn,e,show ¬(1=0) by omega]
instance (s:List UInt8):Decidable (shT s):=by unfold shT;infer_instance
theorem qGT(x:R)(i:Nat)(j:Nat):cS x (i:Int) j=((x.getD i []).getD j (.i 0)).toS:=rfl
theorem qIe{l:List DQ}(hl:GDs l)(h0:l≠[])(hn:l.length≤64):lE (rD l)=0:=by
 have hlen:(rD l).length=l.length:=by simp[rD]
 have hz:l.length≠0:=fun h=>h0 (List.length_eq_zero_iff.1 h)
 unfold lE
 rw[hlen,if_neg (by omega),if_neg hz,if_pos]
 refine qDd fun i hi=>?_
 obtain⟨x1,x2,x3⟩:=qhe hi
 unfold cD
 rw[x1,x2,x3]
 exact qEZ (hl.ix hi)
theorem qDH{l:List DQ}(hl:GDs l):∀i,i<(rD l).length→∀j,(cS (rD l) (i:Int) j).length≤1000000:=by
 intro i hi j
 have hi':i<l.length:=by simpa[rD] using hi
 obtain⟨x1,x2,x3⟩:=qhe hi'
 have g:=hl.ix hi'
 match j with
 | 0=>rw[x1];have:=q8k ((zv g.x).ok (by omega) (by omega));omega
 | 1=>rw[x2];have:=q8k ((zv g.y).ok (by omega) (by omega));omega
 | 2=>rw[x3];have:=q8k ((q5U g.s).ok (by omega) (by omega));omega
 | j+3=>
  rw[qGT]
  have e:(rD l).getD i []=qi8 (ix l i):=by
   unfold rD ix
   simp[List.getD_eq_getElem?_getD,hi']
  rw[e];simp[qi8,List.getD_eq_getElem?_getD,U.toS]
theorem qrJ{l:List DQ}(hl:GDs l)(h0:l≠[])(hn:l.length≤64):(zx [.r (rD l)]).run=some (0,[.i 0]):=by
 rw[qy9 _ (.inr (qDH hl)),qIe hl h0 hn]
theorem qEu{l:List DQ}(hl:GDs l)(h0:l≠[])(hn:l.length≤64):(q3u [.r (rD l)]).run=some (0,[.i 0]):=by
 rw[qyD _ (.inr (qDH hl)),qIe hl h0 hn]
def cW(o:Option (Nat×Nat×Int)):List PV:=o.elim [.b false,.i 0,.i 0,.i 0,.i 0] (fun w=>[.b true,.i (w.1:Int),.i (w.2.1:Int),.i w.2.2,.i 0])
theorem qsV{l:List DQ}(hl:GDs l)(h0:l≠[])(hn:l.length≤64):(q0s [.r (rD l)]).run=some (0,cW (ka l)):=by
 rw[qsO]
 have a:=qrJ hl h0 hn
 have b:=qAb hl (by omega)
 cases hf:ka l with
 | none=>
  rw[hf] at b
  simp only[fW,Option.elim,List.cons_append,List.nil_append] at b
  simp only[STD,a,b,cW,Option.elim]
 | some w=>
  rw[hf] at b
  simp only[fW,Option.elim,List.cons_append,List.nil_append] at b
  simp only[STD,a,b,cW,Option.elim]
def vE(n x1 x2 x3:Int):Int:=if x1<0∨n≤x1∨x2<0∨n≤x2 then 2 else if x2<x1 then 9 else if x3 < -1∨1<x3 then 1 else 0
def vB(l:List DQ)(x1 x2 x3:Int):Bool:=if vE l.length x1 x2 x3=0 then q0Z l x1.toNat x2.toNat x3 else false
theorem qzZ{l:List DQ}(hl:GDs l)(h0:l≠[])(hn:l.length≤64)(x1 x2 x3:Int):(q5r [.r (rD l),.i x1,.i x2,.i x3]).run=some (0,[.b (vB l x1 x2 x3),.i (vE l.length x1 x2 x3)]):=by
 rw[qt5]
 have a:=qrJ hl h0 hn
 unfold vB vE
 by_cases c1:x1<0
 ·simp only[STD,a,c1,true_or,show ¬((2:Int)=0) by omega]
 by_cases c2:(l.length:Int)≤x1
 ·simp only[STD,a,c1,c2,qv,true_or,or_true,show ¬((2:Int)=0) by omega]
 by_cases c3:x2<0
 ·simp only[STD,a,c1,c2,c3,qv,true_or,or_true,show ¬((2:Int)=0) by omega]
 by_cases c4:(l.length:Int)≤x2
 ·simp only[STD,a,c1,c2,c3,c4,qv,or_true,show ¬((2:Int)=0) by omega]
 by_cases c5:x2<x1
 ·simp only[STD,a,c1,c2,c3,c4,c5,qv,or_self,show ¬((9:Int)=0) by omega]
 by_cases c6:x3 < -1
 ·simp only[STD,a,c1,c2,c3,c4,c5,c6,qv,or_self,true_or,show ¬((1:Int)=0) by omega]
 by_cases c7:1<x3
 ·simp only[STD,a,c1,c2,c3,c4,c5,c6,c7,qv,or_self,or_true,show ¬((1:Int)=0) by omega]
 have p:=qvN hl (by omega) (i:=x1.toNat) (j:=x2.toNat) (by omega) (by omega) x3
 rw[show ((x1.toNat:Nat):Int)=x1 by omega,show ((x2.toNat:Nat):Int)=x2 by omega] at p
 simp only[STD,a,c1,c2,c3,c4,c5,c6,c7,qv,or_self,p]
theorem qzm{l:List DQ}(hl:GDs l)(h0:l≠[])(hn:l.length≤64)(x1 x2 x3:Int):(q56 [.r (rD l),.i x1,.i x2,.i x3]).run=some (0,[.b (vB l x1 x2 x3),.i (vE l.length x1 x2 x3)]):=by
 rw[qtq]
 have a:=qEu hl h0 hn
 have nr:qh [[U.i x1],[U.i x2]]=2:=rfl
 have L:=j7 (S:=q2k) (fun k=>[.r (rD l),.i 2,.i (k:Int),.i x1,.i x2,.i x3,.r [[.i x1],[.i x2]]]) (fun k=>if cI [[.i x1],[.i x2]] (k:Int) 0<0∨(l.length:Int)≤cI [[.i x1],[.i x2]] (k:Int) 0 then some () else none) (fun _=>[.b false,.i 2])
  [.r (rD l),.i x1,.i x2,.i x3] 2 (by omega)
  (fun k hk=>by
   rw[qfL]
   have w:=kd hk (show 2<9223372036854775808 by omega)
   by_cases c:cI [[.i x1],[.i x2]] (k:Int) 0<0
   ·rw[if_pos (.inl c)]
    simp only[STD,nr,show (k:Int)<2 by omega,kq,and_self,c]
    try rfl
   ·by_cases c':(l.length:Int)≤cI [[.i x1],[.i x2]] (k:Int) 0
    ·rw[if_pos (.inr c')]
     simp only[STD,nr,qv,show (k:Int)<2 by omega,kq,and_self,c,c']
     try rfl
    ·rw[if_neg (by intro h;rcases h with h|h;exact c h;exact c' h)]
     simp only[STD,nr,qv,show (k:Int)<2 by omega,kq,and_self,c,c',w]
     rfl)
  (by rw[qfL];simp only[STD,show ((2:Nat):Int)=2 from rfl,show ¬(2:Int)<2 by omega])
 have d0:cI [[.i x1],[.i x2]] ((0:Nat):Int) 0=x1:=rfl
 have d1:cI [[.i x1],[.i x2]] ((0+1:Nat):Int) 0=x2:=rfl
 simp only[yQ,d0,d1] at L
 simp only[show ((0:Nat):Int)=0 from rfl] at L
 unfold vB vE
 by_cases c1:x1<0∨(l.length:Int)≤x1
 ·have c1':x1<0∨(l.length:Int)≤x1∨x2<0∨(l.length:Int)≤x2:=by omega
  simp only[c1,if_true,Option.elim] at L
  simp only[STD,a,nr,L,qu L,c1',show ¬(1=0) by omega,show ¬((2:Int)=0) by omega]
 by_cases c2:x2<0∨(l.length:Int)≤x2
 ·have c1':x1<0∨(l.length:Int)≤x1∨x2<0∨(l.length:Int)≤x2:=by omega
  simp only[c1,c2,if_true,if_false,Option.elim] at L
  simp only[STD,a,nr,L,qu L,c1',show ¬(1=0) by omega,show ¬((2:Int)=0) by omega]
 have c1':¬(x1<0∨(l.length:Int)≤x1∨x2<0∨(l.length:Int)≤x2):=by omega
 simp only[c1,c2,if_false,Option.elim] at L
 by_cases c5:x2<x1
 ·simp only[STD,a,nr,L,qu L,c1',c5,show ¬((9:Int)=0) by omega]
 by_cases c6:x3 < -1
 ·simp only[STD,a,nr,L,qu L,c1',c5,c6,true_or,show ¬((1:Int)=0) by omega]
 by_cases c7:1<x3
 ·simp only[STD,a,nr,L,qu L,c1',c5,c6,c7,or_true,show ¬((1:Int)=0) by omega]
 have p:=qvM hl (by omega) (i:=x1.toNat) (j:=x2.toNat) (by omega) (by omega) x3
 rw[show ((x1.toNat:Nat):Int)=x1 by omega,show ((x2.toNat:Nat):Int)=x2 by omega] at p
 simp only[STD,a,nr,L,qu L,c1',c5,c6,c7,or_self,p]
end Go.Eng

namespace Go.Eng
theorem qce(l:R)(h:l.length<9223372036854775808):(zW [.r l,.r l]).run=some (0,[.b true]):=by
 have e:(qf vO [.r l,.r l,.i (qh l),.i 0]).run=some (0,[]):=by
  refine jv (fun i=>[.r l,.r l,.i (qh l),.i (i:Int)]) (0,[]) l.length h (fun i hi=>?_) ?_
  ·have h1:(i:Int)<qh l:=by unfold qh;omega
   rw[q5k]
   simp only[STD,h1,kd hi h,show (0:Int)≤(i:Int) by omega,and_self]
  ·rw[q5k]
   simp only[STD,show ¬((l.length:Int)<qh l) by unfold qh;omega]
 rw[qh8]
 simp only[STD,e,qu e]
end Go.Eng

namespace Go.Eng
def two(i j:Nat):R:=[[.i (i:Int)],[.i (j:Int)]]
def qqA(i j k:Nat):R:=[[.i (i:Int)],[.i (j:Int)],[.i (k:Int)]]
def q87(l:List DQ)(i j:Nat):Option R:=if (ka [ix l i,ix l j]).isSome=true then none else some (two i j)
def q6z(l:List DQ)(i j k:Nat):Option R:=if (ka [ix l i,ix l j,ix l k]).isSome=true then none else some (qqA i j k)
def qAk(l:List DQ):Option R:=yQ (fun i=>yQ (fun k=>q87 l i (i+1+k)) 0 (l.length-(i+1))) 0 l.length
def qBZ(l:List DQ):Option R:=yQ (fun i=>yQ (fun k=>yQ (fun m=>q6z l i (i+1+k) (i+1+k+1+m)) 0 (l.length-(i+1+k+1))) 0 (l.length-(i+1))) 0 l.length
def q8n(l:List DQ):R:=(qAk l).elim ((qBZ l).getD []) id
theorem qJq{a b:DQ}(ga:GD a)(gb:GD b):GDs [a,b]:=fun d hd=>by
 simp only[List.mem_cons,List.not_mem_nil,or_false] at hd
 rcases hd with rfl|rfl<;>assumption
theorem qJo{a b c:DQ}(ga:GD a)(gb:GD b)(gc:GD c):GDs [a,b,c]:=fun d hd=>by
 simp only[List.mem_cons,List.not_mem_nil,or_false] at hd
 rcases hd with rfl|rfl|rfl<;>assumption
theorem qx1(o:Option (Nat×Nat×Int)):∃a b c,fW o=[.i a,.i b,.i c,.b o.isSome]:=by
 cases o with
 | none=>exact⟨_,_,_,rfl⟩
 | some w=>exact⟨_,_,_,rfl⟩
theorem qIW(l:List DQ)(i j k:Nat)(hk:k<2):∃m,(m=i∨m=j)∧cI (two i j) (k:Int) 0=(m:Int)∧[qi8 (ix l i),qi8 (ix l j)].take (k+1)=[qi8 (ix l i),qi8 (ix l j)].take k++[qi8 (ix l m)]:=by
 rcases (show k=0∨k=1 by omega) with rfl|rfl
 ·exact⟨i,.inl rfl,rfl,rfl⟩
 ·exact⟨j,.inr rfl,rfl,rfl⟩
theorem qJi(l:List DQ)(i j o k:Nat)(hk:k<3):∃m,(m=i∨m=j∨m=o)∧cI (qqA i j o) (k:Int) 0=(m:Int)∧[qi8 (ix l i),qi8 (ix l j),qi8 (ix l o)].take (k+1)=[qi8 (ix l i),qi8 (ix l j),qi8 (ix l o)].take k++[qi8 (ix l m)]:=by
 rcases (show k=0∨k=1∨k=2 by omega) with rfl|rfl|rfl
 ·exact⟨i,.inl rfl,rfl,rfl⟩
 ·exact⟨j,.inr (.inl rfl),rfl,rfl⟩
 ·exact⟨o,.inr (.inr rfl),rfl,rfl⟩
theorem qxF{x:R}{k:Nat}:qh (x.take k)≤qh x:=by unfold qh;rw[List.length_take];omega
theorem qBP(i j:Nat):qh (two i j)=2:=rfl
theorem qvi(i j k:Nat):qh (qqA i j k)=3:=rfl
theorem qEN{l:List DQ}(_:l.length<1000000){i j:Nat}(hi:i<l.length)(hj:j<l.length)(a b c d e f g h:Int) :
  (qf zd [.i (qh (two i j)),.i 0,.i a,.i b,.i c,.i d,.i e,.r (rD l),.i f,.i g,.i h,.r (rD l),.i 0,.r (two i j),.r []]).run=some (0,[.i a,.i b,.i c,.i d,.i e,.r (rD l),.i f,.i g,.i h,.r (rD l),.i 0,.r (two i j),.r (rD [ix l i,ix l j])]):=by
 have key:=jv (S:=zd) (fun k=>[.i (qh (two i j)),.i (k:Int),.i a,.i b,.i c,.i d,.i e,.r (rD l),.i f,.i g,.i h,.r (rD l),.i 0,.r (two i j),.r ([qi8 (ix l i),qi8 (ix l j)].take k)])
  (0,[.i a,.i b,.i c,.i d,.i e,.r (rD l),.i f,.i g,.i h,.r (rD l),.i 0,.r (two i j),.r (rD [ix l i,ix l j])]) 2 (by omega)
  (fun k hk=>by
   rw[q1A]
   obtain⟨m,hm,e1,e2⟩:=qIW l i j k hk
   have hml:m<l.length:=by rcases hm with rfl|rfl<;>assumption
   obtain⟨x1,x2,x3⟩:=qhe hml
   have w:=kd hk (show 2<9223372036854775808 by omega)
   have t:=qxF (x:=[qi8 (ix l i),qi8 (ix l j)]) (k:=k)
   have t2:qh [qi8 (ix l i),qi8 (ix l j)]=2:=rfl
   have t1:qh [[U.s (tQ (ix l m).x),U.s (tQ (ix l m).y),U.s (tQ (ix l m).s)]]=1:=rfl
   rw[e1,x1,x2,x3,e2]
   simp only[STD,qBP,show (k:Int)<2 by omega,kq,qv,show (m:Int)<(l.length:Int) by omega,and_self,w,show qh ([qi8 (ix l i),qi8 (ix l j)].take k)+qh [[U.s (tQ (ix l m).x),U.s (tQ (ix l m).y),U.s (tQ (ix l m).s)]]≤2932031007402 by omega]
   rfl)
  (by rw[q1A];simp only[STD,qBP,show ¬((2:Nat):Int)<2 by omega];rfl)
 exact key
theorem qEK{l:List DQ}(_:l.length<1000000){i j o:Nat}(hi:i<l.length)(hj:j<l.length)(ho:o<l.length)(a b c d e f g h p q:Int) :
  (qf zb [.i (qh (qqA i j o)),.i 0,.i a,.i b,.i c,.i d,.i e,.i f,.r (rD l),.i g,.i h,.i p,.i q,.r (rD l),.i 0,.r (qqA i j o),.r []]).run=some (0,[.i a,.i b,.i c,.i d,.i e,.i f,.r (rD l),.i g,.i h,.i p,.i q,.r (rD l),.i 0,.r (qqA i j o),.r (rD [ix l i,ix l j,ix l o])]):=by
 have key:=jv (S:=zb) (fun k=>[.i (qh (qqA i j o)),.i (k:Int),.i a,.i b,.i c,.i d,.i e,.i f,.r (rD l),.i g,.i h,.i p,.i q,.r (rD l),.i 0,.r (qqA i j o),.r ([qi8 (ix l i),qi8 (ix l j),qi8 (ix l o)].take k)])
  (0,[.i a,.i b,.i c,.i d,.i e,.i f,.r (rD l),.i g,.i h,.i p,.i q,.r (rD l),.i 0,.r (qqA i j o),.r (rD [ix l i,ix l j,ix l o])]) 3 (by omega)
  (fun k hk=>by
   rw[q1B]
   obtain⟨m,hm,e1,e2⟩:=qJi l i j o k hk
   have hml:m<l.length:=by rcases hm with rfl|rfl|rfl<;>assumption
   obtain⟨x1,x2,x3⟩:=qhe hml
   have w:=kd hk (show 3<9223372036854775808 by omega)
   have t:=qxF (x:=[qi8 (ix l i),qi8 (ix l j),qi8 (ix l o)]) (k:=k)
   have t2:qh [qi8 (ix l i),qi8 (ix l j),qi8 (ix l o)]=3:=rfl
   have t1:qh [[U.s (tQ (ix l m).x),U.s (tQ (ix l m).y),U.s (tQ (ix l m).s)]]=1:=rfl
   rw[e1,x1,x2,x3,e2]
   simp only[STD,qvi,show (k:Int)<3 by omega,kq,qv,show (m:Int)<(l.length:Int) by omega,and_self,w,show qh ([qi8 (ix l i),qi8 (ix l j),qi8 (ix l o)].take k)+qh [[U.s (tQ (ix l m).x),U.s (tQ (ix l m).y),U.s (tQ (ix l m).s)]]≤2932031007402 by omega]
   rfl)
  (by rw[q1B];simp only[STD,qvi,show ¬((3:Nat):Int)<3 by omega];rfl)
 exact key
theorem qzW{l:List DQ}(hl:GDs l)(h0:l≠[])(hn:l.length≤64):(ye [.r (rD l)]).run=some (0,[.r (q8n l),.i 0]):=by
 rw[qi7]
 have a:=qrJ hl h0 hn
 have big:l.length<9223372036854775808:=by omega
 have A:=fun i (hi:i<l.length)=>j7 (S:=vM) (fun k=>[.i (i:Int),.i ((i+1+k:Nat):Int),.i (l.length:Int),.i (i:Int),.r (rD l),.i 0]) (fun k=>q87 l i (i+1+k)) (fun r=>[.i 0,.r r])
  [.i (l.length:Int),.i (i:Int),.r (rD l),.i 0] (l.length-(i+1)) (by omega)
  (fun k hk=>by
   rw[q5b]
   have hj:i+1+k<l.length:=by omega
   have g:=qEN (l:=l) (by omega) hi hj (i:Int) ((i+1+k:Nat):Int) (l.length:Int) (i:Int) ((i+1+k:Nat):Int) (l.length:Int) (i:Int) ((i+1+k:Nat):Int)
   have f:=qAb (qJq (hl.ix hi) (hl.ix hj)) (by simp)
   obtain⟨u,v,w,hfw⟩:=qx1 (ka [ix l i,ix l (i+1+k)])
   rw[hfw] at f
   simp only[List.cons_append,List.nil_append] at f
   have ws:=kd hj big
   have tw:[[U.i (i:Int)],[U.i ((i+1+k:Nat):Int)]]=two i (i+1+k):=rfl
   rw[tw]
   unfold q87
   cases hs:(ka [ix l i,ix l (i+1+k)]).isSome
   ·rw[hs] at f
    simp only[STD,qv,g,f,show ((i+1+k:Nat):Int)<(l.length:Int) by omega,show ieq 0 0=true from rfl,Option.elim,tw]
   ·rw[hs] at f
    simp only[STD,qv,g,f,show ((i+1+k:Nat):Int)<(l.length:Int) by omega,Option.elim,ws]
    rfl)
  (by rw[q5b];simp only[STD,qv,show ¬((i+1+(l.length-(i+1)):Nat):Int)<(l.length:Int) by omega])
 have B:=j7 (S:=j8) (fun i=>[.i (l.length:Int),.i (i:Int),.r (rD l),.i 0]) (fun i=>yQ (fun k=>q87 l i (i+1+k)) 0 (l.length-(i+1))) (fun r=>[.i 0,.r r])
  [.r (rD l),.i 0] l.length big
  (fun i hi=>by
   rw[q6y]
   have c:=A i hi
   simp only[Nat.add_zero] at c
   have w:=kd hi big
   cases hs:yQ (fun k=>q87 l i (i+1+k)) 0 (l.length-(i+1)) with
   | none=>
    rw[hs] at c
    simp only[Option.elim] at c ⊢
    simp only[STD,w,c,qu c,show (i:Int)<(l.length:Int) by omega]
   | some v=>
    rw[hs] at c
    simp only[Option.elim] at c ⊢
    simp only[STD,w,c,qu c,show (i:Int)<(l.length:Int) by omega,show ¬(1=0) by omega])
  (by rw[q6y];simp only[STD,show ¬(l.length:Int)<(l.length:Int) by omega])
 have C:=fun i j (hi:i<l.length) (hj:j<l.length)=>j7 (S:=vF) (fun k=>[.i (i:Int),.i (j:Int),.i ((j+1+k:Nat):Int),.i (l.length:Int),.i (i:Int),.r (rD l),.i 0]) (fun k=>q6z l i j (j+1+k)) (fun r=>[.i 0,.r r])
  [.i (i:Int),.i (j:Int),.i (l.length:Int),.i (i:Int),.r (rD l),.i 0] (l.length-(j+1)) (by omega)
  (fun k hk=>by
   rw[q5A]
   have ho:j+1+k<l.length:=by omega
   have g:=qEK (l:=l) (by omega) hi hj ho (i:Int) (j:Int) ((j+1+k:Nat):Int) (l.length:Int) (i:Int) ((j+1+k:Nat):Int) (l.length:Int) (i:Int) (j:Int) ((j+1+k:Nat):Int)
   have f:=qAb (qJo (hl.ix hi) (hl.ix hj) (hl.ix ho)) (by simp)
   obtain⟨u,v,w,hfw⟩:=qx1 (ka [ix l i,ix l j,ix l (j+1+k)])
   rw[hfw] at f
   simp only[List.cons_append,List.nil_append] at f
   have ws:=kd ho big
   have tw:[[U.i (i:Int)],[U.i (j:Int)],[U.i ((j+1+k:Nat):Int)]]=qqA i j (j+1+k):=rfl
   rw[tw]
   unfold q6z
   cases hs:(ka [ix l i,ix l j,ix l (j+1+k)]).isSome
   ·rw[hs] at f
    simp only[STD,qv,g,f,show ((j+1+k:Nat):Int)<(l.length:Int) by omega,show ieq 0 0=true from rfl,Option.elim,tw]
   ·rw[hs] at f
    simp only[STD,qv,g,f,show ((j+1+k:Nat):Int)<(l.length:Int) by omega,Option.elim,ws]
    rfl)
  (by rw[q5A];simp only[STD,qv,show ¬((j+1+(l.length-(j+1)):Nat):Int)<(l.length:Int) by omega])
 have D:=fun i (hi:i<l.length)=>j7 (S:=vR) (fun k=>[.i (i:Int),.i ((i+1+k:Nat):Int),.i (l.length:Int),.i (i:Int),.r (rD l),.i 0]) (fun k=>yQ (fun m=>q6z l i (i+1+k) (i+1+k+1+m)) 0 (l.length-(i+1+k+1))) (fun r=>[.i 0,.r r])
  [.i (l.length:Int),.i (i:Int),.r (rD l),.i 0] (l.length-(i+1)) (by omega)
  (fun k hk=>by
   rw[q5n]
   have hj:i+1+k<l.length:=by omega
   have c:=C i (i+1+k) hi hj
   simp only[Nat.add_zero] at c
   have w:=kd hj big
   cases hs:yQ (fun m=>q6z l i (i+1+k) (i+1+k+1+m)) 0 (l.length-(i+1+k+1)) with
   | none=>
    rw[hs] at c
    simp only[Option.elim] at c ⊢
    simp only[STD,w,c,qu c,qv,show ((i+1+k:Nat):Int)<(l.length:Int) by omega]
    rfl
   | some v=>
    rw[hs] at c
    simp only[Option.elim] at c ⊢
    simp only[STD,w,c,qu c,qv,show ((i+1+k:Nat):Int)<(l.length:Int) by omega,show ¬(1=0) by omega])
  (by rw[q5n];simp only[STD,qv,show ¬((i+1+(l.length-(i+1)):Nat):Int)<(l.length:Int) by omega])
 have E:=j7 (S:=vP) (fun i=>[.i (l.length:Int),.i (i:Int),.r (rD l),.i 0]) (fun i=>yQ (fun k=>yQ (fun m=>q6z l i (i+1+k) (i+1+k+1+m)) 0 (l.length-(i+1+k+1))) 0 (l.length-(i+1))) (fun r=>[.i 0,.r r])
  [.i 0] l.length big
  (fun i hi=>by
   rw[q5z]
   have c:=D i hi
   simp only[Nat.add_zero] at c
   have w:=kd hi big
   cases hs:yQ (fun k=>yQ (fun m=>q6z l i (i+1+k) (i+1+k+1+m)) 0 (l.length-(i+1+k+1))) 0 (l.length-(i+1)) with
   | none=>
    rw[hs] at c
    simp only[Option.elim] at c ⊢
    simp only[STD,w,c,qu c,show (i:Int)<(l.length:Int) by omega]
   | some v=>
    rw[hs] at c
    simp only[Option.elim] at c ⊢
    simp only[STD,w,c,qu c,show (i:Int)<(l.length:Int) by omega,show ¬(1=0) by omega])
  (by rw[q5z];simp only[STD,show ¬(l.length:Int)<(l.length:Int) by omega])
 simp only[show ((0:Nat):Int)=0 from rfl] at B E
 unfold q8n
 cases hp:qAk l with
 | some r=>
  rw[show yQ (fun i=>yQ (fun k=>q87 l i (i+1+k)) 0 (l.length-(i+1))) 0 l.length=some r from hp] at B
  simp only[Option.elim] at B
  simp only[STD,a,qv,B,qu B,Option.elim,id,show ¬(1=0) by omega]
 | none=>
  rw[show yQ (fun i=>yQ (fun k=>q87 l i (i+1+k)) 0 (l.length-(i+1))) 0 l.length=none from hp] at B
  simp only[Option.elim] at B
  cases ht:qBZ l with
  | some r=>
   rw[show yQ (fun i=>yQ (fun k=>yQ (fun m=>q6z l i (i+1+k) (i+1+k+1+m)) 0 (l.length-(i+1+k+1))) 0 (l.length-(i+1))) 0 l.length=some r from ht] at E
   simp only[Option.elim] at E
   simp only[STD,a,qv,B,qu B,E,qu E,Option.elim,Option.getD_some,show ¬(1=0) by omega]
  | none=>
   rw[show yQ (fun i=>yQ (fun k=>yQ (fun m=>q6z l i (i+1+k) (i+1+k+1+m)) 0 (l.length-(i+1+k+1))) 0 (l.length-(i+1))) 0 l.length=none from ht] at E
   simp only[Option.elim] at E
   simp only[STD,a,qv,B,qu B,E,qu E,Option.elim,Option.getD_none]
theorem qHt{l:List DQ}(hl:GDs l)(hn:l.length<1000000):(q7c [.r (rD l)]).run=some (0,[.r (q8n l)]):=by
 rw[qua]
 have big:l.length<9223372036854775808:=by omega
 have A:=fun i (hi:i<l.length)=>j7 (S:=q3X) (fun k=>[.r (rD l),.i (i:Int),.i ((i+1+k:Nat):Int)]) (fun k=>q87 l i (i+1+k)) (fun r=>[.r r])
  [.r (rD l),.i (i:Int)] (l.length-(i+1)) (by omega)
  (fun k hk=>by
   rw[qhB]
   have hj:i+1+k<l.length:=by omega
   obtain⟨x1,x2,x3⟩:=qhe hi
   obtain⟨y1,y2,y3⟩:=qhe hj
   have f:=qwG (qJq (hl.ix hi) (hl.ix hj)) (by simp)
   rw[show rD [ix l i,ix l (i+1+k)]=[[.s (tQ (ix l i).x),.s (tQ (ix l i).y),.s (tQ (ix l i).s)],[.s (tQ (ix l (i+1+k)).x),.s (tQ (ix l (i+1+k)).y),.s (tQ (ix l (i+1+k)).s)]] from rfl] at f
   obtain⟨u,v,w,hfw⟩:=qx1 (ka [ix l i,ix l (i+1+k)])
   rw[hfw] at f
   have ws:=kd hj big
   rw[x1,x2,x3,y1,y2,y3]
   unfold q87
   cases hs:(ka [ix l i,ix l (i+1+k)]).isSome
   ·rw[hs] at f
    simp only[STD,qv,f,show ((i+1+k:Nat):Int)<(l.length:Int) by omega,show (i:Int)<(l.length:Int) by omega,kq,and_self,Option.elim]
    rfl
   ·rw[hs] at f
    simp only[STD,qv,f,show ((i+1+k:Nat):Int)<(l.length:Int) by omega,show (i:Int)<(l.length:Int) by omega,kq,and_self,Option.elim,ws]
    rfl)
  (by rw[qhB];simp only[STD,qv,show ¬((i+1+(l.length-(i+1)):Nat):Int)<(l.length:Int) by omega])
 have B:=j7 (S:=q3o) (fun i=>[.r (rD l),.i (i:Int)]) (fun i=>yQ (fun k=>q87 l i (i+1+k)) 0 (l.length-(i+1))) (fun r=>[.r r])
  [.r (rD l)] l.length big
  (fun i hi=>by
   rw[qhD]
   have c:=A i hi
   simp only[Nat.add_zero] at c
   have w:=kd hi big
   cases hs:yQ (fun k=>q87 l i (i+1+k)) 0 (l.length-(i+1)) with
   | none=>
    rw[hs] at c
    simp only[Option.elim] at c ⊢
    simp only[STD,w,c,qu c,qv,show (i:Int)<(l.length:Int) by omega]
   | some v=>
    rw[hs] at c
    simp only[Option.elim] at c ⊢
    simp only[STD,w,c,qu c,qv,show (i:Int)<(l.length:Int) by omega,show ¬(1=0) by omega])
  (by rw[qhD];simp only[STD,qv,show ¬(l.length:Int)<(l.length:Int) by omega])
 have C:=fun i j (hi:i<l.length) (hj:j<l.length)=>j7 (S:=q2l) (fun k=>[.r (rD l),.i (i:Int),.i (j:Int),.i ((j+1+k:Nat):Int)]) (fun k=>q6z l i j (j+1+k)) (fun r=>[.r r])
  [.r (rD l),.i (i:Int),.i (j:Int)] (l.length-(j+1)) (by omega)
  (fun k hk=>by
   rw[qf0]
   have ho:j+1+k<l.length:=by omega
   obtain⟨x1,x2,x3⟩:=qhe hi
   obtain⟨y1,y2,y3⟩:=qhe hj
   obtain⟨z1,z2,z3⟩:=qhe ho
   have f:=qwG (qJo (hl.ix hi) (hl.ix hj) (hl.ix ho)) (by simp)
   rw[show rD [ix l i,ix l j,ix l (j+1+k)]=[[.s (tQ (ix l i).x),.s (tQ (ix l i).y),.s (tQ (ix l i).s)],[.s (tQ (ix l j).x),.s (tQ (ix l j).y),.s (tQ (ix l j).s)],[.s (tQ (ix l (j+1+k)).x),.s (tQ (ix l (j+1+k)).y),.s (tQ (ix l (j+1+k)).s)]] from rfl] at f
   obtain⟨u,v,w,hfw⟩:=qx1 (ka [ix l i,ix l j,ix l (j+1+k)])
   rw[hfw] at f
   have ws:=kd ho big
   rw[x1,x2,x3,y1,y2,y3,z1,z2,z3]
   unfold q6z
   cases hs:(ka [ix l i,ix l j,ix l (j+1+k)]).isSome
   ·rw[hs] at f
    simp only[STD,qv,f,show ((j+1+k:Nat):Int)<(l.length:Int) by omega,show (i:Int)<(l.length:Int) by omega,show (j:Int)<(l.length:Int) by omega,kq,and_self,Option.elim]
    rfl
   ·rw[hs] at f
    simp only[STD,qv,f,show ((j+1+k:Nat):Int)<(l.length:Int) by omega,show (i:Int)<(l.length:Int) by omega,show (j:Int)<(l.length:Int) by omega,kq,and_self,Option.elim,ws]
    rfl)
  (by rw[qf0];simp only[STD,qv,show ¬((j+1+(l.length-(j+1)):Nat):Int)<(l.length:Int) by omega])
 have D:=fun i (hi:i<l.length)=>j7 (S:=q26) (fun k=>[.r (rD l),.i (i:Int),.i ((i+1+k:Nat):Int)]) (fun k=>yQ (fun m=>q6z l i (i+1+k) (i+1+k+1+m)) 0 (l.length-(i+1+k+1))) (fun r=>[.r r])
  [.r (rD l),.i (i:Int)] (l.length-(i+1)) (by omega)
  (fun k hk=>by
   rw[qf4]
   have hj:i+1+k<l.length:=by omega
   have c:=C i (i+1+k) hi hj
   simp only[Nat.add_zero] at c
   have w:=kd hj big
   cases hs:yQ (fun m=>q6z l i (i+1+k) (i+1+k+1+m)) 0 (l.length-(i+1+k+1)) with
   | none=>
    rw[hs] at c
    simp only[Option.elim] at c ⊢
    simp only[STD,w,c,qu c,qv,show ((i+1+k:Nat):Int)<(l.length:Int) by omega]
    rfl
   | some v=>
    rw[hs] at c
    simp only[Option.elim] at c ⊢
    simp only[STD,w,c,qu c,qv,show ((i+1+k:Nat):Int)<(l.length:Int) by omega,show ¬(1=0) by omega])
  (by rw[qf4];simp only[STD,qv,show ¬((i+1+(l.length-(i+1)):Nat):Int)<(l.length:Int) by omega])
 have E:=j7 (S:=q2j) (fun i=>[.r (rD l),.i (i:Int)]) (fun i=>yQ (fun k=>yQ (fun m=>q6z l i (i+1+k) (i+1+k+1+m)) 0 (l.length-(i+1+k+1))) 0 (l.length-(i+1))) (fun r=>[.r r])
  [] l.length big
  (fun i hi=>by
   rw[qfY]
   have c:=D i hi
   simp only[Nat.add_zero] at c
   have w:=kd hi big
   cases hs:yQ (fun k=>yQ (fun m=>q6z l i (i+1+k) (i+1+k+1+m)) 0 (l.length-(i+1+k+1))) 0 (l.length-(i+1)) with
   | none=>
    rw[hs] at c
    simp only[Option.elim] at c ⊢
    simp only[STD,w,c,qu c,qv,show (i:Int)<(l.length:Int) by omega]
   | some v=>
    rw[hs] at c
    simp only[Option.elim] at c ⊢
    simp only[STD,w,c,qu c,qv,show (i:Int)<(l.length:Int) by omega,show ¬(1=0) by omega])
  (by rw[qfY];simp only[STD,qv,show ¬(l.length:Int)<(l.length:Int) by omega])
 simp only[show ((0:Nat):Int)=0 from rfl] at B E
 unfold q8n
 cases hp:qAk l with
 | some r=>
  rw[show yQ (fun i=>yQ (fun k=>q87 l i (i+1+k)) 0 (l.length-(i+1))) 0 l.length=some r from hp] at B
  simp only[Option.elim] at B
  simp only[STD,B,qu B,Option.elim,id,show ¬(1=0) by omega]
 | none=>
  rw[show yQ (fun i=>yQ (fun k=>q87 l i (i+1+k)) 0 (l.length-(i+1))) 0 l.length=none from hp] at B
  simp only[Option.elim] at B
  cases ht:qBZ l with
  | some r=>
   rw[show yQ (fun i=>yQ (fun k=>yQ (fun m=>q6z l i (i+1+k) (i+1+k+1+m)) 0 (l.length-(i+1+k+1))) 0 (l.length-(i+1))) 0 l.length=some r from ht] at E
   simp only[Option.elim] at E
   simp only[STD,B,qu B,E,qu E,Option.elim,Option.getD_some,show ¬(1=0) by omega]
  | none=>
   rw[show yQ (fun i=>yQ (fun k=>yQ (fun m=>q6z l i (i+1+k) (i+1+k+1+m)) 0 (l.length-(i+1+k+1))) 0 (l.length-(i+1))) 0 l.length=none from ht] at E
   simp only[Option.elim] at E
   simp only[STD,B,qu B,E,qu E,Option.elim,Option.getD_none]
end Go.Eng

namespace Go.Eng
theorem qxv{l l':List DQ}(h:qki l)(hg:∀d'∈l',∃d∈l,d.x=d'.x∧d.y=d'.y∧d.s≤d'.s):qki l':=by
 obtain⟨x,y,hm⟩:=h
 refine⟨x,y,fun d' hd'=>?_⟩
 obtain⟨d,hd,e1,e2,e3⟩:=hg d' hd'
 have:=hm d hd
 unfold pw at *
 rw[←e1,←e2]
 grind
theorem qs7{l:List DQ}(hs:∀d∈l,0≤d.s){i j:Nat}(hi:i<l.length)(hj:j<l.length):q87 l i j=none↔qki [ix l i,ix l j]:=by
 have:=qpA (l:=[ix l i,ix l j]) (by simp) (fun d hd=>by
  simp only[List.mem_cons,List.not_mem_nil,or_false] at hd
  rcases hd with rfl|rfl
  ·exact hs _ (qf2 hi)
  ·exact hs _ (qf2 hj))
 rw[←this];unfold q87
 split<;>simp_all
theorem qsP{l:List DQ}(hs:∀d∈l,0≤d.s){i j k:Nat}(hi:i<l.length)(hj:j<l.length)(hk:k<l.length):q6z l i j k=none↔qki [ix l i,ix l j,ix l k]:=by
 have:=qpA (l:=[ix l i,ix l j,ix l k]) (by simp) (fun d hd=>by
  simp only[List.mem_cons,List.not_mem_nil,or_false] at hd
  rcases hd with rfl|rfl|rfl
  ·exact hs _ (qf2 hi)
  ·exact hs _ (qf2 hj)
  ·exact hs _ (qf2 hk))
 rw[←this];unfold q6z
 split<;>simp_all
theorem qD2{l:List DQ}(hs:∀d∈l,0≤d.s):(qAk l=none∧∀i j,i<j→j<l.length→qki [ix l i,ix l j]) ∨
  ∃i j,i<j∧j<l.length∧qAk l=some (two i j)∧¬qki [ix l i,ix l j]:=by
 cases h:qAk l with
 | none=>
  refine .inl ⟨rfl,fun i j hij hj=>?_⟩
  have h1:=q3L h i (by omega) (by omega)
  have h2:=q3L h1 (j-(i+1)) (by omega) (by omega)
  simp only[show i+1+(j-(i+1))=j by omega] at h2
  exact(qs7 hs (by omega) hj).1 h2
 | some a=>
  obtain⟨i,_,hi,h1,_⟩:=q5i h
  obtain⟨k,_,hk,h2,_⟩:=q5i h1
  refine .inr ⟨i,i+1+k,by omega,by omega,?_,?_⟩
  ·unfold q87 at h2
   split at h2
   ·cases h2
   ·exact h2.symm
  ·rw[←qs7 hs (by omega) (by omega),h2];simp
theorem qCX{l:List DQ}(hs:∀d∈l,0≤d.s):(qBZ l=none∧∀i j k,i<j→j<k→k<l.length→qki [ix l i,ix l j,ix l k]) ∨
  ∃i j k,i<j∧j<k∧k<l.length∧qBZ l=some (qqA i j k)∧¬qki [ix l i,ix l j,ix l k]:=by
 cases h:qBZ l with
 | none=>
  refine .inl ⟨rfl,fun i j k hij hjk hk=>?_⟩
  have h1:=q3L h i (by omega) (by omega)
  have h2:=q3L h1 (j-(i+1)) (by omega) (by omega)
  simp only[show i+1+(j-(i+1))=j by omega] at h2
  have h3:=q3L h2 (k-(j+1)) (by omega) (by omega)
  simp only[show j+1+(k-(j+1))=k by omega] at h3
  exact(qsP hs (by omega) (by omega) hk).1 h3
 | some a=>
  obtain⟨i,_,hi,h1,_⟩:=q5i h
  obtain⟨k,_,hk,h2,_⟩:=q5i h1
  obtain⟨m,_,hm,h3,_⟩:=q5i h2
  refine .inr ⟨i,i+1+k,i+1+k+1+m,by omega,by omega,by omega,?_,?_⟩
  ·unfold q6z at h3
   split at h3
   ·cases h3
   ·exact h3.symm
  ·rw[←qsP hs (by omega) (by omega) (by omega),h3];simp
theorem qIY{l:List DQ}{i j:Nat}(hi:i<l.length)(hj:j<l.length):∀d∈[ix l i,ix l j],d∈l:=fun d hd=>by
 simp only[List.mem_cons,List.not_mem_nil,or_false] at hd
 rcases hd with rfl|rfl
 ·exact qf2 hi
 ·exact qf2 hj
theorem qJ4{l:List DQ}{i j k:Nat}(hi:i<l.length)(hj:j<l.length)(hk:k<l.length):∀d∈[ix l i,ix l j,ix l k],d∈l:=fun d hd=>by
 simp only[List.mem_cons,List.not_mem_nil,or_false] at hd
 rcases hd with rfl|rfl|rfl
 ·exact qf2 hi
 ·exact qf2 hj
 ·exact qf2 hk
theorem qyF{l:List DQ}(hs:∀d∈l,0≤d.s):(qki l∧q8n l=[]) ∨
  (¬qki l∧∃i j,i<j∧j<l.length∧q8n l=two i j∧¬qki [ix l i,ix l j]) ∨
  (¬qki l∧(∀i j,i<j→j<l.length→qki [ix l i,ix l j])∧∃i j k,i<j∧j<k∧k<l.length∧q8n l=qqA i j k∧¬qki [ix l i,ix l j,ix l k]):=by
 rcases qD2 hs with⟨h1,h2⟩|⟨i,j,hij,hj,h1,h2⟩
 ·rcases qCX hs with⟨h3,h4⟩|⟨i,j,k,hij,hjk,hk,h3,h4⟩
  ·refine .inl ⟨qFY hs h2 h4,?_⟩
   unfold q8n;rw[h1,h3];rfl
  ·refine .inr (.inr ⟨fun h=>h4 (h.mono (qJ4 (by omega) (by omega) hk)),h2,i,j,k,hij,hjk,hk,?_,h4⟩)
   unfold q8n;rw[h1,h3];rfl
 ·refine .inr (.inl ⟨fun h=>h2 (h.mono (qIY (by omega) hj)),i,j,hij,hj,?_,h2⟩)
  unfold q8n;rw[h1];rfl
end Go.Eng

namespace Go.Eng
def chk(x0 x1 x2 x3 x4 x5:Int)(x6:Bool):Int:=
 if ¬(-100000≤x0∧x0≤100000∧-100000≤x1∧x1≤100000∧1≤x2∧x2≤100000∧1≤x3∧x3≤100000) then 2
 else if x3<x2 then 9
 else if x4<0∨100000<x4∨(x6=false∧x2≤x4) then 2
 else if x5<0∨2<x5 then 1 else 0
theorem qoI(x:Int):(uO [.i x]).run=some (0,[.b (decide (-100000≤x∧x≤100000))]):=by
 rw[qzv];simp only[qo8,qbi,qjB];by_cases h:-100000≤x<;>simp[h,ile]
theorem qvm(x:Int):(q6A [.i x]).run=some (0,[.b (decide (-100000≤x∧x≤100000))]):=by
 rw[qAj];simp only[qo8,qbi,qjB];by_cases h:-100000≤x<;>simp[h,ile]
theorem qii(x:Int):(ya [.i x]).run=some (0,[.b (decide (1≤x∧x≤100000))]):=by
 rw[qw1];simp only[qo8,qbi,qjB];by_cases h:1≤x<;>simp[h,ile]
theorem qiy(x:Int):(jV [.i x]).run=some (0,[.b (decide (1≤x∧x≤100000))]):=by
 rw[qwm];simp only[qo8,qbi,qjB];by_cases h:1≤x<;>simp[h,ile]
theorem qgR(x y:Int):(uf [.i x,.i y]).run=some (0,[.b (decide (-100000≤x∧x≤100000∧-100000≤y∧y≤100000))]):=by
 rw[qug];simp only[qo8,qbi,qxE (qvm _),gB,qF6 (qvm _),List.getD_cons_zero,PV.toB,if_true,decide_eq_true_eq]
 by_cases h:-100000≤x<;>by_cases h2:x≤100000<;>simp[h,h2]
theorem qh2(x0 x1 x2 x3 x4 x5:Int)(x6:Bool):(ub [.i x0,.i x1,.i x2,.i x3,.i x4,.i x5,.b x6]).run=some (0,[.i (chk x0 x1 x2 x3 x4 x5 x6)]):=by
 rw[qu7]
 simp only[qo8,qbi,qxE (qoI _),gB,qF6 (qoI _),qxE (qii _),qF6 (qii _),List.getD_cons_zero,PV.toB,if_true,Bool.not_eq_true',decide_eq_false_iff_not,qw2,qjB]
 unfold chk
 cases x6<;>simp only[reduceCtorEq,if_true,if_false,false_and,true_and,or_false]<;>repeat' split
 all_goals first|rfl|omega
theorem qns(x0 x1 x2 x3 x4 x5:Int)(x6:Bool):(q1U [.i x0,.i x1,.i x2,.i x3,.i x4,.i x5,.b x6]).run=some (0,[.i (chk x0 x1 x2 x3 x4 x5 x6)]):=by
 rw[quw]
 simp only[qo8,qbi,qxE (qgR _ _),gB,qF6 (qgR _ _),qxE (qiy _),qF6 (qiy _),List.getD_cons_zero,PV.toB,if_true,Bool.not_eq_true',decide_eq_false_iff_not,qw2,qjB]
 unfold chk
 cases x6<;>simp only[reduceCtorEq,if_true,if_false,false_and,true_and,or_false]<;>repeat' split
 all_goals first|rfl|omega
theorem qnK{x0 x1 x2 x3 x4 x5:Int}{x6:Bool}(h:chk x0 x1 x2 x3 x4 x5 x6=0):-100000≤x0∧x0≤100000∧-100000≤x1∧x1≤100000∧1≤x2∧x2≤100000∧1≤x3∧x3≤100000∧x2≤x3∧0≤x4∧x4≤100000∧(x6=false→x4<x2)∧0≤x5∧x5≤2:=by
 unfold chk at h
 repeat' split at h
 all_goals first|omega|skip
 rename_i h1 h2 h3 h4
 cases x6<;>simp at h3 ⊢<;>omega
def side(x5:Int)(x6:Bool):Int:=if (x5=2)=(x6=true) then -1 else 1
theorem quP(x0 x1 x2 x3 x4 x5:Int)(x6:Bool)(h:0≤x5∧x5≤2):(q8L [.i x0,.i x1,.i x2,.i x3,.i x4,.i x5,.b x6]).run=some (0,[.i x0,.i x1,.i x2,.i x3,.i x4,.i x5,.b x6,.i (side x5 x6)]):=by
 rw[qzL]
 have h012:x5=0∨x5=1∨x5=2:=by omega
 cases x6<;>rcases h012 with rfl|rfl|rfl<;>rfl
theorem qic(x0 x1 x2 x3 x4 x5:Int)(x6:Bool)(x7 x8:Int):(yk [.i x0,.i x1,.i x2,.i x3,.i x4,.i x5,.b x6,.i x7,.i x8]).run=some (0,[.i (if x8<0 then x2 else x3)]):=by
 rw[qi1]
 simp only[qo8,qbi,qw2]
 split<;>rfl
end Go.Eng

namespace Go.Eng
def ext(x2 x3 x5:Int)(x6:Bool)(n:Int):Int:=if x5=0 then 0 else if (x5=1)=(x6=true) then x3-n else n-x2
theorem qkN(x0 x1 x2 x3 x4 x5:Int)(x6:Bool)(n:Int):(q0v [.i x0,.i x1,.i x2,.i x3,.i x4,.i x5,.b x6,.i n]).run=some (0,[.b (decide (x2≤n∧n≤x3))]):=by
 rw[qtB];simp only[STD];by_cases h:x2≤n<;>simp[h,ile]
theorem qtH(x0 x1 x2 x3 x4 x5:Int)(x6:Bool)(n:Int):(q2u [.i x0,.i x1,.i x2,.i x3,.i x4,.i x5,.b x6,.i n]).run=some (0,[.b (decide (x2≤n∧n≤x3))]):=by
 rw[qrU];simp only[STD];by_cases h:x2≤n<;>simp[h,ile]
theorem qno(x0 x1 x2 x3 x4 x5:Int)(x6:Bool)(n:Int)(h:1≤x2∧x2≤100000∧1≤x3∧x3≤100000∧0≤x5∧x5≤2)(hn:1≤n∧n≤100000) :
  (zB [.i x0,.i x1,.i x2,.i x3,.i x4,.i x5,.b x6,.i (side x5 x6),.i n]).run=some (0,[.i (ext x2 x3 x5 x6 n)]):=by
 rw[qfK]
 simp only[STD,qic]
 have e1:qA .i64 x2 n=x2-n:=wA (by omega)
 have e2:qA .i64 x3 n=x3-n:=wA (by omega)
 have e3:ux .i64 (-1) (x2-n)=-1*(x2-n):=q2L (by omega)
 have e4:ux .i64 1 (x3-n)=1*(x3-n):=q2L (by omega)
 unfold ext side
 by_cases h0:x5=0
 ·simp[h0]
 ·have h12:x5=1∨x5=2:=by omega
  rcases h12 with rfl|rfl<;>cases x6<;>simp[e1,e2,e3,e4]<;>omega
theorem qwn(x0 x1 x2 x3 x4 x5:Int)(x6:Bool)(n:Int)(h:1≤x2∧x2≤100000∧1≤x3∧x3≤100000∧0≤x5∧x5≤2)(hn:1≤n∧n≤100000) :
  (q1R [.i x0,.i x1,.i x2,.i x3,.i x4,.i x5,.b x6,.i n]).run=some (0,[.i (ext x2 x3 x5 x6 n)]):=by
 rw[qu8]
 have e1:qA .i64 n x2=n-x2:=wA (by omega)
 have e2:qA .i64 x3 n=x3-n:=wA (by omega)
 simp only[STD,e1,e2]
 unfold ext
 by_cases h0:x5=0
 ·simp[h0]
 ·have h12:x5=1∨x5=2:=by omega
  rcases h12 with rfl|rfl<;>cases x6<;>simp[ieq]
def qF7(x0 x1 x2 x3 x4 x5:Int)(x6:Bool)(n:Int):List PV:=
 if chk x0 x1 x2 x3 x4 x5 x6=0 then (if x2≤n∧n≤x3 then [.i (ext x2 x3 x5 x6 n),.i 0] else [.i 0,.i 2]) else [.i 0,.i (chk x0 x1 x2 x3 x4 x5 x6)]
def qwA(x0 x1 x2 x3 x4 x5:Int)(x6:Bool)(n:Int):List PV:=
 if chk x0 x1 x2 x3 x4 x5 x6=0 then (if x2≤n∧n≤x3 then [.i (x4+ext x2 x3 x5 x6 n),.i 0] else [.i 0,.i 2]) else [.i 0,.i (chk x0 x1 x2 x3 x4 x5 x6)]
theorem qrw{x2 x3 x5:Int}{x6:Bool}{n:Int}(h:1≤x2∧x2≤100000∧1≤x3∧x3≤100000)(hn:1≤n∧n≤100000):-100000≤ext x2 x3 x5 x6 n∧ext x2 x3 x5 x6 n≤100000:=by
 unfold ext;split
 ·omega
 ·split<;>omega
theorem qwY(x0 x1 x2 x3 x4 x5:Int)(x6:Bool)(n:Int):(q7q [.i x0,.i x1,.i x2,.i x3,.i x4,.i x5,.b x6,.i n]).run=some (0,qF7 x0 x1 x2 x3 x4 x5 x6 n):=by
 rw[qut]
 simp only[STD,qh2,qkN]
 unfold qF7
 by_cases hc:chk x0 x1 x2 x3 x4 x5 x6=0
 ·obtain⟨h1,h2,h3,h4,h5,h6,h7,h8,h9,h10,h11,h12,h13,h14⟩:=qnK hc
  by_cases hw:x2≤n∧n≤x3
  ·simp only[hc,hw,STD,and_self,quP _ _ _ _ _ _ _ ⟨h13,h14⟩,qno x0 x1 x2 x3 x4 x5 x6 n ⟨h5,h6,h7,h8,h13,h14⟩ ⟨by omega,by omega⟩]
  ·simp[hc,hw]
 ·simp[hc]
theorem qsA(x0 x1 x2 x3 x4 x5:Int)(x6:Bool)(n:Int):(uV [.i x0,.i x1,.i x2,.i x3,.i x4,.i x5,.b x6,.i n]).run=some (0,qwA x0 x1 x2 x3 x4 x5 x6 n):=by
 rw[qqM]
 simp only[STD,qwY]
 unfold qF7 qwA
 by_cases hc:chk x0 x1 x2 x3 x4 x5 x6=0
 ·obtain⟨h1,h2,h3,h4,h5,h6,h7,h8,h9,h10,h11,h12,h13,h14⟩:=qnK hc
  by_cases hw:x2≤n∧n≤x3
  ·have hb:=qrw (x5:=x5) (x6:=x6) (n:=n) ⟨h5,h6,h7,h8⟩ ⟨by omega,by omega⟩
   have e:qk .i64 x4 (ext x2 x3 x5 x6 n)=x4+ext x2 x3 x5 x6 n:=qO (by omega)
   simp[hc,hw,e,PV.toI]
  ·simp[hc,hw,PV.toI]
 ·simp[hc,PV.toI]
end Go.Eng

namespace Go.Eng
def qyo(a b c:Int):Int:=if -100000≤a∧a≤100000∧-100000≤b∧b≤100000∧1≤c∧c≤100000 then 0 else 2
theorem qpC{a b c:Int}(h:qyo a b c=0):-100000≤a∧a≤100000∧-100000≤b∧b≤100000∧1≤c∧c≤100000:=by
 unfold qyo at h;split at h
 ·assumption
 ·omega
theorem qq0(a b c:Int):(q3G [.i a,.i b,.i c]).run=some (0,[.i (qyo a b c)]):=by
 rw[qxj];simp only[STD,qoI,qii];unfold qyo
 repeat' split
 all_goals first|rfl|omega
theorem qq7(a b c:Int):(q3q [.i a,.i b,.i c]).run=some (0,[.i (qyo a b c)]):=by
 rw[qxi];simp only[STD,qgR,qiy];unfold qyo
 repeat' split
 all_goals first|rfl|omega
def sq2(u v:Int):Int:=u*u+v*v
theorem qFN(a b c d:Int):sq2 (a-b) (c-d)=sq2 (b-a) (d-c):=by unfold sq2;grind
def qFh(x0 x1 x2 x3 x4 x5:Int)(x6:Bool)(a b c:Int):Bool:=decide (x2≤c∧c≤x3∧4*sq2 (a-x0) (b-x1)≤(x4+ext x2 x3 x5 x6 c)*(x4+ext x2 x3 x5 x6 c))
theorem qyY(x0 x1 x2 x3 x4 x5:Int)(x6:Bool)(a b c:Int)(hc:chk x0 x1 x2 x3 x4 x5 x6=0)(hr:qyo a b c=0) :
  (q6r [.i x0,.i x1,.i x2,.i x3,.i x4,.i x5,.b x6,.i a,.i b,.i c]).run=some (0,[.b (qFh x0 x1 x2 x3 x4 x5 x6 a b c)]):=by
 rw[qxh]
 obtain⟨h1,h2,h3,h4,h5,h6,h7,h8,h9,h10,h11,h12,h13,h14⟩:=qnK hc
 obtain⟨k1,k2,k3,k4,k5,k6⟩:=qpC hr
 have e1:qA .i64 a x0=a-x0:=wA (by omega)
 have e2:qA .i64 b x1=b-x1:=wA (by omega)
 have b1:=qGv (a:=a-x0) (b:=a-x0) (A:=200000) (B:=200000) (by omega) (by omega) (by omega) (by omega)
 have b2:=qGv (a:=b-x1) (b:=b-x1) (A:=200000) (B:=200000) (by omega) (by omega) (by omega) (by omega)
 have e3:ux .i64 (a-x0) (a-x0)=(a-x0)*(a-x0):=q2L (by omega)
 have e4:ux .i64 (b-x1) (b-x1)=(b-x1)*(b-x1):=q2L (by omega)
 have e5:qk .i64 ((a-x0)*(a-x0)) ((b-x1)*(b-x1))=sq2 (a-x0) (b-x1):=qO (by omega)
 have e6:ux .i64 4 (sq2 (a-x0) (b-x1))=4*sq2 (a-x0) (b-x1):=q2L (by unfold sq2;omega)
 have hb:=qrw (x5:=x5) (x6:=x6) (n:=c) ⟨h5,h6,h7,h8⟩ ⟨k5,k6⟩
 have e7:qk .i64 x4 (ext x2 x3 x5 x6 c)=x4+ext x2 x3 x5 x6 c:=qO (by omega)
 have b3:=qGv (a:=x4+ext x2 x3 x5 x6 c) (b:=x4+ext x2 x3 x5 x6 c) (A:=200000) (B:=200000) (by omega) (by omega) (by omega) (by omega)
 have e8:ux .i64 (x4+ext x2 x3 x5 x6 c) (x4+ext x2 x3 x5 x6 c)=(x4+ext x2 x3 x5 x6 c)*(x4+ext x2 x3 x5 x6 c):=q2L (by omega)
 simp only[STD,quP _ _ _ _ _ _ _ ⟨h13,h14⟩,qno x0 x1 x2 x3 x4 x5 x6 c ⟨h5,h6,h7,h8,h13,h14⟩ ⟨k5,k6⟩,qyE,qkN,e1,e2,e3,e4,e5,e6,e7,e8]
 unfold qFh
 by_cases hw:x2≤c∧c≤x3
 ·simp[hw,ile]
 ·simp[hw]<;>(intro q1 q2;exact absurd ⟨q1,q2⟩ hw)
end Go.Eng

namespace Go.Eng
def qDE(l:R)(i:Nat):Int:=chk (cI l i 0) (cI l i 1) (cI l i 2) (cI l i 3) (cI l i 4) (cI l i 5) (cB l i 6)
def qEg(l:R)(i:Nat):Int:=qyo (cI l i 0) (cI l i 1) (cI l i 2)
def qdJ(x0 x1:R):Int:=
 if 16<qh x0 then 5 else match yQ (q9Y (qDE x0)) 0 x0.length with
 | some e=>e
 | none=>if qh x1≠qh x0 then 8 else match yQ (q9Y (qEg x1)) 0 x1.length with
  | some e=>e
  | none=>0
theorem qjR{f:Nat→Int}{i:Nat}(h:(q9Y f i).map (fun e=>(1,[PV.i e]))=none):f i=0:=by
 unfold q9Y at h;split at h
 ·assumption
 ·simp at h
theorem qjZ{f:Nat→Int}{i:Nat}{r:Nat×List PV}(h:(q9Y f i).map (fun e=>(1,[PV.i e]))=some r):f i≠0∧r=(1,[.i (f i)]):=by
 unfold q9Y at h;split at h
 ·simp at h
 ·simp at h;exact⟨by assumption,h.symm⟩
theorem qiW(x0 x1:R)(h:x0.length<9223372036854775808):(qf yX [.r x0,.r x1,.r x0,.i (qh x0),.i 0]).run =
  some (((yQ (q9Y (qDE x0)) 0 x0.length).map fun e=>(1,[PV.i e])).getD (0,[.r x0,.r x1])):=by
 rw[←qgJ]
 refine q7m (fun i=>[.r x0,.r x1,.r x0,.i (qh x0),.i (i:Int)]) _ (0,[.r x0,.r x1]) x0.length h (fun i hi hf=>?_) (fun i r hi hf=>?_) ?_
 ·have h1:(i:Int)<qh x0:=by unfold qh;omega
  have h2:=qjR hf
  unfold qDE at h2
  rw[q3e]
  simp only[STD,h1,qh2,h2,kd hi h,show (0:Int)≤(i:Int) by omega,and_self]
 ·have h1:(i:Int)<qh x0:=by unfold qh;omega
  obtain⟨h2,rfl⟩:=qjZ hf
  unfold qDE at h2 ⊢
  rw[q3e]
  simp only[STD,h1,qh2,h2,show (0:Int)≤(i:Int) by omega,and_self]
 ·rw[q3e]
  simp only[STD,show ¬((x0.length:Int)<qh x0) by unfold qh;omega]
theorem qhZ(x1:R)(h:x1.length<9223372036854775808):(qf yh [.r x1,.i (qh x1),.i 0]).run =
  some (((yQ (q9Y (qEg x1)) 0 x1.length).map fun e=>(1,[PV.i e])).getD (0,[])):=by
 rw[←qgJ]
 refine q7m (fun i=>[.r x1,.i (qh x1),.i (i:Int)]) _ (0,[]) x1.length h (fun i hi hf=>?_) (fun i r hi hf=>?_) ?_
 ·have h1:(i:Int)<qh x1:=by unfold qh;omega
  have h2:=qjR hf
  unfold qEg at h2
  rw[q2N]
  simp only[STD,h1,qq0,h2,kd hi h,show (0:Int)≤(i:Int) by omega,and_self]
 ·have h1:(i:Int)<qh x1:=by unfold qh;omega
  obtain⟨h2,rfl⟩:=qjZ hf
  unfold qEg at h2 ⊢
  rw[q2N]
  simp only[STD,h1,qq0,h2,show (0:Int)≤(i:Int) by omega,and_self]
 ·rw[q2N]
  simp only[STD,show ¬((x1.length:Int)<qh x1) by unfold qh;omega]
theorem yA(x0 x1:R)(h:x0.length<9223372036854775808)(k:x1.length<9223372036854775808):(zY [.r x0,.r x1]).run=some (0,[.i (qdJ x0 x1)]):=by
 rw[qlL]
 unfold qdJ
 have e1:=qiW x0 x1 h
 have e2:=qhZ x1 k
 by_cases h16:16<qh x0
 ·simp[h16,STD]
 ·cases hs:yQ (q9Y (qDE x0)) 0 x0.length with
  | some e=>
   rw[hs] at e1
   simp only[Option.map_some,Option.getD_some] at e1
   simp[h16,STD,e1,qu e1]
  | none=>
   rw[hs] at e1
   simp only[Option.map_none,Option.getD_none] at e1
   by_cases hl:qh x1=qh x0
   ·cases ht:yQ (q9Y (qEg x1)) 0 x1.length with
    | some e=>
     rw[ht] at e2
     simp only[Option.map_some,Option.getD_some] at e2
     rw[hl] at e2
     simp[h16,STD,e1,qu e1,hl,e2,qu e2]
    | none=>
     rw[ht] at e2
     simp only[Option.map_none,Option.getD_none] at e2
     rw[hl] at e2
     simp[h16,STD,e1,qu e1,hl,e2,qu e2]
   ·simp[h16,STD,e1,qu e1,hl]
theorem qiK(x0 x1:R)(h:x0.length<9223372036854775808):(qf u4 [.r x0,.r x1,.i 0]).run =
  some (((yQ (q9Y (qDE x0)) 0 x0.length).map fun e=>(1,[PV.i e])).getD (0,[.r x0,.r x1])):=by
 rw[←qgJ]
 refine q7m (fun i=>[.r x0,.r x1,.i (i:Int)]) _ (0,[.r x0,.r x1]) x0.length h (fun i hi hf=>?_) (fun i r hi hf=>?_) ?_
 ·have h1:(i:Int)<qh x0:=by unfold qh;omega
  have h2:=qjR hf
  unfold qDE at h2
  rw[q3R]
  simp only[STD,h1,qns,h2,kd hi h,show (0:Int)≤(i:Int) by omega,and_self]
 ·have h1:(i:Int)<qh x0:=by unfold qh;omega
  obtain⟨h2,rfl⟩:=qjZ hf
  unfold qDE at h2 ⊢
  rw[q3R]
  simp only[STD,h1,qns,h2,show (0:Int)≤(i:Int) by omega,and_self]
 ·rw[q3R]
  simp only[STD,show ¬((x0.length:Int)<qh x0) by unfold qh;omega]
theorem qi2(x1:R)(h:x1.length<9223372036854775808):(qf jW [.r x1,.i 0]).run =
  some (((yQ (q9Y (qEg x1)) 0 x1.length).map fun e=>(1,[PV.i e])).getD (0,[])):=by
 rw[←qgJ]
 refine q7m (fun i=>[.r x1,.i (i:Int)]) _ (0,[]) x1.length h (fun i hi hf=>?_) (fun i r hi hf=>?_) ?_
 ·have h1:(i:Int)<qh x1:=by unfold qh;omega
  have h2:=qjR hf
  unfold qEg at h2
  rw[q2K]
  simp only[STD,h1,qq7,h2,kd hi h,show (0:Int)≤(i:Int) by omega,and_self]
 ·have h1:(i:Int)<qh x1:=by unfold qh;omega
  obtain⟨h2,rfl⟩:=qjZ hf
  unfold qEg at h2 ⊢
  rw[q2K]
  simp only[STD,h1,qq7,h2,show (0:Int)≤(i:Int) by omega,and_self]
 ·rw[q2K]
  simp only[STD,show ¬((x1.length:Int)<qh x1) by unfold qh;omega]
theorem q2S(x0 x1:R)(h:x0.length<9223372036854775808)(k:x1.length<9223372036854775808):(yq [.r x0,.r x1]).run=some (0,[.i (qdJ x0 x1)]):=by
 rw[qlt]
 unfold qdJ
 have e1:=qiK x0 x1 h
 have e2:=qi2 x1 k
 by_cases h16:16<qh x0
 ·simp[h16,STD]
 ·cases hs:yQ (q9Y (qDE x0)) 0 x0.length with
  | some e=>
   rw[hs] at e1
   simp only[Option.map_some,Option.getD_some] at e1
   simp[h16,STD,e1,qu e1]
  | none=>
   rw[hs] at e1
   simp only[Option.map_none,Option.getD_none] at e1
   by_cases hl:qh x1=qh x0
   ·cases ht:yQ (q9Y (qEg x1)) 0 x1.length with
    | some e=>
     rw[ht] at e2
     simp only[Option.map_some,Option.getD_some] at e2
     simp[h16,STD,e1,qu e1,hl,e2,qu e2]
    | none=>
     rw[ht] at e2
     simp only[Option.map_none,Option.getD_none] at e2
     simp[h16,STD,e1,qu e1,hl,e2,qu e2]
   ·simp[h16,STD,e1,qu e1,hl]
theorem qg4{x0 x1:R}(h:qdJ x0 x1=0):x0.length≤16∧x1.length=x0.length∧(∀i,i<x0.length→qDE x0 i=0)∧(∀i,i<x1.length→qEg x1 i=0):=by
 unfold qdJ at h
 split at h
 ·omega
 ·rename_i h16
  split at h
  ·rename_i e he;exact absurd h (qmE he)
  ·rename_i he
   split at h
   ·omega
   ·rename_i hl
    split at h
    ·rename_i e hf;exact absurd h (qmE hf)
    ·rename_i hf
     unfold qh at hl h16
     exact⟨by omega,by omega,qrR he,qrR hf⟩
def qho(x0 x1:R)(i:Nat):Bool:=!qFh (cI x0 i 0) (cI x0 i 1) (cI x0 i 2) (cI x0 i 3) (cI x0 i 4) (cI x0 i 5) (cB x0 i 6) (cI x1 i 0) (cI x1 i 1) (cI x1 i 2)
def qGX(x0 x1:R):List PV:=if qdJ x0 x1=0 then [.r (pick (qho x0 x1) x0.length),.i 0] else [.r [],.i (qdJ x0 x1)]
theorem qqG(x0 x1:R)(h:x0.length<9223372036854775808)(k:x1.length<9223372036854775808):(q2a [.r x0,.r x1]).run=some (0,qGX x0 x1):=by
 rw[qpl]
 unfold qGX
 by_cases hp:qdJ x0 x1=0
 ·obtain⟨h16,hl,ht,hr⟩:=qg4 hp
  have e:(qf kU [.r x1,.r x0,.i (qh x0),.i 0,.r []]).run=some (0,[.r (pick (qho x0 x1) x0.length)]):=by
   refine jv (fun i=>[.r x1,.r x0,.i (qh x0),.i (i:Int),.r (pick (qho x0 x1) i)]) (0,[.r (pick (qho x0 x1) x0.length)]) x0.length h (fun i hi=>?_) ?_
   ·have h1:(i:Int)<qh x0:=by unfold qh;omega
    have h2:(i:Int)<qh x1:=by unfold qh;omega
    have h3:qh (pick (qho x0 x1) i)+qh [[U.i (i:Int)]]≤17592186044416:=by
     have:=qBL (qho x0 x1) i
     rw[qFG];unfold qh;omega
    rw[qch]
    have hg:=qyY (cI x0 i 0) (cI x0 i 1) (cI x0 i 2) (cI x0 i 3) (cI x0 i 4) (cI x0 i 5) (cB x0 i 6) (cI x1 i 0) (cI x1 i 1) (cI x1 i 2) (ht i hi) (hr i (by omega))
    simp only[STD,h1,h2,h3,hg,kd hi h,show (0:Int)≤(i:Int) by omega,and_self,pick]
    unfold qho
    cases qFh (cI x0 i 0) (cI x0 i 1) (cI x0 i 2) (cI x0 i 3) (cI x0 i 4) (cI x0 i 5) (cB x0 i 6) (cI x1 i 0) (cI x1 i 1) (cI x1 i 2)<;>simp
   ·rw[qch]
    simp only[STD,show ¬((x0.length:Int)<qh x0) by unfold qh;omega]
  simp only[STD,yA x0 x1 h k,hp,e]
 ·simp[STD,yA x0 x1 h k,hp]
end Go.Eng

namespace Go.Eng
def zD(x y n:Int):DQ:=⟨(x:Rat),(y:Rat),Rat.divInt n 2*Rat.divInt n 2⟩
theorem qIb(n:Int):Rat.divInt (n*n) 4=Rat.divInt n 2*Rat.divInt n 2:=by
 rw[Rat.divInt_mul_divInt];rfl
theorem qBN{x:Int}(h:-999999≤x∧x≤999999):nl x≤6:=by
 have:=qeo (m:=x) (n:=999999) (by omega)
 have e:nl 999999=6:=by decide
 omega
theorem qI0{x:Int}(h:-999999999999≤x∧x≤999999999999):nl x≤12:=by
 have:=qeo (m:=x) (n:=999999999999) (by omega)
 have e:nl 999999999999=12:=by decide
 omega
theorem qwg{n:Int}(h:-999999≤n∧n≤999999):0≤n*n∧n*n≤999998000001:=by
 have b:=qGv (a:=n) (b:=n) (A:=999999) (B:=999999) (by omega) (by omega) (by omega) (by omega)
 refine⟨?_,by omega⟩
 rcases Int.le_total 0 n with h0|h0
 ·exact Int.mul_nonneg h0 h0
 ·exact Int.mul_nonneg_of_nonpos_of_nonpos h0 h0
theorem qDl{x:Int}(h:-999999≤x∧x≤999999):cls (x:Rat):=by
 refine .inl ⟨?_,by simp⟩
 have:=qBN h
 unfold qn;simp;omega
theorem qyQ{n:Int}(h:-999999≤n∧n≤999999):qHR (Rat.divInt n 2*Rat.divInt n 2):=by
 rw[←qIb]
 have r:=qwg h
 have e:Rat.divInt (n*n) 4=mkRat (n*n) 4:=rfl
 rw[e]
 have m:=qdt (n*n) 4
 have l:=qI0 (x:=n*n) (by omega)
 have d:dl 4=1:=by decide
 unfold qHR qn qd
 omega
theorem qIH{x y n:Int}(hx:-999999≤x∧x≤999999)(hy:-999999≤y∧y≤999999)(hn:-999999≤n∧n≤999999):GD (zD x y n):=
 ⟨qDl hx,qDl hy,qyQ hn,qa5 _⟩
theorem qzp{m n:Int}(h0:0≤m)(h:m≤n):Rat.divInt m 2*Rat.divInt m 2≤Rat.divInt n 2*Rat.divInt n 2:=by
 have e:∀k:Int,Rat.divInt k 2=(k:Rat)/2:=fun k=>by rw[Rat.divInt_eq_div];rfl
 have a:(0:Rat)≤(m:Rat):=by exact_mod_cast h0
 have b:(m:Rat)≤(n:Rat):=by exact_mod_cast h
 rw[e,e]
 refine qti ?_ ?_<;>grind
end Go.Eng

namespace Go.Eng
theorem qy0{m n:Int}(hn0:n≠0)(hm:okL m)(hn:okL n):(q9C [.s (tI m),.s (tI n)]).run=some (0,[.s (tQ (Rat.divInt m n)),.i 0]):=by
 rw[qw8]
 have key:=jv (S:=q2F) (fun i=>[.s (tI m),.s (tI n),.i 2,.i (i:Int),.r [[.s (tI m)],[.s (tI n)]]]) (0,[.s (tI m),.s (tI n)]) 2 (by omega) (fun i hi=>by
  rw[qj4]
  rcases (show i=0∨i=1 by omega) with rfl|rfl
  ·have e:cS [[.s (tI m)],[.s (tI n)]] ((0:Nat):Int) 0=tI m:=rfl
   simp only[e,STD,qgH hm,show qh [[U.s (tI m)],[.s (tI n)]]=2 from rfl]
   rfl
  ·have e:cS [[.s (tI m)],[.s (tI n)]] ((1:Nat):Int) 0=tI n:=rfl
   simp only[e,STD,qgH hn,show qh [[U.s (tI m)],[.s (tI n)]]=2 from rfl]
   rfl) (by rw[qj4];simp only[STD,show ((2:Nat):Int)=2 from rfl,show ¬(2:Int)<2 by omega])
 have key':(qf q2F [.s (tI m),.s (tI n),.i (qh [[U.s (tI m)],[.s (tI n)]]),.i 0,.r [[.s (tI m)],[.s (tI n)]]]).run=some (0,[.s (tI m),.s (tI n)]):=key
 have z:(seq (tI n) [48]=true)=False:=by rw[qY,q8N];exact eq_false hn0
 simp only[STD,key',qu key',z,(qnc hn0 hm hn).1]
theorem qC6{m n:Int}(hn0:n≠0)(hm:-999999999999999≤m∧m≤999999999999999)(hn:-999999999999999≤n∧n≤999999999999999):(qfV [.i m,.i n]).run=some (0,[.s (tQ (Rat.divInt m n)),.i 0]):=by
 have ok:∀k:Int,-999999999999999≤k∧k≤999999999999999→okL k:=fun k hk=>by
  have:=qeo (m:=k) (n:=999999999999999) (by omega)
  have e:nl 999999999999999=15:=by decide
  unfold okL;omega
 rw[qAy]
 simp only[STD,q8b m (by omega),q8b n (by omega),qy0 hn0 (ok m hm) (ok n hn)]
theorem qmG{m:Int}(hm:-999999999999999≤m∧m≤999999999999999):(q4d [.i m]).run=some (0,[.s (tQ (m:Rat))]):=by
 rw[quk,qA0]
 simp only[STD,q8b m (by omega)]
theorem qnw{m:Int}(hm:-999999999999999≤m∧m≤999999999999999):(q4A [.i m]).run=some (0,[.s (tQ (m:Rat))]):=by
 rw[quF,qA0]
 simp only[STD,kK m (by omega) (by omega)]
theorem qyI{m n:Int}(hn0:n≠0)(hm:-999999999999999≤m∧m≤999999999999999)(hn:-999999999999999≤n∧n≤999999999999999):(q9z [.i m,.i n]).run=some (0,[.s (tQ (Rat.divInt m n))]):=by
 have ok:∀k:Int,-999999999999999≤k∧k≤999999999999999→nl k≤400000:=fun k hk=>by
  have:=qeo (m:=k) (n:=999999999999999) (by omega)
  have e:nl 999999999999999=15:=by decide
  omega
 rw[qw7]
 simp only[STD,kK m (by omega) (by omega),kK n (by omega) (by omega),qmN m n hn0 (ok m hm) (ok n hn)]
def inR(x:Int):Prop:=-999999≤x∧x≤999999
theorem qJn{n:Int}(h:inR n):-999999999999999≤n*n∧n*n≤999999999999999:=by have:=qwg h;omega
theorem wsq{n:Int}(h:inR n):ux .i64 n n=n*n:=q2L (by have:=qwg h;omega)
theorem ql3{x y n:Int}(hx:inR x)(hy:inR y)(hn:inR n):(ur [.i x,.i y,.i n]).run=some (0,[.s (tQ (zD x y n).x),.s (tQ (zD x y n).y),.s (tQ (zD x y n).s),.i 0]):=by
 unfold inR at hx hy
 rw[qs5]
 simp only[STD,wsq hn,qC6 (m:=n*n) (n:=4) (by omega) (qJn hn) (by omega),qmG (m:=x) (by omega),qmG (m:=y) (by omega),qIb]
 rfl
theorem qH9{n:Int}(hn:inR n):sm 100000 (Rat.divInt n 2):=by
 have m:=qdt n 2
 have l:=qBN (x:=n) hn
 have d:dl 2=1:=by decide
 have e:Rat.divInt n 2=mkRat n 2:=rfl
 rw[e];unfold sm qn qd;omega
theorem ql2{x y n:Int}(hx:inR x)(hy:inR y)(hn:inR n):(q0E [.i x,.i y,.i n]).run=some (0,[.s (tQ (zD x y n).x),.s (tQ (zD x y n).y),.s (tQ (zD x y n).s)]):=by
 have h:=qH9 hn
 unfold inR at hx hy hn
 rw[qta]
 simp only[STD,qyI (m:=n) (n:=2) (by omega) (by omega) (by omega),qnw (m:=x) (by omega),qnw (m:=y) (by omega),vt h h]
 rfl
def qGr(x0 x1:R)(i:Nat):Int:=if cI x0 i 2≤cI x1 i 2∧cI x1 i 2≤cI x0 i 3 then 0 else 14
def zU(x0 x1:R)(p:Int):Int:=
 if qdJ x0 x1=0 then (if x0.length=0 then 13 else if qcv (qGr x0 x1) x0.length=0 then (if p < -1∨100000<p then 2 else 0) else qcv (qGr x0 x1) x0.length) else qdJ x0 x1
theorem qfm(l:R):(qh l=0)=(l.length=0):=by unfold qh;exact propext ⟨fun h=>by omega,fun h=>by omega⟩
theorem q48(x0 x1:R)(p:Int)(h:x0.length<9223372036854775808)(k:x1.length<9223372036854775808):(uh [.r x0,.r x1,.i p]).run=some (0,[.i (zU x0 x1 p)]):=by
 rw[qtO]
 unfold zU
 by_cases hc:qdJ x0 x1=0
 ·obtain⟨h1,h2,h3,h4⟩:=qg4 hc
  by_cases hz:x0.length=0
  ·simp only[STD,yA x0 x1 h k,hc,qfm,hz]
  ·have key:=qr1 (S:=q2m) (fun i=>[.r x0,.i (qh x0),.i (i:Int),.r x0,.r x1,.i p]) (qGr x0 x1) [] [.r x0,.r x1,.i p] x0.length h (fun i hi=>by
    rw[qfz]
    have a1:(i:Int)<qh x0:=by unfold qh;omega
    have a2:(i:Int)<qh x1:=by unfold qh;omega
    simp only[STD,a1,a2,kq,and_self,kd hi h]
    unfold qGr
    by_cases c1:cI x1 i 2<cI x0 i 2
    ·rw[if_pos c1,if_neg (show ¬(cI x0 i 2≤cI x1 i 2∧cI x1 i 2≤cI x0 i 3) by omega)];rfl
    ·rw[if_neg c1]
     by_cases c2:cI x0 i 3<cI x1 i 2
     ·rw[if_pos c2,if_neg (show ¬(cI x0 i 2≤cI x1 i 2∧cI x1 i 2≤cI x0 i 3) by omega)];rfl
     ·rw[if_neg c2,if_pos (show (cI x0 i 2≤cI x1 i 2∧cI x1 i 2≤cI x0 i 3) by omega)];rfl) (by
    rw[qfz]
    have a1:¬((x0.length:Int)<qh x0):=by unfold qh;omega
    simp only[STD,a1])
   simp only[show (((0:Nat)):Int)=0 from rfl] at key
   by_cases hi:qcv (qGr x0 x1) x0.length=0
   ·rw[if_pos hi] at key
    simp only[STD,yA x0 x1 h k,hc,qfm,hz,key,qu key,hi]
    by_cases c1:p < -1
    ·simp[c1]
    ·by_cases c2:100000<p<;>simp[c1,c2]
   ·rw[if_neg hi] at key
    simp only[STD,yA x0 x1 h k,hc,qfm,hz,key,qu key,hi]
    rfl
 ·simp only[STD,yA x0 x1 h k,hc]
theorem qP(x0 x1:R)(p:Int)(h:x0.length<9223372036854775808)(k:x1.length<9223372036854775808):(qE [.r x0,.r x1,.i p]).run=some (0,[.i (zU x0 x1 p)]):=by
 rw[quB]
 unfold zU
 by_cases hc:qdJ x0 x1=0
 ·obtain⟨h1,h2,h3,h4⟩:=qg4 hc
  by_cases hz:x0.length=0
  ·simp only[STD,q2S x0 x1 h k,hc,qfm,hz]
  ·have key:=qr1 (S:=q2d) (fun i=>[.i (i:Int),.r x0,.r x1,.i p]) (qGr x0 x1) [] [.r x0,.r x1,.i p] x0.length h (fun i hi=>by
    rw[qfr]
    have a1:(i:Int)<qh x0:=by unfold qh;omega
    have a2:(i:Int)<qh x1:=by unfold qh;omega
    simp only[STD,a1,a2,kq,and_self,kd hi h,qtH]
    unfold qGr
    by_cases c:cI x0 i 2≤cI x1 i 2∧cI x1 i 2≤cI x0 i 3
    ·simp only[c,and_self,not_true_eq_false,if_false,if_true]
    ·simp only[c,not_false_eq_true,if_false,if_true];rfl) (by
    rw[qfr]
    have a1:¬((x0.length:Int)<qh x0):=by unfold qh;omega
    simp only[STD,a1])
   simp only[show (((0:Nat)):Int)=0 from rfl] at key
   by_cases hi:qcv (qGr x0 x1) x0.length=0
   ·rw[if_pos hi] at key
    simp only[STD,q2S x0 x1 h k,hc,qfm,hz,key,qu key,hi]
    by_cases c1:p < -1
    ·simp[c1]
    ·by_cases c2:100000<p<;>simp[c1,c2]
   ·rw[if_neg hi] at key
    simp only[STD,q2S x0 x1 h k,hc,qfm,hz,key,qu key,hi]
    rfl
 ·simp only[STD,q2S x0 x1 h k,hc]
structure Rt (x0 x1:R):Prop where
 n:x0.length≤16
 e:x1.length=x0.length
 ne:x0.length≠0
 t:∀i,i<x0.length→qDE x0 i=0
 r:∀i,i<x0.length→qEg x1 i=0
 i:∀i:Nat,i<x0.length→cI x0 i 2≤cI x1 i 2∧cI x1 i 2≤cI x0 i 3
theorem wo{x0 x1:R}{p:Int}(h:zU x0 x1 p=0):Rt x0 x1∧-1≤p∧p≤100000:=by
 unfold zU at h
 split at h
 ·rename_i hc
  obtain⟨h1,h2,h3,h4⟩:=qg4 hc
  split at h
  ·omega
  ·rename_i hz
   split at h
   ·rename_i hf
    refine⟨⟨h1,h2,hz,h3,fun i hi=>h4 i (by omega),fun i hi=>?_⟩,by split at h<;>omega,by split at h<;>omega⟩
    have:=qzr hf i hi
    unfold qGr at this
    split at this
    ·assumption
    ·omega
   ·rename_i hf;exact absurd h hf
 ·rename_i hc;exact absurd h hc
theorem qyN{x0 x1:R}{p q:Int}(h:zU x0 x1 p=0)(hq:-1≤q∧q≤100000):zU x0 x1 q=0:=by
 unfold zU at h ⊢
 split at h
 ·rename_i hc
  rw[if_pos hc]
  split at h
  ·omega
  ·rename_i hz
   rw[if_neg hz]
   split at h
   ·rename_i hf;rw[if_pos hf,if_neg (by omega)]
   ·rename_i hf;exact absurd h hf
 ·rename_i hc;exact absurd h hc
end Go.Eng

