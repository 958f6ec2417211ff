/- Texts of the proof, merged: what the code computes, and plain laws. No statement stands here. -/
import Derived.Test.YtehgceikghodkaaGreatDoorM4
namespace Go.Eng
def mv:List Int→Int
 | []=>0
 | x::l=>x+1000000000*mv l
def pB(n:Nat):Int:=1000000000^n
theorem q5l:pB 0=1:=rfl
theorem q8L(n:Nat):pB (n+1)=pB n*1000000000:=Int.pow_succ _ _
theorem qac:∀n,0<pB n
 | 0=>by decide
 | n+1=>by rw[q8L];have:=qac n;omega
theorem qA5(m n:Nat):pB (m+n)=pB m*pB n:=Int.pow_add _ _ _
theorem qax{m n:Nat}(h:m≤n):pB m≤pB n:=by
 obtain⟨k,rfl⟩:∃k,n=m+k:=⟨n-m,by omega⟩
 induction k with
 | zero=>simp
 | succ k ih=>
  have h1:=ih (by omega)
  rw[show m+(k+1)=(m+k)+1 by omega,q8L]
  have:=qac (m+k)
  omega
def dgs(l:List Int):Prop:=∀x,x∈l→0≤x∧x<1000000000
theorem qsS:∀(l:List Int) (j:Nat) (h:j<l.length) (y:Int),mv (l.set j y)=mv l+(y-l[j])*pB j
 | [],j,h,_=>by simp at h
 | x::l,0,_,y=>by simp only[List.set_cons_zero,mv,List.getElem_cons_zero,q5l];omega
 | x::l,j+1,h,y=>by
  have ih:=qsS l j (by simpa using h) y
  simp only[List.set_cons_succ,mv,List.getElem_cons_succ,q8L]
  rw[ih]
  grind
theorem qu6:∀(l:List Int) (n:Nat),dgs l→(∀i,n≤i→l.getD i 0=0)→0≤mv l∧mv l<pB n
 | [],n,_,_=>⟨Int.le_refl _,qac n⟩
 | x::l,0,hd,hz=>by
  have ih:=qu6 l 0 (fun y hy=>hd y (List.mem_cons_of_mem _ hy)) (fun i _=>by have:=hz (i+1) (by omega);simpa using this)
  have hx:x=0:=by simpa using hz 0 (by omega)
  rw[q5l] at ih ⊢
  simp only[mv];omega
 | x::l,n+1,hd,hz=>by
  have ih:=qu6 l n (fun y hy=>hd y (List.mem_cons_of_mem _ hy)) (fun i hi=>by have:=hz (i+1) (by omega);simpa using this)
  have hx:=hd x List.mem_cons_self
  rw[q8L]
  simp only[mv]
  generalize pB n=p at *
  omega
theorem qzP:∀(l:List Int) (j:Nat) (h:j<l.length),dgs l→l[j]≠0→pB j≤mv l
 | [],j,h,_,_=>by simp at h
 | x::l,0,_,hd,hx=>by
  have h1:=hd x List.mem_cons_self
  have h2:=(qu6 l l.length (fun y hy=>hd y (List.mem_cons_of_mem _ hy)) (fun i hi=>by simp[List.getD_eq_getElem?_getD,hi])).1
  simp only[List.getElem_cons_zero] at hx
  simp only[mv,q5l];omega
 | x::l,j+1,h,hd,hx=>by
  have ih:=qzP l j (by simpa using h) (fun y hy=>hd y (List.mem_cons_of_mem _ hy)) (by simpa using hx)
  have h1:=hd x List.mem_cons_self
  rw[q8L]
  simp only[mv];omega
theorem qtt:∀(s t:List Int),mv (s++t)=mv s+pB s.length*mv t
 | [],t=>by simp[mv,q5l]
 | x::s,t=>by
  simp only[List.cons_append,mv,List.length_cons,q8L]
  rw[qtt s t];grind
theorem qcp(n:Nat):mv (List.replicate n 0)=0:=by
 induction n with
 | zero=>rfl
 | succ n ih=>simp[List.replicate_succ,mv,ih]
theorem qam{l:List Int}{i:Nat}(h:i<l.length):mv (l.drop i)=l[i]+1000000000*mv (l.drop (i+1)):=by
 rw[List.drop_eq_getElem_cons h];rfl
theorem j2{l:List Int}{n i:Nat}(hd:dgs l)(hz:∀i,n≤i→l.getD i 0=0)(hi:n≤i):mv (l.drop i)=0:=by
 have:=qu6 (l.drop i) 0 (fun x hx=>hd x (List.mem_of_mem_drop hx)) (fun j _=>by
  have:=hz (i+j) (by omega)
  simpa[List.getD_eq_getElem?_getD] using this)
 rw[q5l] at this
 omega
structure WOK (n:Nat) (l:List Int):Prop where
 len:l.length=232
 le:n≤232
 dig:dgs l
 z:∀i,n≤i→l.getD i 0=0
def nrm(n:Nat)(l:List Int):Prop:=n=0∨l.getD (n-1) 0≠0
theorem WOK.bd{n:Nat}{l:List Int}(h:WOK n l):0≤mv l∧mv l<pB n:=qu6 l n h.dig h.z
theorem WOK.lo{n:Nat}{l:List Int}(h:WOK n l)(hn:nrm n l)(h0:n≠0):pB (n-1)≤mv l:=by
 have h1:=h.le
 have h2:=h.len
 rcases hn with hn|hn
 ·exact absurd hn h0
 ·refine qzP l (n-1) (by omega) h.dig ?_
  rwa [jV (by omega)] at hn
theorem qqg(N i:Nat):(List.replicate N (0:Int)).getD i 0=0:=by
 rw[List.getD_eq_getElem?_getD,List.getElem?_replicate];split<;>rfl
theorem qwi(N:Nat):dgs (List.replicate N 0):=fun x hx=>by
 have:=(List.mem_replicate.1 hx).2
 omega
theorem WOK.zero:WOK 0 (List.replicate 232 0):=
 ⟨List.length_replicate,by omega,qwi 232,fun i _=>qqg 232 i⟩
theorem WOK.get{n:Nat}{l:List Int}(h:WOK n l)(i:Nat):0≤l.getD i 0∧l.getD i 0<1000000000:=by
 rcases Nat.lt_or_ge i l.length with hi|hi
 ·rw[jV hi];exact h.dig _ (List.getElem_mem hi)
 ·simp[List.getD_eq_getElem?_getD,hi]
theorem WOK.setW{n:Nat}{l:List Int}(h:WOK n l){j:Nat}{y:Int}(hj:j<232)(hy:0≤y∧y<1000000000):WOK (max n (j+1)) (l.set j y):=by
 have h1:=h.le
 refine⟨by simp[h.len],by omega,fun x hx=>?_,fun i hi=>?_⟩
 ·rcases List.mem_or_eq_of_mem_set hx with hx|rfl
  ·exact h.dig x hx
  ·exact hy
 ·have:=h.z i (by omega)
  rw[List.getD_eq_getElem?_getD,List.getElem?_set_ne (by omega),←List.getD_eq_getElem?_getD]
  exact this
theorem q4n(l:List Int)(i:Nat):cI (rI l) (i:Int) 0=l.getD i 0:=by rw[qyD,Int.toNat_natCast]
theorem qgR(l:List Int)(i:Nat)(v:Int):qbN (rI l) (i:Int) 0 [.i v]=rI (l.set i v):=by rw[qrm,Int.toNat_natCast]
theorem qi6{n:Nat}{l:List Int}(h:WOK n l)(b:Bool):∃m,(qG [.b b,.i (n:Int),.r (rI l)]).run=some (0,[.b b,.i ((m:Nat):Int),.r (rI l)])∧WOK m l∧nrm m l:=by
 rw[qdX]
 have h232:=h.le
 obtain⟨j,qs,h1,rfl,m,rfl,h3,h4⟩:=jD (S:=wj) (fun k ps=>ps=[.b b,.i (k:Int),.r (rI l)]∧WOK k l)
  (fun j qs=>j=0∧∃m:Nat,qs=[.b b,.i (m:Int),.r (rI l)]∧WOK m l∧nrm m l) (n:=n) (by omega) (fun k ps hk ⟨hps,hw⟩=>by
  subst hps
  rw[qcA]
  have hk2:=hw.le
  by_cases h0:k=0
  ·right
   refine⟨0,_,?_,rfl,k,rfl,hw,.inl h0⟩
   simp only[STD,h0]
   rfl
  ·have hs:z8 .i64 (k:Int) 1=((k-1:Nat):Int):=by rw[ub (by omega)];omega
   have a1:(0:Int)<(k:Int):=by omega
   have a2:(0:Int)≤((k-1:Nat):Int)∧((k-1:Nat):Int)<232:=by omega
   by_cases hz:l.getD (k-1) 0=0
   ·left
    refine⟨k-1,[.b b,.i ((k-1:Nat):Int),.r (rI l)],by omega,?_,rfl,hw.len,by omega,hw.dig,fun i hi=>?_⟩
    ·simp only[STD,a1,hs,a2,q4n,hz,and_self]
    ·rcases Nat.eq_or_lt_of_le hi with e|e
     ·rw[←e];exact hz
     ·exact hw.z i (by omega)
   ·right
    refine⟨0,[.b b,.i (k:Int),.r (rI l)],?_,rfl,k,rfl,hw,.inr hz⟩
    simp only[STD,a1,hs,a2,q4n,hz,and_self]) (ps:=[.b b,.i (n:Int),.r (rI l)]) ⟨rfl,h⟩
 exact⟨m,by simp only[STD,h1],h3,h4⟩
theorem qzI(s:Int):∃q r:Int,s.tdiv 1000000000=q∧s=q*1000000000+r∧(0≤s→0≤r)∧(s≤0→r≤0)∧-1000000000<r∧r<1000000000:=by
 obtain⟨h1,h2,h3,h4⟩:=qjd s (show (1000000000:Int)≠0 by decide)
 refine⟨_,q5s s 1000000000,rfl,by omega,h3,h4,by omega,by omega⟩
theorem quc{f up rest:Int}{i n j:Nat}{l ly:List Int}{bx b2:Bool}{ny:Nat}{S:Int}(hj:((j:Nat):Int)=qt .i64 (i:Int) up)(hj2:j<232)(hw:WOK n l)(hin:i<233)
  (hS:S=if i<ny then l.getD j 0+rest+f*ly.getD i 0 else l.getD j 0+rest) (hr:-1000000000≤rest∧rest≤1000000000) (hfy:-999999999999999999≤f*ly.getD i 0∧f*ly.getD i 0≤999999999999999999) (hny:ny≤232)
  (hgo:i<ny∨rest≠0) :
  ∃q s:Int,S=q*1000000000+s∧0≤s∧s<1000000000 ∧
   (qC [.i f,.i up,.i rest,.i (i:Int),.b bx,.i (n:Int),.r (rI l),.b b2,.i (ny:Int),.r (rI ly)]).run=some (0,[.i f,.i up,.i q,.i ((i+1:Nat):Int),.b bx,.i ((max n (j+1):Nat):Int),.r (rI (l.set j s)),.b b2,.i (ny:Int),.r (rI ly)]):=by
 have hg:=hw.get j
 obtain⟨q,r,e1,e2,e3,e4,e5,e6⟩:=qzI S
 have hSb:-1000000000999999999≤S∧S≤1000000001999999998:=by rw[hS];split<;>omega
 have w1:yH .i64 S 1000000000=q:=by
  unfold yH
  rw[e1]
  unfold IntKind.wrap
  simp[IntKind.signed,IntKind.bits];omega
 have w2:q0Q .i64 q 1000000000=q*1000000000:=q8u (by omega)
 have w3:z8 .i64 S (q*1000000000)=r:=by rw[ub (by omega)];omega
 have w4:qt .i64 (l.getD j 0) rest=l.getD j 0+rest:=wi (by omega)
 have w5:qt .i64 (i:Int) 1=((i+1:Nat):Int):=by rw[wi (by omega)];omega
 have w6:qt .i64 (j:Int) 1=((j+1:Nat):Int):=by rw[wi (by omega)];omega
 have w7:q8m (n:Int) ((j+1:Nat):Int)=((max n (j+1):Nat):Int):=qpF _ _
 have a1:(0:Int)≤(j:Int)∧(j:Int)<232:=by omega
 have hw8:r<0→qt .i64 r 1000000000=r+1000000000:=fun _=>wi (by omega)
 have hw9:r<0→z8 .i64 q 1=q-1:=fun _=>ub (by omega)
 rw[q6w]
 by_cases hi:i<ny
 ·rw[if_pos hi] at hS
  have a2:(i:Int)<(ny:Int):=by omega
  have a3:(0:Int)≤(i:Int)∧(i:Int)<232:=by omega
  have w10:q0Q .i64 f (ly.getD i 0)=f*ly.getD i 0:=q8u (by omega)
  have w11:qt .i64 (l.getD j 0+rest) (f*ly.getD i 0)=S:=by rw[wi (by omega),hS]
  by_cases hneg:r<0
  ·refine⟨q-1,r+1000000000,by omega,by omega,by omega,?_⟩
   simp only[STD,a2,←hj,a1,a3,q4n,w4,w10,w11,w1,w2,w3,hneg,hw8 hneg,hw9 hneg,w5,w6,w7,qgR,and_self]
  ·refine⟨q,r,by omega,by omega,by omega,?_⟩
   simp only[STD,a2,←hj,a1,a3,q4n,w4,w10,w11,w1,w2,w3,hneg,w5,w6,w7,qgR,and_self]
 ·rw[if_neg hi] at hS
  have hr0:rest≠0:=hgo.resolve_left hi
  have a2:¬(i:Int)<(ny:Int):=by omega
  rw[←hS] at w4
  by_cases hneg:r<0
  ·refine⟨q-1,r+1000000000,by omega,by omega,by omega,?_⟩
   simp only[STD,a2,hr0,←hj,a1,q4n,w4,w1,w2,w3,hneg,hw8 hneg,hw9 hneg,w5,w6,w7,qgR,and_self]
  ·refine⟨q,r,by omega,by omega,by omega,?_⟩
   simp only[STD,a2,hr0,←hj,a1,q4n,w4,w1,w2,w3,hneg,w5,w6,w7,qgR,and_self]
theorem qlM{f:Int}{up nx ny:Nat}{lx ly:List Int}(hx:WOK nx lx)(hy:WOK ny ly)(hf:-999999999≤f∧f≤999999999)(hup:ny+up≤232){T:Int}(hT:T=mv lx+f*mv ly*pB up)(h0:0≤T)(h1:T<pB 232)(bx b2:Bool) :
  ∃(n:Nat) (l:List Int),(qN [.i f,.i (up:Int),.b bx,.i (nx:Int),.r (rI lx),.b b2,.i (ny:Int),.r (rI ly)]).run=some (0,[.b bx,.i (n:Int),.r (rI l),.b b2,.i (ny:Int),.r (rI ly)])∧WOK n l∧nrm n l∧mv l=T:=by
 rw[qh3]
 have hny:=hy.le
 obtain⟨j,qs,g1,rfl,n,l,rfl,g3,g4⟩:=jD (S:=qC) (fun k ps=>∃(i n:Nat) (rest:Int) (l:List Int),ps=[.i f,.i (up:Int),.i rest,.i (i:Int),.b bx,.i (n:Int),.r (rI l),.b b2,.i (ny:Int),.r (rI ly)] ∧
   i+k=300∧i≤232∧WOK n l∧-1000000000≤rest∧rest≤1000000000∧mv l+rest*pB (i+up)+f*mv (ly.drop i)*pB (i+up)=T)
  (fun j qs=>j=0∧∃(n:Nat) (l:List Int),qs=[.b bx,.i (n:Int),.r (rI l),.b b2,.i (ny:Int),.r (rI ly)]∧WOK n l∧mv l=T) (n:=300) (by omega) (fun k ps hk ⟨i,n,rest,l,hps,hik,hi,hw,hr1,hr2,hv⟩=>by
  subst hps
  have hg:=hy.get i
  have hfy:=qAF (A:=999999999) (B:=999999999) hf.1 hf.2 (show -(999999999:Int)≤ly.getD i 0 by omega) (show ly.getD i 0≤999999999 by omega)
  have hbd:=hw.bd
  have hn232:=hw.le
  by_cases hgo:i<ny∨rest≠0
  ·left
   have hj:i+up<232:=by
    rcases Nat.lt_or_ge i ny with h|h
    ·omega
    ·rcases Nat.lt_or_ge (i+up) 232 with h2|h2
     ·exact h2
     ·exfalso
      have hr0:=hgo.resolve_left (by omega)
      rw[j2 hy.dig hy.z h] at hv
      have hP:=qax h2
      have hlt:=qax hn232
      simp only[Int.mul_zero,Int.zero_mul,Int.add_zero] at hv
      generalize pB (i+up)=P at *
      rcases Int.lt_or_lt_of_ne hr0 with h3|h3
      ·have:rest*P≤-1*P:=Int.mul_le_mul_of_nonneg_right (by omega) (by have:=qac 232;omega)
       omega
      ·have:1*P≤rest*P:=Int.mul_le_mul_of_nonneg_right (by omega) (by have:=qac 232;omega)
       omega
   have hjw:(((i+up:Nat)):Int)=qt .i64 (i:Int) (up:Int):=by rw[wi (by omega)];omega
   obtain⟨q,s,s1,s2,s3,s4⟩:=quc (bx:=bx) (b2:=b2) (f:=f) (ly:=ly) hjw hj hw (by omega) rfl ⟨hr1,hr2⟩ (by omega) hny hgo
   refine⟨k-1,_,by omega,s4,i+1,_,q,_,rfl,by omega,by omega,hw.setW hj ⟨s2,s3⟩,?_,?_,?_⟩
   ·have hgl:=hw.get (i+up)
    split at s1<;>omega
   ·have hgl:=hw.get (i+up)
    split at s1<;>omega
   ·have hjl:i+up<l.length:=by rw[hw.len];exact hj
    rw[qsS l (i+up) hjl,←hv,show i+1+up=(i+up)+1 by omega,q8L]
    rw[jV hjl] at s1
    have hil:i<ly.length:=by rw[hy.len];omega
    rw[qam hil]
    rw[jV hil] at s1
    generalize pB (i+up)=P at *
    generalize l[i+up]=d at *
    by_cases hiny:i<ny
    ·rw[if_pos hiny] at s1
     generalize ly[i]=y at *
     generalize mv (ly.drop (i+1))=m at *
     grind
    ·rw[if_neg hiny] at s1
     have z1:ly[i]=0:=by rw[←jV hil];exact hy.z i (by omega)
     rw[z1,j2 hy.dig hy.z (show ny≤i+1 by omega)]
     grind
  ·right
   have c1:¬i<ny:=fun h=>hgo (.inl h)
   have c2:rest=0:=Decidable.byContradiction fun h=>hgo (.inr h)
   refine⟨0,[.b bx,.i (n:Int),.r (rI l),.b b2,.i (ny:Int),.r (rI ly)],?_,rfl,n,l,rfl,hw,?_⟩
   ·rw[q6w]
    have a2:¬(i:Int)<(ny:Int):=by omega
    simp only[STD,a2,c2]
   ·rw[j2 hy.dig hy.z (by omega),c2] at hv
    simp only[Int.mul_zero,Int.zero_mul,Int.add_zero] at hv
    exact hv) (ps:=[.i f,.i (up:Int),.i 0,.i 0,.b bx,.i (nx:Int),.r (rI lx),.b b2,.i (ny:Int),.r (rI ly)])
  ⟨0,nx,0,lx,rfl,by omega,by omega,hx,by omega,by omega,by simp[hT]⟩
 obtain⟨m,t1,t2,t3⟩:=qi6 g3 bx
 exact⟨m,l,by simp only[STD,g1,t1],t2,t3,g4⟩
end Go.Eng

namespace Go.Eng
theorem qa0(l:List Int)(j:Nat)(h:j≤l.length):mv l=mv (l.take j)+pB j*mv (l.drop j):=by
 have:=qtt (l.take j) (l.drop j)
 rw[List.take_append_drop,List.length_take,Nat.min_eq_left h] at this
 exact this
theorem qxt{l:List Int}(h:dgs l)(j:Nat):dgs (l.take j):=fun x hx=>h x (List.mem_of_mem_take hx)
theorem q8i{l:List Int}(h:dgs l)(j:Nat):0≤mv (l.take j)∧mv (l.take j)<pB j:=
 qu6 (l.take j) j (qxt h j) fun i hi=>by
  rw[List.getD_eq_getElem?_getD,List.getElem?_eq_none (by simp;omega)];rfl
theorem qkl{l:List Int}{i:Nat}(h:i<l.length):mv (l.take (i+1))=mv (l.take i)+l[i]*pB i:=by
 rw[List.take_succ_eq_append_getElem h,qtt,List.length_take,Nat.min_eq_left (by omega)]
 simp only[mv]
 grind
theorem WOK.mono{n m:Nat}{l:List Int}(h:WOK n l)(hm:n≤m)(h2:m≤232):WOK m l:=⟨h.len,h2,h.dig,fun i hi=>h.z i (by omega)⟩
theorem qhW{n:Nat}{l:List Int}(h:WOK n l)(hn:nrm n l):(n=0)=(mv l=0):=by
 apply propext
 constructor
 ·intro h0
  have:=h.bd
  rw[h0,q5l] at this;omega
 ·intro h0
  rcases Nat.eq_zero_or_pos n with h1|h1
  ·exact h1
  ·have:=h.lo hn (by omega)
   have:=qac (n-1)
   omega
theorem qB0{n m:Nat}{l k:List Int}(h:WOK n l)(hn:nrm n l)(h2:WOK m k)(hle:mv l≤mv k):n≤m:=by
 rcases Nat.lt_or_ge m n with h3|h3
 ·exfalso
  have h4:=h.lo hn (by omega)
  have h5:=h2.bd.2
  have h6:=qax (show m≤n-1 by omega)
  omega
 ·exact h3
theorem qt6{nx ny:Nat}{lx ly:List Int}(hx:WOK nx lx)(hnx:nrm nx lx)(hy:WOK ny ly)(hny:nrm ny ly)(bx b2:Bool) :
  ∃r:Int,(wG [.b bx,.i (nx:Int),.r (rI lx),.b b2,.i (ny:Int),.r (rI ly)]).run=some (0,[.i r,.b bx,.i (nx:Int),.r (rI lx),.b b2,.i (ny:Int),.r (rI ly)])∧((0≤r)=(mv ly≤mv lx)):=by
 rw[qfg]
 have h1:=hx.le
 have h2:=hy.le
 by_cases hne:nx=ny
 ·subst hne
  have hs:z8 .i64 (nx:Int) 1=(nx:Int)-1:=ub (by omega)
  obtain⟨j,qs,g1,g2⟩:=jD (S:=qF) (fun k ps=>ps=[.i ((k:Int)-1),.b bx,.i (nx:Int),.r (rI lx),.b b2,.i (nx:Int),.r (rI ly)]∧k≤nx∧mv (lx.drop k)=mv (ly.drop k))
   (fun j qs=>(j=0∧qs=[.b bx,.i (nx:Int),.r (rI lx),.b b2,.i (nx:Int),.r (rI ly)]∧mv lx=mv ly)∨(j=1∧∃r:Int,qs=[.i r,.b bx,.i (nx:Int),.r (rI lx),.b b2,.i (nx:Int),.r (rI ly)]∧((0≤r)=(mv ly≤mv lx)))) (n:=nx) (by omega) (fun k ps hk ⟨hps,hkn,hd⟩=>by
   subst hps
   rw[qdA]
   by_cases h0:k=0
   ·right
    refine⟨0,_,?_,.inl ⟨rfl,rfl,?_⟩⟩
    ·have a:¬(0:Int)≤(k:Int)-1:=by omega
     simp only[STD,a]
    ·rw[h0] at hd;simpa using hd
   ·obtain⟨i,rfl⟩:∃i,k=i+1:=⟨k-1,by omega⟩
    have e:(((i+1:Nat):Int)-1)=(i:Int):=by omega
    rw[e]
    have a1:(0:Int)≤(i:Int):=by omega
    have a2:(i:Int)<232:=by omega
    have gx:=hx.get i
    have gy:=hy.get i
    have hxl:i<lx.length:=by rw[hx.len];omega
    have hyl:i<ly.length:=by rw[hy.len];omega
    by_cases hc:lx.getD i 0=ly.getD i 0
    ·left
     refine⟨i,[.i ((i:Int)-1),.b bx,.i (nx:Int),.r (rI lx),.b b2,.i (nx:Int),.r (rI ly)],by omega,?_,rfl,by omega,?_⟩
     ·have w:z8 .i64 (i:Int) 1=(i:Int)-1:=ub (by omega)
      simp only[STD,a1,a2,and_self,q4n,hc,w]
     ·rw[qam hxl,qam hyl,hd]
      rw[jV hxl,jV hyl] at hc
      rw[hc]
    ·right
     have w:z8 .i64 (lx.getD i 0) (ly.getD i 0)=lx.getD i 0-ly.getD i 0:=ub (by omega)
     refine⟨1,[.i (lx.getD i 0-ly.getD i 0),.b bx,.i (nx:Int),.r (rI lx),.b b2,.i (nx:Int),.r (rI ly)],?_,.inr ⟨rfl,_,rfl,?_⟩⟩
     ·simp only[STD,a1,a2,and_self,q4n,hc,w]
     ·have sx:=qa0 lx i (by omega)
      have sy:=qa0 ly i (by omega)
      rw[qam hxl] at sx
      rw[qam hyl] at sy
      have tx:=q8i hx.dig i
      have ty:=q8i hy.dig i
      rw[jV hxl,jV hyl] at hc ⊢
      rw[hd] at sx
      have hp:=qac i
      generalize pB i=P at *
      generalize lx[i]=u at *
      generalize ly[i]=v at *
      generalize mv (ly.drop (i+1))=w at *
      have e1:P*(u+1000000000*w)=P*u+P*(1000000000*w):=Int.mul_add _ _ _
      have e2:P*(v+1000000000*w)=P*v+P*(1000000000*w):=Int.mul_add _ _ _
      have e3:P*(u-v)=P*u-P*v:=Int.mul_sub _ _ _
      apply propext
      rcases Int.lt_or_lt_of_ne (show u-v≠0 by omega) with h|h
      ·have:P*(u-v)≤P*(-1):=Int.mul_le_mul_of_nonneg_left (by omega) (by omega)
       constructor
       ·intro;omega
       ·intro;omega
      ·have:P*1≤P*(u-v):=Int.mul_le_mul_of_nonneg_left (by omega) (by omega)
       constructor
       ·intro;omega
       ·intro;omega) (ps:=[.i ((nx:Int)-1),.b bx,.i (nx:Int),.r (rI lx),.b b2,.i (nx:Int),.r (rI ly)])
   ⟨rfl,Nat.le_refl _,by rw[j2 hx.dig hx.z (Nat.le_refl _),j2 hy.dig hy.z (Nat.le_refl _)]⟩
  rcases g2 with⟨rfl,rfl,g2⟩|⟨rfl,r,rfl,g2⟩
  ·refine⟨0,?_,?_⟩
   ·simp only[STD,hs,g1,zn g1]
   ·apply propext;simp;omega
  ·refine⟨r,?_,g2⟩
   simp only[STD,hs,g1,zn g1,show ¬(1=0) by omega]
 ·have hs:z8 .i64 (nx:Int) (ny:Int)=(nx:Int)-(ny:Int):=ub (by omega)
  refine⟨(nx:Int)-(ny:Int),?_,?_⟩
  ·have a:¬(nx:Int)=(ny:Int):=by omega
   simp only[STD,a,hs]
  ·apply propext
   have b1:=hx.bd
   have b2:=hy.bd
   rcases Nat.lt_or_gt_of_ne hne with h|h
   ·have:=hy.lo hny (by omega)
    have:=qax (show nx≤ny-1 by omega)
    constructor
    ·intro;omega
    ·intro;omega
   ·have:=hx.lo hnx (by omega)
    have:=qax (show ny≤nx-1 by omega)
    constructor
    ·intro;omega
    ·intro;omega
def sv(b:Bool)(l:List Int):Int:=if b then -mv l else mv l
theorem qyr{nx ny:Nat}{lx ly:List Int}(hx:WOK nx lx)(hnx:nrm nx lx)(hy:WOK ny ly)(hny:nrm ny ly)(hb:mv lx+mv ly<pB 232)(bx b2:Bool) :
  ∃(b:Bool) (n:Nat) (l:List Int),(zN [.b bx,.i (nx:Int),.r (rI lx),.b b2,.i (ny:Int),.r (rI ly)]).run=some (0,[.b b,.i (n:Int),.r (rI l),.b b2,.i (ny:Int),.r (rI ly)])∧WOK n l∧nrm n l∧sv b l=sv bx lx+sv b2 ly:=by
 rw[qhu]
 have h1:=hx.bd
 have h2:=hy.bd
 have l1:=hx.le
 have l2:=hy.le
 by_cases hs:bx=b2
 ·subst hs
  obtain⟨n,l,g1,g2,g3,g4⟩:=qlM (f:=1) (up:=0) hx hy (by omega) (by omega) (T:=mv lx+mv ly) (by rw[q5l];omega) (by omega) hb bx bx
  refine⟨bx,n,l,?_,g2,g3,?_⟩
  ·simp only[STD,show ((0:Nat):Int)=0 from rfl] at g1 ⊢
   simp only[STD,g1]
  ·unfold sv;rw[g4];cases bx<;>simp<;>omega
 ·obtain⟨r,r1,r2⟩:=qt6 hx hnx hy hny bx b2
  by_cases hr:mv ly≤mv lx
  ·have hr':0≤r:=by rw[r2];exact hr
   obtain⟨n,l,g1,g2,g3,g4⟩:=qlM (f:=-1) (up:=0) hx hy (by omega) (by omega) (T:=mv lx-mv ly) (by rw[q5l];omega) (by omega) (by omega) bx b2
   refine⟨bx,n,l,?_,g2,g3,?_⟩
   ·simp only[show ((0:Nat):Int)=0 from rfl] at g1
    simp only[STD,hs,r1,hr',g1]
   ·unfold sv;rw[g4];cases bx<;>cases b2<;>simp_all<;>omega
  ·have hr':¬0≤r:=by rw[r2];exact hr
   obtain⟨n,l,g1,g2,g3,g4⟩:=qlM (f:=-1) (up:=0) hy hx (by omega) (by omega) (T:=mv ly-mv lx) (by rw[q5l];omega) (by omega) (by omega) b2 bx
   refine⟨b2,n,l,?_,g2,g3,?_⟩
   ·simp only[show ((0:Nat):Int)=0 from rfl] at g1
    simp only[STD,hs,r1,hr',g1]
   ·unfold sv;rw[g4];cases bx<;>cases b2<;>simp_all<;>omega
theorem qvE{x y:Int}{m n:Nat}(h0:0≤x)(h1:x<pB m)(h2:0≤y)(h3:y≤pB n):x*y<pB (m+n)∨y=0:=by
 rcases Int.lt_or_eq_of_le h2 with h|h
 ·left
  rw[qA5]
  have e1:x*y<pB m*y:=Int.mul_lt_mul_of_pos_right h1 h
  have e2:pB m*y≤pB m*pB n:=Int.mul_le_mul_of_nonneg_left h3 (by omega)
  omega
 ·exact .inr h.symm
theorem qyX{nx ny:Nat}{lx ly:List Int}(hx:WOK nx lx)(hy:WOK ny ly)(hb:nx+ny≤232)(bx b2:Bool) :
  ∃(n:Nat) (l:List Int),(uM [.b bx,.i (nx:Int),.r (rI lx),.b b2,.i (ny:Int),.r (rI ly)]).run=some (0,[.b bx,.i (nx:Int),.r (rI lx),.b b2,.i (ny:Int),.r (rI ly),.b (!(Go.Eng.beq bx b2)),.i (n:Int),.r (rI l)])∧WOK n l∧nrm n l∧mv l=mv lx*mv ly:=by
 rw[qgW]
 have hbx:=hx.bd
 have e0:zK 232 [.i 0]=rI (List.replicate 232 0):=qgN 232 0
 obtain⟨j,qs,g1,rfl,n,l,rfl,g2,g3,g4⟩:=jD (S:=zg) (fun k ps=>∃(i n:Nat) (l:List Int),ps=[.i (ny:Int),.i (i:Int),.b bx,.i (nx:Int),.r (rI lx),.b b2,.i (ny:Int),.r (rI ly),.b (!(Go.Eng.beq bx b2)),.i (n:Int),.r (rI l)] ∧
   i+k=ny∧WOK n l∧nrm n l∧mv l=mv lx*mv (ly.take i))
  (fun j qs=>j=0∧∃(n:Nat) (l:List Int),qs=[.b bx,.i (nx:Int),.r (rI lx),.b b2,.i (ny:Int),.r (rI ly),.b (!(Go.Eng.beq bx b2)),.i (n:Int),.r (rI l)]∧WOK n l∧nrm n l∧mv l=mv lx*mv ly) (n:=ny) (by omega) (fun k ps hk ⟨i,n,l,hps,hik,hw,hn,hv⟩=>by
  subst hps
  rw[qdJ]
  by_cases hi:i<ny
  ·left
   have hil:i<ly.length:=by rw[hy.len];omega
   have gy:=hy.get i
   have tb:=q8i hy.dig i
   have tb2:=q8i hy.dig (i+1)
   have hT:mv lx*mv (ly.take (i+1))=mv l+ly.getD i 0*mv lx*pB i:=by
    rw[qkl hil,hv,jV hil];grind
   have hlt:mv lx*mv (ly.take (i+1))<pB 232:=by
    rcases qvE (n:=i+1) hbx.1 hbx.2 tb2.1 (by omega) with h|h
    ·exact Int.lt_of_lt_of_le h (qax (by omega))
    ·rw[h,Int.mul_zero];exact qac _
   obtain⟨n',l',c1,c2,c3,c4⟩:=qlM (f:=ly.getD i 0) (up:=i) hw hx (by omega) (by omega) hT (Int.mul_nonneg hbx.1 tb2.1) hlt (!(Go.Eng.beq bx b2)) bx
   have w:qt .i64 (i:Int) 1=((i+1:Nat):Int):=by rw[wi (by omega)];omega
   refine⟨k-1,_,by omega,?_,i+1,n',l',rfl,by omega,c2,c3,c4⟩
   have a1:(i:Int)<(ny:Int):=by omega
   have a2:(0:Int)≤(i:Int)∧(i:Int)<232:=by omega
   simp only[STD,a1,a2,and_self,q4n,c1,w]
  ·right
   have hi2:i=ny:=by omega
   have a1:¬(i:Int)<(ny:Int):=by omega
   refine⟨0,[.b bx,.i (nx:Int),.r (rI lx),.b b2,.i (ny:Int),.r (rI ly),.b (!(Go.Eng.beq bx b2)),.i (n:Int),.r (rI l)],?_,rfl,n,l,rfl,hw,hn,?_⟩
   ·simp only[STD,a1]
   ·have:=qa0 ly ny (by rw[hy.len];exact hy.le)
    rw[j2 hy.dig hy.z (Nat.le_refl _),Int.mul_zero,Int.add_zero] at this
    rw[hv,hi2,←this])
  (ps:=[.i (ny:Int),.i 0,.b bx,.i (nx:Int),.r (rI lx),.b b2,.i (ny:Int),.r (rI ly),.b (!(Go.Eng.beq bx b2)),.i 0,.r (rI (List.replicate 232 0))])
  ⟨0,0,_,rfl,by omega,WOK.zero,.inl rfl,by rw[qcp];simp[mv]⟩
 refine⟨n,l,?_,g2,g3,g4⟩
 simp only[e0]
 simp only[STD,g1]
theorem quE{nx ny:Nat}{lx ly:List Int}(hx:WOK nx lx)(hnx:nrm nx lx)(hy:WOK ny ly)(hny:nrm ny ly)(h0:ny≠0)(hle:mv ly≤mv lx)(hlt:mv lx<pB (ny+1))(hn231:ny≤231)(bx b2:Bool) :
  ∃k:Int,(yp [.b bx,.i (nx:Int),.r (rI lx),.b b2,.i (ny:Int),.r (rI ly)]).run=some (0,[.i k,.b bx,.i (nx:Int),.r (rI lx),.b b2,.i (ny:Int),.r (rI ly)])∧1≤k∧k≤999999999∧k*mv ly≤mv lx:=by
 rw[qjN]
 obtain⟨m,rfl⟩:∃m,ny=m+1:=⟨ny-1,by omega⟩
 have hxl:=hx.len
 have hyl:=hy.len
 have hnx1:m+1≤nx:=qB0 hy hny hx hle
 have hnx2:nx≤m+2:=by
  rcases Nat.lt_or_ge (m+2) nx with h|h
  ·exfalso
   have h1:=hx.lo hnx (by omega)
   have h2:=qax (show m+1+1≤nx-1 by omega)
   omega
  ·exact h
 have gx1:=hx.get m
 have gx2:=hx.get (m+1)
 have gy:=hy.get m
 have sx:=qa0 lx m (by omega)
 have sy:=qa0 ly m (by omega)
 rw[qam (show m<lx.length by omega),qam (show m+1<lx.length by omega),j2 hx.dig hx.z (show nx≤m+1+1 by omega)] at sx
 rw[qam (show m<ly.length by omega),j2 hy.dig hy.z (Nat.le_refl _)] at sy
 have tx:=q8i hx.dig m
 have ty:=q8i hy.dig m
 have hyn:ly.getD m 0≠0:=by
  rcases hny with h|h
  ·omega
  ·simpa using h
 have w1:z8 .i64 ((m+1:Nat):Int) 1=(m:Int):=by rw[ub (by omega)];omega
 have c1:¬((m+1:Nat):Int)<0:=by omega
 have c2:¬(nx:Int)≤(m:Int):=by omega
 have c3:¬(m:Int)<0:=by omega
 have c4:¬((m+1:Nat):Int)≤(m:Int):=by omega
 have c5:(0:Int)≤(m:Int)∧(m:Int)<232:=by omega
 have c6:(0:Int)≤((m+1:Nat):Int)∧((m+1:Nat):Int)<232:=by omega
 have gex:lx[m]'(by omega)=lx.getD m 0:=(jV (by omega)).symm
 have gex1:lx[m+1]'(by omega)=lx.getD (m+1) 0:=(jV (by omega)).symm
 have gey:ly[m]'(by omega)=ly.getD m 0:=(jV (by omega)).symm
 rw[gex,gex1] at sx
 rw[gey] at sy
 have hp:=qac m
 have key:∀a b:Int,a=lx.getD m 0+1000000000*lx.getD (m+1) 0→0<b→mv ly≤b*pB m→∀k,k=a/b→k*mv ly≤mv lx∧q8r k 999999999*mv ly≤mv lx:=by
  intro a b ha hb hbY k hk
  have hk0:0≤k:=by rw[hk];exact Int.ediv_nonneg (by omega) (by omega)
  have hkb:k*b≤a:=by rw[hk];exact Int.ediv_mul_le a (by omega)
  have hY:=(hy.bd).1
  have f1:k*mv ly≤k*(b*pB m):=Int.mul_le_mul_of_nonneg_left hbY hk0
  have f2:k*b*pB m≤a*pB m:=Int.mul_le_mul_of_nonneg_right hkb (by omega)
  have f3:k*(b*pB m)=k*b*pB m:=(Int.mul_assoc _ _ _).symm
  have f4:a*pB m=pB m*(lx.getD m 0+1000000000*(lx.getD (m+1) 0+1000000000*0)):=by rw[ha];grind
  have f5:k*mv ly≤mv lx:=by omega
  refine⟨f5,?_⟩
  have:q8r k 999999999≤k:=by unfold q8r;split<;>omega
  have:=Int.mul_le_mul_of_nonneg_right this hY
  omega
 have wq:∀a b:Int,0≤a→a<1000000000000000000→0<b→yH .i64 a b=a/b:=by
  intro a b h1 h2 h3
  unfold yH
  rw[Int.tdiv_eq_ediv_of_nonneg h1]
  have q1:0≤a/b:=Int.ediv_nonneg h1 (by omega)
  have q2:a/b≤a:=Int.ediv_le_self _ h1
  generalize a/b=q at *
  unfold IntKind.wrap
  simp[IntKind.signed,IntKind.bits];omega
 have fin:∀k:Int,(0<k→k*mv ly≤mv lx∧q8r k 999999999*mv ly≤mv lx)→∃k':Int,(if 0<k then q8r k 999999999 else 1)=k'∧1≤k'∧k'≤999999999∧k'*mv ly≤mv lx:=by
  intro k hk
  by_cases h:0<k
  ·rw[if_pos h]
   refine⟨_,rfl,?_,?_,(hk h).2⟩
   ·unfold q8r;split<;>omega
   ·unfold q8r;split<;>omega
  ·rw[if_neg h];exact⟨1,rfl,by omega,by omega,by omega⟩
 by_cases hcase:nx≤m+1
 ·have c7:(nx:Int)≤((m+1:Nat):Int):=by omega
  have z1:lx.getD (m+1) 0=0:=hx.z _ (by omega)
  have wa:qt .i64 0 (lx.getD m 0)=lx.getD m 0:=by rw[wi (by omega)];omega
  by_cases hm:m=0
  ·subst hm
   have c8:¬(1:Int)<((0+1:Nat):Int):=by omega
   have hq:=wq (lx.getD 0 0) (ly.getD 0 0) (by omega) (by omega) (by omega)
   have hbY:mv ly≤ly.getD 0 0*pB 0:=by rw[q5l] at sy ty ⊢;omega
   obtain⟨k',f1,f2,f3,f4⟩:=fin (lx.getD 0 0/ly.getD 0 0) (fun _=>key _ _ (by rw[z1];omega) (by omega) hbY _ rfl)
   refine⟨k',?_,f2,f3,f4⟩
   rw[←f1]
   simp only[STD,c1,w1,c2,c3,c4,c5,c6,c7,c8,and_self,q4n,wa,hyn,hq]
   split<;>rfl
  ·have c8:(1:Int)<((m+1:Nat):Int):=by omega
   have wb:qt .i64 (ly.getD m 0) 1=ly.getD m 0+1:=wi (by omega)
   have hq:=wq (lx.getD m 0) (ly.getD m 0+1) (by omega) (by omega) (by omega)
   have hbY:mv ly≤(ly.getD m 0+1)*pB m:=by
    have:(ly.getD m 0+1)*pB m=pB m*(ly.getD m 0+1000000000*0)+pB m:=by grind
    omega
   obtain⟨k',f1,f2,f3,f4⟩:=fin (lx.getD m 0/(ly.getD m 0+1)) (fun _=>key _ _ (by rw[z1];omega) (by omega) hbY _ rfl)
   refine⟨k',?_,f2,f3,f4⟩
   rw[←f1]
   have hne:¬ly.getD m 0+1=0:=by omega
   simp only[STD,c1,w1,c2,c3,c4,c5,c6,c7,c8,and_self,q4n,wa,wb,hne,hq]
   split<;>rfl
 ·have c7:¬(nx:Int)≤((m+1:Nat):Int):=by omega
  have wm:q0Q .i64 (lx.getD (m+1) 0) 1000000000=lx.getD (m+1) 0*1000000000:=q8u (by omega)
  have wa:qt .i64 (lx.getD (m+1) 0*1000000000) (lx.getD m 0)=lx.getD (m+1) 0*1000000000+lx.getD m 0:=wi (by omega)
  by_cases hm:m=0
  ·subst hm
   have c8:¬(1:Int)<((0+1:Nat):Int):=by omega
   have hq:=wq (lx.getD (0+1) 0*1000000000+lx.getD 0 0) (ly.getD 0 0) (by omega) (by omega) (by omega)
   have hbY:mv ly≤ly.getD 0 0*pB 0:=by rw[q5l] at sy ty ⊢;omega
   obtain⟨k',f1,f2,f3,f4⟩:=fin ((lx.getD (0+1) 0*1000000000+lx.getD 0 0)/ly.getD 0 0) (fun _=>key _ _ (by omega) (by omega) hbY _ rfl)
   refine⟨k',?_,f2,f3,f4⟩
   rw[←f1]
   simp only[STD,c1,w1,c2,c3,c4,c5,c6,c7,c8,and_self,q4n,wm,wa,hyn,hq]
   split<;>rfl
  ·have c8:(1:Int)<((m+1:Nat):Int):=by omega
   have wb:qt .i64 (ly.getD m 0) 1=ly.getD m 0+1:=wi (by omega)
   have hq:=wq (lx.getD (m+1) 0*1000000000+lx.getD m 0) (ly.getD m 0+1) (by omega) (by omega) (by omega)
   have hbY:mv ly≤(ly.getD m 0+1)*pB m:=by
    have:(ly.getD m 0+1)*pB m=pB m*(ly.getD m 0+1000000000*0)+pB m:=by grind
    omega
   obtain⟨k',f1,f2,f3,f4⟩:=fin ((lx.getD (m+1) 0*1000000000+lx.getD m 0)/(ly.getD m 0+1)) (fun _=>key _ _ (by omega) (by omega) hbY _ rfl)
   refine⟨k',?_,f2,f3,f4⟩
   rw[←f1]
   have hne:¬ly.getD m 0+1=0:=by omega
   simp only[STD,c1,w1,c2,c3,c4,c5,c6,c7,c8,and_self,q4n,wm,wa,wb,hne,hq]
   split<;>rfl
end Go.Eng

namespace Go.Eng
theorem qyj(u:Nat):Lib.decDigits u=tN u:=by
 induction u using Nat.strongRecOn with
 | _ u ih=>
  rw[Lib.decDigits]
  split
  ·rename_i h
   rw[qqW h];rfl
  ·rename_i h
   rw[ih (u/10) (by omega)]
   exact(qrN (n:=u) (by omega)).symm
theorem qsB(n:Int):Lib.itoa n=tI n:=by
 unfold Lib.itoa
 by_cases h:n<0
 ·rw[if_pos h,qyj,q9S h]
 ·rw[if_neg h,qyj,qgC h];congr 1;omega
theorem qzY(n:Int)(h:-9223372036854775808≤n∧n≤9223372036854775807):(q3x [.i n]).run=some (0,[.s (tI n)]):=by
 show (qwg [.i n]).run=_
 unfold qwg
 simp only
 rw[if_pos h,qsB];rfl
theorem qqT{c:UInt8}(h:48≤c.toNat∧c.toNat≤57):Lib.digitVal c=some (dv c):=by
 unfold Lib.digitVal dv
 simp_all
theorem qmq:∀{s:List UInt8} (a:Nat),q4p s→Lib.decFrom a s=some (a*10^s.length+val s)
 | [],a,_=>by simp[Lib.decFrom,val]
 | c::s,a,h=>by
  obtain⟨h1,h2⟩:=q0E.1 h
  rw[Lib.decFrom,qqT h1]
  simp only
  rw[qmq _ h2,q4L,List.length_cons,Nat.pow_succ]
  congr 1
  grind
theorem qov{s:List UInt8}(h:q4p s)(hn:s≠[]):Lib.decNat s=some (val s):=by
 unfold Lib.decNat
 rw[if_neg (by simpa using hn),qmq 0 h];simp
theorem qqj{s:List UInt8}(h:q4p s)(hn:s≠[]):Lib.atoi s=some (val s:Int):=by
 obtain⟨c,t,e,h1,h2⟩:=qf7 h hn
 rw[e] at h ⊢
 have n1:(c==45)=false:=by
  rw[beq_eq_false_iff_ne];intro hc;subst hc;revert h1;decide
 have n2:(c==43)=false:=by
  rw[beq_eq_false_iff_ne];intro hc;subst hc;revert h1;decide
 unfold Lib.atoi
 simp only[n1,n2,Bool.false_eq_true,if_false]
 rw[qov h (by simp)];rfl
theorem qwT(m:Int):Lib.atoi (tI m)=some m:=by
 by_cases h:m<0
 ·rw[q9S h]
  unfold Lib.atoi
  simp only[beq_self_eq_true,if_true]
  rw[qov (wX _) (qlG _),q0u]
  simp;omega
 ·rw[qgC h,qqj (wX _) (qlG _),q0u]
  congr 1;omega
theorem qwU{s:List UInt8}{n:Int}(hl:s.length≤18)(h:Lib.atoi s=some n):(vu [.s s]).run=some (0,[.i n]):=by
 show (qwO [.s s]).run=_
 unfold qwO
 simp only
 rw[if_pos hl,h];rfl
theorem qtA:∀s:List UInt8,Lib.indexByte s 47=if sP s<s.length then (sP s:Int) else -1
 | []=>by simp[Lib.indexByte,sP]
 | c::s=>by
  have ih:=qtA s
  have hle:=qy9 s
  unfold Lib.indexByte
  by_cases h:c=47
  ·subst h
   have:sP (47::s)=0:=qzk (by simp) (by simp) (fun j hj=>by omega)
   rw[this];simp
  ·have hc:(c==47)=false:=by simpa using h
   have e:sP (c::s)=sP s+1:=by
    unfold sP
    rw[List.findIdx_cons,hc];rfl
   rw[e]
   generalize sP s=k at *
   have el:(c::s).length=s.length+1:=rfl
   simp only[hc,el,ih,Bool.false_eq_true,if_false]
   grind
theorem qzq(s:List UInt8):(qY [.s s,.s [47]]).run=some (0,[.i (if sP s<s.length then (sP s:Int) else -1)]):=by
 show (qqh [.s s,.s [47]]).run=_
 unfold qqh
 simp only
 rw[←qtA];rfl
theorem qtn:∀{s t:List UInt8},q4p s→q4p t→s.length=t.length→Lib.compareBytes s t=sgn ((val s:Int)-(val t:Int))
 | [],[],_,_,_=>by simp[Lib.compareBytes,val,sgn]
 | [],_::_,_,_,h=>by simp at h
 | _::_,[],_,_,h=>by simp at h
 | a::s,b::t,hs,ht,h=>by
  obtain⟨h1,h2⟩:=q0E.1 hs
  obtain⟨h3,h4⟩:=q0E.1 ht
  have hl:s.length=t.length:=by simpa using h
  have ih:=qtn h2 h4 hl
  have v1:=q5u h2
  have v2:=q5u h4
  unfold Lib.compareBytes
  rw[q4L,q4L,hl]
  rw[hl] at v1
  have hp:0<10^t.length:=Nat.pow_pos (by omega)
  generalize 10^t.length=P at *
  unfold dv
  by_cases c1:a.toNat<b.toNat
  ·rw[if_pos (show a<b from c1)]
   have:(a.toNat-48+1)*P≤(b.toNat-48)*P:=Nat.mul_le_mul_right _ (by omega)
   rw[Nat.add_mul,Nat.one_mul] at this
   unfold sgn
   rw[if_pos (by omega)]
  ·rw[if_neg (show ¬a<b from c1)]
   by_cases c2:b.toNat<a.toNat
   ·rw[if_pos (show b<a from c2)]
    have:(b.toNat-48+1)*P≤(a.toNat-48)*P:=Nat.mul_le_mul_right _ (by omega)
    rw[Nat.add_mul,Nat.one_mul] at this
    unfold sgn
    rw[if_neg (by omega),if_neg (by omega)]
   ·rw[if_neg (show ¬b<a from c2),ih]
    have:a.toNat=b.toNat:=by omega
    rw[this]
    congr 1;omega
theorem qtZ{s t:List UInt8}(hs:q4p s)(ht:q4p t)(h:s.length=t.length):(q0m [.s s,.s t]).run=some (0,[.i (sgn ((val s:Int)-(val t:Int)))]):=by
 show (qkW [.s s,.s t]).run=_
 unfold qkW
 simp only
 rw[qtn hs ht h];rfl
def qwh:List UInt8:=[48,49,50,51,52,53,54,55,56,57]
theorem qtu(c:UInt8):(qwh.contains c=true)↔(48≤c.toNat∧c.toNat≤57):=by
 constructor
 ·intro h
  simp only[qwh,List.contains_eq_mem,List.mem_cons,List.not_mem_nil,or_false,decide_eq_true_eq] at h
  rcases h with rfl|rfl|rfl|rfl|rfl|rfl|rfl|rfl|rfl|rfl<;>decide
 ·rintro ⟨h1,h2⟩
  have hk:∃k,c=UInt8.ofNat k∧48≤k∧k≤57:=⟨c.toNat,by simp,h1,h2⟩
  obtain⟨k,rfl,k1,k2⟩:=hk
  have:k=48∨k=49∨k=50∨k=51∨k=52∨k=53∨k=54∨k=55∨k=56∨k=57:=by omega
  rcases this with rfl|rfl|rfl|rfl|rfl|rfl|rfl|rfl|rfl|rfl<;>decide
theorem q8e{p:UInt8→Bool}:∀{l:List UInt8},l.dropWhile p=[]↔∀x,x∈l→p x=true
 | []=>by simp
 | a::l=>by
  rw[List.dropWhile_cons]
  by_cases h:p a=true
  ·rw[if_pos h,q8e];simp[h]
  ·rw[if_neg h];simp[h]
theorem qf8(s:List UInt8):(Lib.trimS s qwh=[])=q4p s:=by
 apply propext
 unfold Lib.trimS Lib.trimLeftS Lib.trimRightS
 constructor
 ·intro h
  have h1:∀c,c∈(s.reverse.dropWhile (qwh.contains ·)).reverse→qwh.contains c=true:=by
   intro c hc
   have:=q8e.1 h c hc
   simpa using this
  have h2:s.reverse.dropWhile (qwh.contains ·)=[]:=by
   cases hd:s.reverse.dropWhile (qwh.contains ·) with
   | nil=>rfl
   | cons c t=>
    exfalso
    have h3:=List.head_dropWhile_not (p:=(qwh.contains ·)) (l:=s.reverse) (by rw[hd];simp)
    simp only[hd,List.head_cons] at h3
    have:=h1 c (by rw[hd];simp)
    rw[this] at h3;cases h3
  intro c hc
  have:=q8e.1 h2 c (by simpa using hc)
  exact(qtu c).1 (by simpa using this)
 ·intro h
  have h2:s.reverse.dropWhile (qwh.contains ·)=[]:=by
   rw[q8e]
   intro c hc
   exact(qtu c).2 (h c (by simpa using hc))
  rw[h2];rfl
theorem qAp(s:List UInt8)(hl:s.length≤9223372036854775807):(q3z [.s s,.s [48,49,50,51,52,53,54,55,56,57]]).run=some (0,[.s (Lib.trimS s qwh)]):=by
 show (qv5 [.s s,.s qwh]).run=_
 unfold qv5
 simp only
 rw[if_pos ⟨hl,by decide,by decide⟩];rfl
end Go.Eng

namespace Go.Eng
theorem qvU(n:Nat):pB n=((10^(9*n):Nat):Int):=by
 unfold pB
 rw[Nat.pow_mul]
 simp
theorem qtX:∀k:Nat,k≤9→q5W [48,48,48,48,48,48,48,48,48] (k:Int) 9=List.replicate (9-k) 48
 | 0,_=>rfl
 | 1,_=>rfl
 | 2,_=>rfl
 | 3,_=>rfl
 | 4,_=>rfl
 | 5,_=>rfl
 | 6,_=>rfl
 | 7,_=>rfl
 | 8,_=>rfl
 | 9,_=>rfl
 | n+10,h=>by omega
theorem qyJ{v:Nat}(h:v<1000000000):q4p (qwZ (tN v))∧(qwZ (tN v)).length=9∧val (qwZ (tN v))=v:=by
 have hl:(tN v).length≤9:=q2m 8 v (by omega)
 have e:qwZ (tN v)=List.replicate (9-(tN v).length) 48++tN v:=by
  unfold qwZ q6K
  rw[show qw (tN v)=((tN v).length:Int) from rfl,qtX _ hl]
 rw[e]
 refine⟨q5Z.2 ⟨qjo _,wX v⟩,by simp;omega,by rw[qlv,q0u]⟩
theorem qo5{l:List Int}(hl:l.length=232)(hd:dgs l):∀i:Nat,i≤232→q4p (qh8 (rI l) i)∧(qh8 (rI l) i).length=9*i∧((val (qh8 (rI l) i):Nat):Int)=mv (l.take i)
 | 0,_=>⟨qiu,rfl,by simp[qh8,qcx,mv]⟩
 | i+1,h=>by
  obtain⟨h1,h2,h3⟩:=qo5 hl hd i (by omega)
  have hil:i<l.length:=by omega
  have hg:=hd _ (List.getElem_mem hil)
  have e:cI (rI l) (i:Int) 0=l[i]:=by rw[q4n,jV hil]
  have e2:Lib.itoa l[i]=tN l[i].toNat:=by rw[qsB,qgC (by omega)];congr 1;omega
  obtain⟨p1,p2,p3⟩:=qyJ (v:=l[i].toNat) (by omega)
  unfold qh8
  rw[e,e2]
  refine⟨q5Z.2 ⟨p1,h1⟩,by rw[List.length_append,p2,h2];omega,?_⟩
  rw[qpS,p3,h2,qkl hil,qvU]
  simp only[Int.natCast_add,Int.natCast_mul,h3]
  rw[Int.toNat_of_nonneg hg.1];omega
theorem qxH{n:Nat}{l:List Int}(h:WOK n l)(hn:nrm n l)(b:Bool):qwr b (n:Int) (rI l)=tI (sv b l):=by
 unfold qwr
 by_cases h0:n=0
 ·have h1:mv l=0:=by rw[←qhW h hn];exact h0
  rw[if_pos (by omega)]
  unfold sv;rw[h1];cases b<;>rfl
 ·rw[if_neg (by omega)]
  obtain⟨m,rfl⟩:∃m,n=m+1:=⟨n-1,by omega⟩
  have hle:=h.le
  have hml:m<l.length:=by rw[h.len];omega
  have e1:(((m+1:Nat):Int)-1)=(m:Int):=by omega
  rw[e1,Int.toNat_natCast,q4n,jV hml]
  have hg:=h.dig _ (List.getElem_mem hml)
  have e2:Lib.itoa l[m]=tN l[m].toNat:=by rw[qsB,qgC (by omega)];congr 1;omega
  obtain⟨t1,t2,t3⟩:=qo5 h.len h.dig m (by omega)
  have hnz:l[m]≠0:=by
   rcases hn with hn|hn
   ·omega
   ·rw[Nat.add_sub_cancel,jV hml] at hn;exact hn
  have hlo:=h.lo hn h0
  have hp:=qac m
  simp only[Nat.add_sub_cancel] at hlo
  have hv:((val (tN l[m].toNat++qh8 (rI l) m):Nat):Int)=mv l:=by
   rw[qpS,q0u,t2,qa0 l m (by omega),qam hml,j2 h.dig h.z (Nat.le_refl _),qvU]
   simp only[Int.natCast_add,Int.natCast_mul,t3]
   rw[Int.toNat_of_nonneg hg.1]
   grind
  have hT:tN l[m].toNat++qh8 (rI l) m=tN (mv l).toNat:=by
   have hd:q4p (tN l[m].toNat++qh8 (rI l) m):=q5Z.2 ⟨wX _,t1⟩
   have hne:tN l[m].toNat++qh8 (rI l) m≠[]:=by simp[qlG]
   have hz:(tN l[m].toNat++qh8 (rI l) m).getD 0 0≠48:=by
    have hv0:=q0u l[m].toNat
    have hd0:=wX l[m].toNat
    rcases qvr l[m].toNat with h1|h1
    ·obtain⟨c,e⟩:=List.length_eq_one_iff.1 h1
     rw[e] at hv0 ⊢
     simp only[List.cons_append,List.getD_cons_zero]
     intro hc;subst hc
     rw[qs2] at hv0
     simp[dv] at hv0;omega
    ·obtain⟨c,t,e,_⟩:=qf7 hd0 (qlG _)
     rw[e] at h1 ⊢
     simpa using h1
   have:=qlW hd hne (.inr hz)
   rw[this];congr 1;omega
  rw[e2,List.append_assoc,hT]
  unfold sv
  cases b
  ·rw[if_neg (by simp),if_neg (by simp),qgC (by omega)];simp;congr 1;omega
  ·rw[if_pos rfl,if_pos rfl,q9S (by omega)];simp;congr 1;omega
theorem quC{n:Nat}{l:List Int}(h:WOK n l):qoC (n:Int) (rI l)=true:=by
 unfold qoC
 have:=h.le
 simp only[Bool.and_eq_true,decide_eq_true_eq,List.all_eq_true,List.mem_range]
 refine⟨⟨by omega,by omega⟩,fun i _=>?_⟩
 have:=h.get i
 rw[q4n];exact this
theorem qsV{n:Nat}{l:List Int}(h:WOK n l)(hn:nrm n l)(b:Bool):(qB [.b b,.i (n:Int),.r (rI l)]).run=some (0,[.s (tI (sv b l)),.b b,.i (n:Int),.r (rI l)]):=by
 show (qvt [.b b,.i (n:Int),.r (rI l)]).run=_
 unfold qvt
 simp only
 rw[if_pos (quC h),qxH h hn];rfl
end Go.Eng

namespace Go.Eng
theorem qy8{nr ny:Nat}{lr ly:List Int}(hr:WOK nr lr)(hnr:nrm nr lr)(hy:WOK ny ly)(hny:nrm ny ly)(h0:ny≠0)(hy231:ny≤231)(hlt:mv lr<mv ly*1000000000)(y0:Int)(xb:Bool)(xi:Int)(xr:R)(b2:Bool)(qb:Bool)(qi:Int)(qr:R)(br:Bool) :
  ∃(d:Int) (n:Nat) (l:List Int),(qf yb [.i y0,.i 0,.b xb,.i xi,.r xr,.b b2,.i (ny:Int),.r (rI ly),.b qb,.i qi,.r qr,.b br,.i (nr:Int),.r (rI lr)]).run =
   some (0,[.i y0,.i d,.b xb,.i xi,.r xr,.b b2,.i (ny:Int),.r (rI ly),.b qb,.i qi,.r qr,.b br,.i (n:Int),.r (rI l)])∧WOK n l∧nrm n l∧0≤d∧d<1000000000∧mv lr=d*mv ly+mv l∧mv l<mv ly:=by
 have hyp:0<mv ly:=by
  have:=hy.lo hny h0
  have:=qac (ny-1)
  omega
 have hyb:=hy.bd
 obtain⟨j,qs,g1,rfl,d,n,l,rfl,g2⟩:=jD (S:=yb) (fun k ps=>∃(d:Int) (n:Nat) (l:List Int),ps=[.i y0,.i d,.b xb,.i xi,.r xr,.b b2,.i (ny:Int),.r (rI ly),.b qb,.i qi,.r qr,.b br,.i (n:Int),.r (rI l)] ∧
   WOK n l∧nrm n l∧0≤d∧d+k=1000000000∧mv lr=d*mv ly+mv l)
  (fun j qs=>j=0∧∃(d:Int) (n:Nat) (l:List Int),qs=[.i y0,.i d,.b xb,.i xi,.r xr,.b b2,.i (ny:Int),.r (rI ly),.b qb,.i qi,.r qr,.b br,.i (n:Int),.r (rI l)]∧WOK n l∧nrm n l∧0≤d∧d<1000000000∧mv lr=d*mv ly+mv l∧mv l<mv ly) (n:=1000000000) (by omega)
  (fun k ps hk ⟨d,n,l,hps,hw,hn,hd0,hdk,hv⟩=>by
   subst hps
   have hlb:=hw.bd
   have hdlt:d<1000000000:=by
    rcases Int.lt_or_le d 1000000000 with h|h
    ·exact h
    ·have:=Int.mul_le_mul_of_nonneg_right h (show 0≤mv ly by omega)
     rw[Int.mul_comm (mv ly)] at hlt
     omega
   rw[qgZ]
   obtain⟨r,r1,r2⟩:=qt6 hw hn hy hny br b2
   by_cases hle:mv ly≤mv l
   ·left
    have hr0:0≤r:=by rw[r2];exact hle
    have hdm:=Int.mul_nonneg hd0 (show 0≤mv ly by omega)
    have hl9:mv l<pB (ny+1):=by rw[q8L];omega
    obtain⟨q,e1,e2,e3,e4⟩:=quE hw hn hy hny h0 hle hl9 hy231 br b2
    obtain⟨n',l',c1,c2,c3,c4⟩:=qlM (f:=-q) (up:=0) hw hy (by omega) (by omega) (T:=mv l-q*mv ly) (by rw[q5l,Int.mul_one,Int.neg_mul];omega) (by omega)
     (by have:=hlb.2;have:=qax hw.le;have:=Int.mul_nonneg (show 0≤q by omega) (show 0≤mv ly by omega);omega) br b2
    have hq2:(d+q)*mv ly+(mv l-q*mv ly)=d*mv ly+mv l:=by rw[Int.add_mul];omega
    have hdq:d+q<1000000000:=by
     rcases Int.lt_or_le (d+q) 1000000000 with h|h
     ·exact h
     ·have:=Int.mul_le_mul_of_nonneg_right h (show 0≤mv ly by omega)
      rw[Int.mul_comm (mv ly)] at hlt
      omega
    have w1:z8 .i64 0 q=-q:=qpQ (by omega)
    have w2:qt .i64 d q=d+q:=wi (by omega)
    simp only[show ((0:Nat):Int)=0 from rfl] at c1
    refine⟨(1000000000-(d+q)).toNat,[.i y0,.i (d+q),.b xb,.i xi,.r xr,.b b2,.i (ny:Int),.r (rI ly),.b qb,.i qi,.r qr,.b br,.i (n':Int),.r (rI l')],by omega,?_,d+q,n',l',rfl,c2,c3,by omega,by omega,by rw[c4];omega⟩
    simp only[STD,r1,hr0,e1,w1,w2,c1]
   ·right
    have hr0:¬0≤r:=by rw[r2];exact hle
    refine⟨0,_,?_,rfl,d,n,l,rfl,hw,hn,hd0,hdlt,hv,by omega⟩
    simp only[STD,r1,hr0]) (ps:=[.i y0,.i 0,.b xb,.i xi,.r xr,.b b2,.i (ny:Int),.r (rI ly),.b qb,.i qi,.r qr,.b br,.i (nr:Int),.r (rI lr)]) ⟨0,nr,lr,rfl,hr,hnr,by omega,by omega,by omega⟩
 exact⟨d,n,l,g1,g2⟩
theorem qxi{n:Nat}{l:List Int}{d:Int}(h:WOK n l)(hn:n≤231)(hd:0≤d∧d<1000000000) :
  qbN (qh7 (rI l) 1 (rI l) 0 (q8r (qrs (n:Int) 0) (qrs 232 1))) 0 0 [.i d]=rI (d::(l.take n++l.drop (1+n)))∧WOK (n+1) (d::(l.take n++l.drop (1+n)))∧mv (d::(l.take n++l.drop (1+n)))=d+1000000000*mv l:=by
 have hlen:=h.len
 have e1:q8r (qrs (n:Int) 0) (qrs 232 1)=(n:Int):=by unfold q8r qrs;split<;>omega
 obtain⟨x,t,rfl⟩:∃x t,l=x::t:=by
  cases l with
  | nil=>simp at hlen
  | cons x t=>exact⟨x,t,rfl⟩
 refine⟨?_,⟨by simp;simp at hlen;omega,by omega,?_,?_⟩,?_⟩
 ·rw[e1]
  unfold qh7
  have:(rI (x::t)).take (1:Int).toNat++((rI (x::t)).drop (0:Int).toNat).take (n:Int).toNat++(rI (x::t)).drop ((1:Int).toNat+(n:Int).toNat)=rI (x::((x::t).take n++(x::t).drop (1+n))):=by
   rw[Int.toNat_natCast]
   simp[rI,List.map_take,List.map_drop]
  rw[this,show (0:Int)=((0:Nat):Int) from rfl,qgR]
  rfl
 ·intro y hy
  rcases List.mem_cons.1 hy with rfl|hy
  ·exact hd
  ·rcases List.mem_append.1 hy with hy|hy
   ·exact h.dig _ (List.mem_of_mem_take hy)
   ·exact h.dig _ (List.mem_of_mem_drop hy)
 ·intro i hi
  obtain⟨j,rfl⟩:∃j,i=j+1:=⟨i-1,by omega⟩
  have hz:=h.z (j+1) (by omega)
  rw[List.getD_eq_getElem?_getD] at hz ⊢
  rw[List.getElem?_cons_succ,List.getElem?_append_right (by simp;omega)]
  rw[List.getElem?_drop,List.length_take,Nat.min_eq_left (by omega)]
  rw[show 1+n+(j-n)=j+1 by omega]
  exact hz
 ·show d+1000000000*mv _=_
  rw[qtt,List.length_take,Nat.min_eq_left (by omega),j2 h.dig h.z (show n≤1+n by omega)]
  have:=qa0 (x::t) n (by omega)
  rw[j2 h.dig h.z (Nat.le_refl n)] at this
  omega
theorem qdF{nx ny:Nat}{lx ly:List Int}(hx:WOK nx lx)(hy:WOK ny ly)(hny:nrm ny ly)(h0:ny≠0)(hy231:ny≤231)(bx b2:Bool) :
  ∃(nq:Nat) (lq:List Int) (nr:Nat) (lr:List Int),(qX [.b bx,.i (nx:Int),.r (rI lx),.b b2,.i (ny:Int),.r (rI ly)]).run =
   some (0,[.b bx,.i (nx:Int),.r (rI lx),.b b2,.i (ny:Int),.r (rI ly),.b false,.i (nq:Int),.r (rI lq),.b false,.i (nr:Int),.r (rI lr)])∧WOK nq lq∧nrm nq lq∧WOK nr lr∧nrm nr lr∧mv lx=mv lq*mv ly+mv lr∧mv lr<mv ly:=by
 rw[qkF]
 have hyp:0<mv ly:=by
  have:=hy.lo hny h0
  have:=qac (ny-1)
  omega
 have hx232:=hx.le
 have e0:zK 232 [.i 0]=rI (List.replicate 232 0):=qgN 232 0
 have hxl:=hx.len
 obtain⟨j,qs,g1,rfl,nq,lq,nr,lr,rfl,g2,g3,g4,g5,g6⟩:=jD (S:=q0c) (fun k ps=>∃(Q:Int) (nq:Nat) (lq:List Int) (nr:Nat) (lr:List Int),
   ps=[.i ((k:Int)-1),.b bx,.i (nx:Int),.r (rI lx),.b b2,.i (ny:Int),.r (rI ly),.b false,.i (nq:Int),.r (rI lq),.b false,.i (nr:Int),.r (rI lr)]∧k≤nx∧WOK nq lq∧WOK nr lr∧nrm nr lr∧mv (lx.drop k)=Q*mv ly+mv lr∧mv lr<mv ly∧mv lq=pB k*Q∧∀i,i<k→lq.getD i 0=0)
  (fun j qs=>j=0∧∃(nq:Nat) (lq:List Int) (nr:Nat) (lr:List Int),qs=[.b bx,.i (nx:Int),.r (rI lx),.b b2,.i (ny:Int),.r (rI ly),.b false,.i (nq:Int),.r (rI lq),.b false,.i (nr:Int),.r (rI lr)]∧WOK nq lq∧WOK nr lr∧nrm nr lr∧mv lx=mv lq*mv ly+mv lr∧mv lr<mv ly) (n:=nx) (by omega)
  (fun k ps hk ⟨Q,nq,lq,nr,lr,hps,hkn,hwq,hwr,hnr,hv,hlt,hq,hz⟩=>by
   subst hps
   rw[qis]
   rcases Nat.eq_zero_or_pos k with rfl|hk0
   ·right
    have a1:¬(0:Int)≤((0:Nat):Int)-1:=by omega
    refine⟨0,[.b bx,.i (nx:Int),.r (rI lx),.b b2,.i (ny:Int),.r (rI ly),.b false,.i (nq:Int),.r (rI lq),.b false,.i (nr:Int),.r (rI lr)],?_,rfl,nq,lq,nr,lr,rfl,hwq,hwr,hnr,?_,hlt⟩
    ·simp only[STD,a1]
    ·rw[hq,q5l,Int.one_mul,←hv,List.drop_zero]
   ·left
    obtain⟨i,rfl⟩:∃i,k=i+1:=⟨k-1,by omega⟩
    have e:(((i+1:Nat):Int)-1)=(i:Int):=by omega
    rw[e]
    have hnr231:nr≤231:=Nat.le_trans (qB0 hwr hnr hy (by omega)) hy231
    have hil:i<lx.length:=by omega
    have gx:=hx.get i
    obtain⟨s1,s2,s3⟩:=qxi hwr hnr231 (d:=lx.getD i 0) gx
    obtain⟨m,t1,t2,t3⟩:=qi6 s2 false
    have hX:mv (lx.drop i)=lx.getD i 0+1000000000*(Q*mv ly+mv lr):=by rw[qam hil,←hv,jV hil]
    have hlt2:mv (lx.getD i 0::(lr.take nr++lr.drop (1+nr)))<mv ly*1000000000:=by rw[s3];omega
    obtain⟨d,n',l',d1,d2,d3,d4,d5,d6,d7⟩:=qy8 t2 t3 hy hny h0 hy231 hlt2 (i:Int) bx (nx:Int) (rI lx) b2 false (nq:Int) (rI lq) false
    rw[s3] at d6
    have a1:(0:Int)≤(i:Int):=by omega
    have a2:(i:Int)<232:=by omega
    have a3:(0:Int)≤232∧(232:Int)≤232:=by omega
    have a4:(0:Int)≤1∧(1:Int)≤232:=by omega
    have a5:(0:Int)≤(nr:Int)∧(nr:Int)≤232:=by omega
    have a6:(0:Int)≤0∧(0:Int)≤(nr:Int):=by omega
    have w1:qt .i64 (nr:Int) 1=((nr+1:Nat):Int):=by rw[wi (by omega)];omega
    have w2:qt .i64 (i:Int) 1=((i+1:Nat):Int):=by rw[wi (by omega)];omega
    have w3:z8 .i64 (i:Int) 1=(i:Int)-1:=ub (by omega)
    have w4:q8m (nq:Int) ((i+1:Nat):Int)=((max nq (i+1):Nat):Int):=qpF _ _
    have hiq:i<lq.length:=by rw[hwq.len];omega
    have hzi:lq[i]=0:=by rw[←jV hiq];exact hz i (by omega)
    refine⟨i,[.i ((i:Int)-1),.b bx,.i (nx:Int),.r (rI lx),.b b2,.i (ny:Int),.r (rI ly),.b false,.i ((max nq (i+1):Nat):Int),.r (rI (lq.set i d)),.b false,.i (n':Int),.r (rI l')],by omega,?_,Q*1000000000+d,_,_,_,_,rfl,by omega,hwq.setW (by omega) ⟨d4,d5⟩,d2,d3,?_,d7,?_,?_⟩
    ·simp only[q4n,s1,w1]
     simp only[STD,a1,a2,a3,a4,a5,a6,and_self,t1,d1,w2,w3,w4,qgR]
    ·rw[hX,Int.add_mul,Int.mul_add]
     have:Q*1000000000*mv ly=1000000000*(Q*mv ly):=by grind
     omega
    ·rw[qsS lq i hiq,hzi,hq,q8L];grind
    ·intro a ha
     rw[List.getD_eq_getElem?_getD,List.getElem?_set_ne (by omega),←List.getD_eq_getElem?_getD]
     exact hz a (by omega))
  (ps:=[.i ((nx:Int)-1),.b bx,.i (nx:Int),.r (rI lx),.b b2,.i (ny:Int),.r (rI ly),.b false,.i 0,.r (rI (List.replicate 232 0)),.b false,.i 0,.r (rI (List.replicate 232 0))])
  ⟨0,0,_,0,_,rfl,Nat.le_refl _,WOK.zero,WOK.zero,.inl rfl,by rw[j2 hx.dig hx.z (Nat.le_refl _),qcp];omega,by rw[qcp];exact hyp,by rw[qcp,Int.mul_zero],fun i _=>qqg 232 i⟩
 obtain⟨m,t1,t2,t3⟩:=qi6 g2 false
 refine⟨m,lq,nr,lr,?_,t2,t3,g3,g4,g5,g6⟩
 have hs:z8 .i64 (nx:Int) 1=(nx:Int)-1:=ub (by omega)
 simp only[e0,hs]
 simp only[STD,g1,t1]
end Go.Eng

namespace Go.Eng
theorem qzZ{c:UInt8}{t:List UInt8}:q5W (c::t) 0 1=[c]:=by simp[q5W]
theorem qwR(s:List UInt8):(qV [.s s,.s [45]]).run=some (0,[.b (decide (s.getD 0 0=45))]):=by
 rw[q52]
 have h1:qw [45]=1:=rfl
 cases s with
 | nil=>
  have a:¬(1:Int)≤qw []:=by decide
  simp only[STD,h1,a];rfl
 | cons c t=>
  have a:(1:Int)≤qw (c::t):=by unfold qw;simp only[List.length_cons];omega
  simp only[STD,h1,a,show (0:Int)≤1 by omega,show (0:Int)≤0 by omega,and_self,qzZ]
  have e:seq [c] [45]=decide ((c::t).getD 0 0=45):=by rw[Bool.eq_iff_iff,zG];simp
  rw[e]
theorem qpy(s:List UInt8):(ql [.s s,.s [45]]).run=some (0,[.s (mag s)]):=by
 rw[qep]
 have h:(zp [.s s,.s [45]]).run=some (0,[.s (mag s)]):=by
  rw[q4o]
  have h1:qw [45]=1:=rfl
  unfold mag
  by_cases h:s.getD 0 0=45
  ·rw[if_pos h]
   have a:(1:Int)≤qw s:=by
    cases s with
    | nil=>simp at h
    | cons c t=>unfold qw;simp only[List.length_cons];omega
   have e:q5W s 1 (qw s)=s.drop 1:=by unfold q5W qw;simp
   simp only[STD,qwR,h,h1,a,and_self,Int.le_refl,show (0:Int)≤qw s by omega,show (0:Int)≤1 by omega,e]
  ·rw[if_neg h]
   simp only[STD,qwR,h]
 simp only[STD,h]
theorem qbX(s:List UInt8)(hl:s.length≤1000000000):(qJ [.s s]).run=some (0,[.i (qro s)]):=by
 rw[qni]
 have hT:=qpy s
 have hml:(mag s).length≤s.length:=by unfold mag;split<;>simp
 have hR:=qAp (mag s) (by omega)
 have hcan:=qr4 s
 unfold qro
 have hl3:(1024<qw (mag s))=¬((mag s).length≤1024):=by unfold qw;simp only[eq_iff_iff];omega
 by_cases hne:mag s=[]
 ·rw[if_neg (fun h=>(hcan.1 h).1 hne)]
  simp only[STD,hT,zG,hne]
 ·have hp:0<(mag s).length:=List.length_pos_iff.2 hne
  have a1:(0:Int)<qw (mag s):=by unfold qw;omega
  have hs:sat (mag s) 0=((mag s)[0].toNat:Int):=qgV (i:=0) hp
  have h48:((mag s)[0].toNat:Int)=48↔(mag s).getD 0 0=48:=by
   have:(mag s).getD 0 0=(mag s)[0]:=by simp[List.getD_eq_getElem?_getD,hp]
   rw[this]
   exact⟨fun h=>UInt8.toNat_inj.1 (by show (mag s)[0].toNat=48;omega),fun h=>by rw[h];rfl⟩
  by_cases hd:q4p (mag s)
  ·have hs1:((mag s).getD 0 0=48→s.length=1)↔(((mag s)[0].toNat:Int)=48→s=[48]):=by
    rw[h48]
    constructor
    ·intro h h2
     obtain⟨c,e⟩:=List.length_eq_one_iff.1 (h h2)
     subst e
     by_cases hc:c=45
     ·subst hc;exact absurd rfl hne
     ·have:mag [c]=[c]:=by unfold mag;rw[if_neg (by simpa using hc)]
      rw[this] at h2
      simp at h2
      rw[h2]
    ·intro h h2
     rw[h h2];rfl
   by_cases hz:((mag s)[0].toNat:Int)=48
   ·by_cases h0:s=[48]
    ·rw[if_pos (hcan.2 ⟨hne,hd,hs1.2 fun _=>h0⟩)]
     by_cases hL:(mag s).length≤1024
     ·simp only[STD,hT,hR,zG,hne,qf8,hd,a1,hs,hz,hl3,hL,Int.le_refl,and_self]
      simp only[STD,h0]
     ·simp only[STD,hT,hR,zG,hne,qf8,hd,a1,hs,hz,hl3,hL,Int.le_refl,and_self]
      simp only[STD,h0]
    ·rw[if_neg (fun h=>h0 (hs1.1 (hcan.1 h).2.2 hz))]
     simp only[STD,hT,hR,zG,hne,qf8,hd,a1,hs,hz,h0,Int.le_refl,and_self]
   ·rw[if_pos (hcan.2 ⟨hne,hd,fun h=>absurd (h48.2 h) hz⟩)]
    by_cases hL:(mag s).length≤1024
    ·simp only[STD,hT,hR,zG,hne,qf8,hd,a1,hs,hz,hl3,hL,Int.le_refl,and_self]
    ·simp only[STD,hT,hR,zG,hne,qf8,hd,a1,hs,hz,hl3,hL,Int.le_refl,and_self]
  ·rw[if_neg (fun h=>hd (hcan.1 h).2.1)]
   simp only[STD,hT,hR,zG,hne,qf8,hd]
def okL(m:Int):Prop:=nl m≤1024
theorem qrt{m:Int}(h:okL m):qro (tI m)=0:=by
 unfold qro
 rw[if_pos ⟨m,rfl⟩,qqf,if_pos (show (tN m.natAbs).length≤1024 from h)]
theorem qrP{m:Int}(h:okL m):(tI m).length≤1025:=by
 have:=qrk m
 unfold okL nl at h
 omega
theorem qhZ{m:Int}(h:okL m):(qJ [.s (tI m)]).run=some (0,[.i 0]):=by
 have:=qrP h
 rw[qbX _ (by omega),qrt h]
def rS(l:List (List UInt8)):R:=l.map fun s=>[.s s]
theorem qnT(l:List (List UInt8)):qL (rS l)=l.length:=by simp[rS,qL]
theorem qv6{l:List (List UInt8)}{i:Nat}(h:i<l.length):cS (rS l) (i:Int) 0=l[i]:=by simp[cS,jj,rS,List.getD_eq_getElem?_getD,h,U.toS]
theorem qA4{l:List (List UInt8)}(hn:l.length<1000000)(h:∀s,s∈l→(qJ [.s s]).run=some (0,[.i 0])):(zo [.r (rS l)]).run=some (0,[.i 0]):=by
 rw[qr8,qnT]
 have key:=q0s (S:=q1f) (fun i=>[.r (rS l),.i (l.length:Int),.i (i:Int)]) (0,[]) l.length (by omega) (fun i hi=>by
  rw[qg3,qv6 hi]
  have a1:(i:Int)<(l.length:Int):=by omega
  have a2:(i:Int)<qL (rS l):=by rw[qnT];exact a1
  simp only[STD,a1,a2,yD,and_self,h _ (List.getElem_mem hi),q41 hi (show l.length<9223372036854775808 by omega)]) (by
  rw[qg3]
  have a1:¬(l.length:Int)<(l.length:Int):=by omega
  simp only[STD,a1])
 simp only[show (((0:Nat)):Int)=0 from rfl] at key
 simp only[STD,key,zn key]
theorem qd0{m n:Int}(hm:okL m)(hn:okL n):(zo [.r [[.s (tI m)],[.s (tI n)]]]).run=some (0,[.i 0]):=by
 have:=qA4 (l:=[tI m,tI n]) (by simp) (fun s hs=>by
  simp only[List.mem_cons,List.not_mem_nil,or_false] at hs
  rcases hs with rfl|rfl
  ·exact qhZ hm
  ·exact qhZ hn)
 exact this
theorem qeQ(n:Int)(h:-9223372036854775808≤n∧n≤9223372036854775807):(vm [.i n]).run=some (0,[.s (tI n)]):=by
 rw[qrv]
 simp only[STD,qzY n h]
theorem q8v(m:Int):(tI m=[48])=(m=0):=propext ⟨fun h=>qq3 (n:=0) h,fun h=>by rw[h];rfl⟩
theorem q2r(m:Int):(zS [.s (tI m)]).run=some (0,[.i (sgn m)]):=by
 rw[qp1]
 have a1:(0:Int)<qw (tI m):=by have:=ql5 m;unfold qw;omega
 have hs:(sat (tI m) 0=45)=(m<0):=qt8 m
 unfold sgn
 by_cases h0:m=0
 ·simp only[STD,zG,q8v,h0];rfl
 ·by_cases h1:m<0
  ·simp only[STD,zG,q8v,h0,a1,hs,h1,Int.le_refl,and_self]
  ·simp only[STD,zG,q8v,h0,a1,hs,h1,Int.le_refl,and_self]
theorem qrj{m:Int}(h:okL m):(q2s [.s (tI m)]).run=some (0,[.i (sgn m),.i 0]):=by
 rw[qpb]
 simp only[STD,qhZ h,q2r]
theorem qzr(m n:Nat):(q2z [.s (tN m),.s (tN n)]).run=some (0,[.i (sgn ((m:Int)-(n:Int)))]):=by
 rw[qns]
 have hl:(qw (tN m)=qw (tN n))=((tN m).length=(tN n).length):=by unfold qw;simp only[eq_iff_iff];omega
 have hl2:(qw (tN m)<qw (tN n))=((tN m).length<(tN n).length):=by unfold qw;simp only[eq_iff_iff];omega
 by_cases he:(tN m).length=(tN n).length
 ·have h:=qtZ (wX m) (wX n) he
  rw[q0u,q0u] at h
  simp only[STD,hl,he,h]
 ·by_cases hlt:(tN m).length<(tN n).length
  ·have h:=(qsd m n).1 (.inl hlt)
   simp only[STD,hl,hl2,he,hlt]
   unfold sgn
   rw[if_pos (by omega)]
  ·have h:=(qsd n m).1 (.inl (by omega))
   simp only[STD,hl,hl2,he,hlt]
   unfold sgn
   rw[if_neg (by omega),if_neg (by omega)]
theorem qbp(m:Int):(m<0∧sgn m=-1)∨(m=0∧sgn m=0)∨(0<m∧sgn m=1):=by
 unfold sgn
 rcases Int.lt_trichotomy m 0 with h|h|h
 ·rw[if_pos h];omega
 ·subst h;simp
 ·rw[if_neg (by omega),if_neg (by omega)];omega
theorem qm9(m:Int):-1≤sgn m∧sgn m≤1:=by rcases qbp m with⟨_,e⟩|⟨_,e⟩|⟨_,e⟩<;>omega
theorem qyP(m n:Int):(if sgn m<sgn n then -1 else if sgn n<sgn m then 1 else sgn m*sgn ((m.natAbs:Int)-(n.natAbs:Int)))=sgn (m-n):=by
 rcases qbp m with⟨a,ea⟩|⟨a,ea⟩|⟨a,ea⟩<;>rcases qbp n with⟨b,eb⟩|⟨b,eb⟩|⟨b,eb⟩<;>rw[ea,eb]<;>simp only[Int.reduceLT,Int.reduceNeg,if_true,if_false] <;>
  rcases qbp (m-n) with⟨c,ec⟩|⟨c,ec⟩|⟨c,ec⟩<;>rcases qbp ((m.natAbs:Int)-(n.natAbs:Int)) with⟨d,ed⟩|⟨d,ed⟩|⟨d,ed⟩<;>omega
theorem qmP{m n:Int}(hm:okL m)(hn:okL n):(ui [.s (tI m),.s (tI n)]).run=some (0,[.i (sgn (m-n)),.i 0]):=by
 rw[qkG]
 have h1:=qpy (tI m)
 have h2:=qpy (tI n)
 rw[qqf] at h1 h2
 have h3:=qzr m.natAbs n.natAbs
 have hw:∀a b:Int,-1≤a∧a≤1→-1≤b∧b≤1→q0Q .i64 a b=a*b:=fun a b ha hb=>q8u (by have:=qAF (A:=1) (B:=1) ha.1 ha.2 hb.1 hb.2;omega)
 have ba:=qm9 m
 have bb:=qm9 n
 have bc:=qm9 ((m.natAbs:Int)-(n.natAbs:Int))
 have e:=qyP m n
 by_cases c1:sgn m<sgn n
 ·rw[if_pos c1] at e
  simp only[STD,qd0 hm hn,q2r,h1,h2,h3,c1,←e]
 ·rw[if_neg c1] at e
  by_cases c2:sgn n<sgn m
  ·rw[if_pos c2] at e
   simp only[STD,qd0 hm hn,q2r,h1,h2,h3,c1,c2,←e]
  ·rw[if_neg c2] at e
   simp only[STD,qd0 hm hn,q2r,h1,h2,h3,c1,c2,hw _ _ ba bc,←e]
theorem qk7(m:Int)(hm:nl m≤2000):∃(n:Nat) (l:List Int),(qk [.s (tI m)]).run=some (0,[.b (decide (m<0)),.i (n:Int),.r (rI l)])∧WOK n l∧nrm n l∧mv l=m.natAbs∧9*n≤nl m+8:=by
 rw[qoF]
 have h1:=qpy (tI m)
 rw[qqf] at h1
 have a1:(0:Int)<qw (tI m):=by have:=ql5 m;unfold qw;omega
 have hb:ieq (sat (tI m) 0) 45=decide (m<0):=by
  rw[Bool.eq_iff_iff,qsr,qt8];simp
 have e0:zK 232 [.i 0]=rI (List.replicate 232 0):=qgN 232 0
 have hL:(tN m.natAbs).length≤2000:=hm
 obtain⟨j,qs,g1,rfl,n,l,rfl,g2,g3,g4⟩:=jD (S:=zx) (fun k ps=>∃(n:Nat) (l:List Int),ps=[.s ((tN m.natAbs).take k),.b (decide (m<0)),.i (n:Int),.r (rI l)]∧k≤(tN m.natAbs).length∧WOK n l ∧
   (k=0∧9*n≤(tN m.natAbs).length+8∨k+9*n=(tN m.natAbs).length)∧((val (tN m.natAbs):Nat):Int)=((val ((tN m.natAbs).take k):Nat):Int)*pB n+mv l)
  (fun j qs=>j=0∧∃(n:Nat) (l:List Int),qs=[.b (decide (m<0)),.i (n:Int),.r (rI l)]∧WOK n l∧mv l=m.natAbs∧9*n≤(tN m.natAbs).length+8) (n:=(tN m.natAbs).length) (by omega)
  (fun k ps hk ⟨n,l,hps,hkl,hw,hkn,hv⟩=>by
   subst hps
   rw[qmT]
   have hlk:qw ((tN m.natAbs).take k)=(k:Int):=by unfold qw;rw[List.length_take,Nat.min_eq_left hkl]
   rcases Nat.eq_zero_or_pos k with rfl|hk0
   ·right
    refine⟨0,[.b (decide (m<0)),.i (n:Int),.r (rI l)],?_,rfl,n,l,rfl,hw,?_,by omega⟩
    ·have a:¬(0:Int)<qw ((tN m.natAbs).take 0):=by rw[hlk];omega
     simp only[STD,a]
    ·rw[q0u,List.take_zero,qcx] at hv
     simp at hv;omega
   ·left
    have hn231:n≤231:=by omega
    obtain⟨q,hq,hq9⟩:∃q:Nat,q8m 0 (z8 .i64 (k:Int) 9)=(q:Int)∧q=k-9:=by
     refine⟨k-9,?_,rfl⟩
     rw[ub (by omega)];unfold q8m;split<;>omega
    have hqk:q≤k:=by omega
    have hsub:q5W ((tN m.natAbs).take k) (q:Int) (k:Int)=((tN m.natAbs).take k).drop q:=by unfold q5W;simp[List.take_take]
    have hsub2:q5W ((tN m.natAbs).take k) 0 (q:Int)=(tN m.natAbs).take q:=by unfold q5W;simp[List.take_take,Nat.min_eq_left hqk]
    have hdg:q4p (((tN m.natAbs).take k).drop q):=qvZ (qr6 (wX _) k) q
    have hdl:(((tN m.natAbs).take k).drop q).length=k-q:=by rw[List.length_drop,List.length_take,Nat.min_eq_left hkl]
    have hdn:((tN m.natAbs).take k).drop q≠[]:=by intro h;rw[h] at hdl;simp at hdl;omega
    have hA:=qwU (s:=((tN m.natAbs).take k).drop q) (by omega) (qqj hdg hdn)
    have hvl:=q5u hdg
    rw[hdl] at hvl
    have hv9:val (((tN m.natAbs).take k).drop q)<1000000000:=Nat.lt_of_lt_of_le hvl (by
     have:(10:Nat)^(k-q)≤10^9:=Nat.pow_le_pow_right (by omega) (by omega)
     simpa using this)
    have b1:(0:Int)<(k:Int):=by omega
    have b2:(0:Int)≤(q:Int)∧(q:Int)≤(k:Int):=by omega
    have b3:(0:Int)≤(k:Int)∧(k:Int)≤(k:Int):=by omega
    have b4:(0:Int)≤(n:Int)∧(n:Int)<232:=by omega
    have b5:(0:Int)≤0∧(0:Int)≤(q:Int):=by omega
    have w1:qt .i64 (n:Int) 1=((n+1:Nat):Int):=by rw[wi (by omega)];omega
    have hnl:n<l.length:=by rw[hw.len];omega
    have hz:l[n]=0:=by rw[←jV hnl];exact hw.z n (Nat.le_refl _)
    have hW:=hw.setW (j:=n) (y:=((val (((tN m.natAbs).take k).drop q):Nat):Int)) (by omega) (by omega)
    rw[Nat.max_eq_right (by omega)] at hW
    refine⟨q,[.s ((tN m.natAbs).take q),.b (decide (m<0)),.i ((n+1:Nat):Int),.r (rI (l.set n ((val (((tN m.natAbs).take k).drop q):Nat):Int)))],by omega,?_,n+1,_,rfl,by omega,hW,by omega,?_⟩
    ·simp only[STD,hlk,b1,hq,b2,b3,b4,b5,and_self,hsub,hsub2,hA,w1,qgR]
    ·rw[qsS l n hnl,hz,hv]
     have hsp:val ((tN m.natAbs).take k)=val ((tN m.natAbs).take q)*10^(k-q)+val (((tN m.natAbs).take k).drop q):=by
      have h1:(tN m.natAbs).take k=((tN m.natAbs).take k).take q++((tN m.natAbs).take k).drop q:=(List.take_append_drop q _).symm
      have h2:((tN m.natAbs).take k).take q=(tN m.natAbs).take q:=by rw[List.take_take,Nat.min_eq_left hqk]
      rw[h2] at h1
      generalize ((tN m.natAbs).take k).drop q=D at *
      rw[h1,qpS,hdl]
     rw[hsp,q8L]
     rcases Nat.lt_or_ge k 9 with h9|h9
     ·have:q=0:=by omega
      subst this
      rw[List.take_zero,qcx]
      simp;omega
     ·have:k-q=9:=by omega
      rw[this]
      simp only[Int.natCast_add,Int.natCast_mul]
      have e9:(((10:Nat)^9:Nat):Int)=1000000000:=by simp
      rw[e9]
      grind) (ps:=[.s ((tN m.natAbs).take (tN m.natAbs).length),.b (decide (m<0)),.i 0,.r (rI (List.replicate 232 0))])
  ⟨0,_,rfl,Nat.le_refl _,WOK.zero,.inr (by omega),by rw[q5l,List.take_length,qcp];simp⟩
 rw[List.take_length] at g1
 obtain⟨n2,t1,t2,t3⟩:=qi6 g2 (decide (m<0))
 refine⟨n2,l,?_,t2,t3,g3,?_⟩
 ·simp only[STD,e0,hb,h1,a1,Int.le_refl,and_self,g1,t1]
 ·have:=qB0 t2 t3 g2 (Int.le_refl _)
  unfold nl;omega
end Go.Eng

namespace Go.Eng
theorem qzc{m:Int}{k n:Nat}(h:nl m≤k)(hk:k≤9*n):(m.natAbs:Int)<pB n:=by
 rw[qvU]
 have h1:=qAo h
 have h2:(10:Nat)^k≤10^(9*n):=Nat.pow_le_pow_right (by omega) hk
 omega
theorem qnQ{m:Int}(h:okL m):(m.natAbs:Int)<pB 114:=qzc (k:=1024) h (by omega)
theorem qpv{m:Int}(h:okL m):okL (-m):=by unfold okL;rw[qmW];exact h
theorem qvy{n:Nat}:pB n+pB n≤pB (n+1):=by rw[q8L];have:=qac n;omega
theorem qA1{b:Bool}{l:List Int}(h:0≤mv l):((sv b l).natAbs:Int)=mv l:=by unfold sv;cases b<;>simp<;>omega
theorem qqs{n:Nat}{l:List Int}(h:WOK n l)(hn:nrm n l)(b:Bool)(hk:okL (sv b l)):(zI [.b b,.i (n:Int),.r (rI l)]).run=some (0,[.s (tI (sv b l)),.i 0,.b b,.i (n:Int),.r (rI l)]):=by
 rw[qec]
 simp only[STD,qsV h hn,qhZ hk]
theorem qsb(m n:Int):(wo [.s (tI m),.s (tI n)]).run=some (0,if (tI m).length≤9∧(tI n).length≤9 then [.i m,.i n,.b true] else [.i 0,.i 0,.b false]):=by
 rw[qnt]
 have h1:(9<qw (tI m))=¬(tI m).length≤9:=by unfold qw;simp only[eq_iff_iff];omega
 have h2:(9<qw (tI n))=¬(tI n).length≤9:=by unfold qw;simp only[eq_iff_iff];omega
 by_cases a:(tI m).length≤9
 ·by_cases b:(tI n).length≤9
  ·simp only[STD,h1,h2,a,b,and_self,qwU (s:=tI m) (by omega) (qwT m),qwU (s:=tI n) (by omega) (qwT n)]
  ·simp only[STD,h1,h2,a,b,and_false]
 ·simp only[STD,h1,a,false_and]
theorem qeW{m:Int}(h:(tI m).length≤9):m.natAbs<1000000000:=by
 have:(tN m.natAbs).length≤9:=by
  unfold tI at h
  split at h
  ·simp at h;omega
  ·exact h
 exact Nat.lt_of_lt_of_le (q4R this) (by simp)
theorem qtg(n:Int)(h:-9223372036854775808≤n∧n≤9223372036854775807):(jE [.i n]).run=some (0,[.s (tI n),.i 0]):=by
 rw[qlD]
 simp only[STD,qeQ n h]
theorem qvo{m:Int}{l:List Int}(h:mv l=m.natAbs):sv (decide (m<0)) l=m:=by
 unfold sv
 by_cases hm:m<0
 ·rw[decide_eq_true hm,if_pos rfl];omega
 ·rw[decide_eq_false hm,if_neg (by simp)];omega
theorem qAv{m n:Int}(hm:okL m)(hn:okL n)(hs:okL (m+n)):(q49 [.r [[.s (tI m)],[.s (tI n)]]]).run=some (0,[.s (tI (m+n)),.i 0]):=by
 rw[qqb]
 have e0:zK 232 [.i 0]=rI (List.replicate 232 0):=qgN 232 0
 have lm:=qnQ hm
 have ln:=qnQ hn
 obtain⟨q1,l1,r1,w1,n1,v1,_⟩:=qk7 m (by unfold okL at hm;omega)
 obtain⟨q2,l2,r2,w2,n2,v2,_⟩:=qk7 n (by unfold okL at hn;omega)
 have hb2:=qax (show 115≤232 by omega)
 have hb1:pB 114+pB 114≤pB 115:=qvy
 have hb0:=qac 114
 obtain⟨b1,k1,m1,a1,a2,a3,a4⟩:=qyr (lx:=List.replicate 232 0) (nx:=0) WOK.zero (.inl rfl) w1 n1 (by rw[qcp,v1];omega) false (decide (m<0))
 rw[qvo v1] at a4
 have a5:sv b1 m1=m:=by
  have:sv false (List.replicate 232 0)=0:=by unfold sv;rw[if_neg (by simp),qcp]
  rw[a4,this];omega
 obtain⟨b2,k2,m2,c1,c2,c3,c4⟩:=qyr a2 a3 w2 n2 (by rw[←qA1 (b:=b1) a2.bd.1,a5,v2];omega) b1 (decide (n<0))
 rw[qvo v2,a5] at c4
 have key:=q0s (S:=wS) (fun i=>match i with
  | 0=>[.r [[.s (tI m)],[.s (tI n)]],.i 2,.i 0,.b false,.i 0,.r (rI (List.replicate 232 0))]
  | 1=>[.r [[.s (tI m)],[.s (tI n)]],.i 2,.i 1,.b b1,.i (k1:Int),.r (rI m1)]
  | _=>[.r [[.s (tI m)],[.s (tI n)]],.i 2,.i 2,.b b2,.i (k2:Int),.r (rI m2)]) (0,[.b b2,.i (k2:Int),.r (rI m2)]) 2 (by omega) (fun i hi=>by
   have:i=0∨i=1:=by omega
   have d0:cS [[.s (tI m)],[.s (tI n)]] 0 0=tI m:=rfl
   have d1:cS [[.s (tI m)],[.s (tI n)]] 1 0=tI n:=rfl
   have d2:qL [[U.s (tI m)],[U.s (tI n)]]=2:=rfl
   rcases this with rfl|rfl
   ·simp only
    rw[qaz,d0,d2]
    simp only[show ((0:Nat):Int)=0 from rfl] at a1
    have w:qt .i64 0 1=1:=by decide
    simp only[STD,r1,a1,w,show (0:Int)<2 by omega,show (0:Int)≤0 by omega,and_self]
   ·simp only
    rw[qaz,d1,d2]
    have w:qt .i64 1 1=2:=by decide
    simp only[STD,r2,c1,w,show (1:Int)<2 by omega,show (0:Int)≤1 by omega,and_self]) (by
   simp only
   rw[qaz]
   simp only[STD,show ¬(2:Int)<2 by omega])
 simp only at key
 have hL:=qqs c2 c3 b2 (by rw[c4];exact hs)
 rw[c4] at hL
 have d2:qL [[U.s (tI m)],[U.s (tI n)]]=2:=rfl
 simp only[e0,d2]
 simp only[STD,key,hL]
theorem qAu{m n:Int}(hm:okL m)(hn:okL n)(hs:okL (m+n)):(jc [.s (tI m),.s (tI n)]).run=some (0,[.s (tI (m+n)),.i 0]):=by
 rw[qq7]
 have h:=qsb m n
 by_cases hc:(tI m).length≤9∧(tI n).length≤9
 ·rw[if_pos hc] at h
  have b1:=qeW hc.1
  have b2:=qeW hc.2
  have w:qt .i64 m n=m+n:=wi (by omega)
  simp only[STD,qd0 hm hn,h,w,qtg (m+n) (by omega)]
 ·rw[if_neg hc] at h
  simp only[STD,qd0 hm hn,h,qAv hm hn hs]
theorem qtU{m:Int}(hm:okL m):(jl [.s (tI m)]).run=some (0,[.s (tI (-m))]):=by
 rw[qjs]
 have hl:=qrP hm
 have hp:=ql5 m
 rcases qbp m with⟨h,e⟩|⟨h,e⟩|⟨h,e⟩
 ·have a1:(0:Int)≤qw (tI m)∧qw (tI m)≤qw (tI m):=by unfold qw;omega
  have a2:(0:Int)≤1∧1≤qw (tI m):=by unfold qw;omega
  have a3:q5W (tI m) 1 (qw (tI m))=tI (-m):=by
   unfold q5W qw
   rw[q9S h,qgC (m:=-m) (by omega),Int.natAbs_neg];simp
  simp only[STD,q2r,e,a1,a2,a3,and_self,show ¬((-1:Int)=0) by omega,show ¬((-1:Int)=1) by omega]
 ·simp only[STD,q2r,e]
  rw[h];rfl
 ·have a1:qw [45]+qw (tI m)≤140737488355328:=by unfold qw;simp;omega
  have a3:q6K [45] (tI m)=tI (-m):=by
   unfold q6K
   rw[q9S (m:=-m) (by omega),qgC (m:=m) (by omega),Int.natAbs_neg];rfl
  simp only[STD,q2r,e,a1,a3,show ¬((1:Int)=0) by omega]
theorem qAU{m n:Int}(hm:okL m)(hn:okL n)(hs:okL (m-n)):(kJ [.s (tI m),.s (tI n)]).run=some (0,[.s (tI (m-n)),.i 0]):=by
 rw[qre]
 have h:=qAu hm (qpv hn) (by rwa [←Int.sub_eq_add_neg])
 rw[←Int.sub_eq_add_neg] at h
 simp only[STD,qd0 hm hn,qtU hn,h]
theorem qAX{m n:Int}(hm:okL m)(hn:okL n)(hs:okL (m*n)):(ue [.s (tI m),.s (tI n)]).run=some (0,[.s (tI (m*n)),.i 0]):=by
 rw[qq9]
 have h:=qsb m n
 by_cases hc:(tI m).length≤9∧(tI n).length≤9
 ·rw[if_pos hc] at h
  have b1:=qeW hc.1
  have b2:=qeW hc.2
  have b3:=qAF (A:=999999999) (B:=999999999) (a:=m) (b:=n) (by omega) (by omega) (by omega) (by omega)
  have w:q0Q .i64 m n=m*n:=q8u (by omega)
  simp only[STD,qd0 hm hn,h,w,qtg (m*n) (by omega)]
 ·rw[if_neg hc] at h
  unfold okL at hm hn
  obtain⟨q1,l1,r1,w1,n1,v1,z1⟩:=qk7 m (by omega)
  obtain⟨q2,l2,r2,w2,n2,v2,z2⟩:=qk7 n (by omega)
  obtain⟨k,l,t1,t2,t3,t4⟩:=qyX w1 w2 (by omega) (decide (m<0)) (decide (n<0))
  have hv:sv (!(Go.Eng.beq (decide (m<0)) (decide (n<0)))) l=m*n:=by
   unfold sv
   rw[t4,v1,v2]
   have e:((m.natAbs:Int)*(n.natAbs:Int))=(((m*n).natAbs:Nat):Int):=by rw[Int.natAbs_mul];simp
   rw[e]
   unfold Go.Eng.beq
   rcases Int.lt_trichotomy m 0 with a|a|a
   ·rcases Int.lt_trichotomy n 0 with b|b|b
    ·have:=Int.mul_pos_of_neg_of_neg a b
     simp[a,b];omega
    ·subst b;simp
    ·have:=Int.mul_neg_of_neg_of_pos a b
     have b':¬n<0:=by omega
     simp[a,b'];omega
   ·subst a;simp
   ·have a':¬m<0:=by omega
    rcases Int.lt_trichotomy n 0 with b|b|b
    ·have:=Int.mul_neg_of_pos_of_neg a b
     simp[a',b];omega
    ·subst b;simp
    ·have:=Int.mul_pos a b
     have b':¬n<0:=by omega
     simp[a',b'];omega
  have hL:=qqs t2 t3 (!(Go.Eng.beq (decide (m<0)) (decide (n<0)))) (by rw[hv];exact hs)
  rw[hv] at hL
  simp only[STD,qd0 hm hn,h,r1,r2,t1,hL]
theorem qw1{n:Nat}{l:List Int}(h:WOK n l)(hn:nrm n l){k:Nat}(hl:mv l<pB k):n≤k:=by
 rcases Nat.lt_or_ge k n with h1|h1
 ·have:=h.lo hn (by omega)
  have:=qax (show k≤n-1 by omega)
  omega
 ·exact h1
theorem qxU{k n:Int}(h0:n≠0)(hm:okL (k*n))(hn:okL n):(vD [.s (tI (k*n)),.s (tI n)]).run=some (0,[.s (tI k),.s (tI 0),.i 0]):=by
 rw[qmp]
 have h:=qsb (k*n) n
 have hz:¬tI n=[48]:=by rw[q8v];exact h0
 by_cases hc:(tI (k*n)).length≤9∧(tI n).length≤9
 ·rw[if_pos hc] at h
  have b1:=qeW hc.1
  have b2:=qeW hc.2
  have hk:k.natAbs≤(k*n).natAbs:=by
   rw[Int.natAbs_mul]
   have:k.natAbs*1≤k.natAbs*n.natAbs:=Nat.mul_le_mul_left _ (by omega)
   omega
  have w1:q5s (k*n) n=0:=by unfold q5s;exact Int.mul_tmod_left k n
  have w2:yH .i64 (k*n) n=k:=by
   rw[Int.mul_comm];exact qeY h0 (by omega)
  simp only[STD,qd0 hm hn,zG,hz,h,h0,w1,w2,qeQ k (by omega),qeQ 0 (by omega)]
 ·rw[if_neg hc] at h
  have lm:=qnQ hm
  have ln:=qnQ hn
  obtain⟨q1,l1,r1,w1,n1,v1,z1⟩:=qk7 (k*n) (by unfold okL at hm;omega)
  obtain⟨q2,l2,r2,w2,n2,v2,z2⟩:=qk7 n (by unfold okL at hn;omega)
  have hq2:q2≤114:=qw1 w2 n2 (by omega)
  have hq0:q2≠0:=fun h=>by rw[qhW w2 n2] at h;omega
  obtain⟨nq,lq,nr,lr,d1,d2,d3,d4,d5,d6,d7⟩:=qdF w1 w2 n2 hq0 (by omega) (decide (k*n<0)) (decide (n<0))
  have e1:((k*n).natAbs:Int)=(k.natAbs:Int)*(n.natAbs:Int):=by rw[Int.natAbs_mul];simp
  rw[v1,v2,e1] at d6
  rw[v2] at d7
  have b4:=d4.bd.1
  have hr0:mv lr=0∧mv lq=k.natAbs:=by
   have hn0:(0:Int)<(n.natAbs:Int):=by omega
   have e2:((k.natAbs:Int)-mv lq)*(n.natAbs:Int)=mv lr:=by rw[Int.sub_mul];omega
   rcases Int.lt_trichotomy ((k.natAbs:Int)-mv lq) 0 with a|a|a
   ·have:=Int.mul_neg_of_neg_of_pos a hn0;omega
   ·rw[a,Int.zero_mul] at e2;omega
   ·have:=Int.mul_le_mul_of_nonneg_right (show 1≤(k.natAbs:Int)-mv lq by omega) (show 0≤(n.natAbs:Int) by omega)
    omega
  have hnr:nr=0:=by rw[qhW d4 d5];exact hr0.1
  have hv:sv (!(Go.Eng.beq (decide (k*n<0)) (decide (n<0)))) lq=k:=by
   unfold sv
   rw[hr0.2]
   unfold Go.Eng.beq
   rcases Int.lt_trichotomy k 0 with a|a|a
   ·rcases Int.lt_trichotomy n 0 with b|b|b
    ·have:=Int.mul_pos_of_neg_of_neg a b
     have c:¬k*n<0:=by omega
     simp[b,c];omega
    ·exact absurd b h0
    ·have c:=Int.mul_neg_of_neg_of_pos a b
     have b':¬n<0:=by omega
     simp[b',c];omega
   ·subst a;simp
   ·rcases Int.lt_trichotomy n 0 with b|b|b
    ·have c:=Int.mul_neg_of_pos_of_neg a b
     simp[b,c];omega
    ·exact absurd b h0
    ·have:=Int.mul_pos a b
     have c:¬k*n<0:=by omega
     have b':¬n<0:=by omega
     simp[b',c];omega
  have hT:=qsV d2 d3 (!(Go.Eng.beq (decide (k*n<0)) (decide (n<0))))
  rw[hv] at hT
  have hT2:=qsV d4 d5 (decide (k*n<0))
  have hv0:sv (decide (k*n<0)) lr=0:=by unfold sv;rw[hr0.1];split<;>rfl
  rw[hv0] at hT2
  have hnr':¬(0:Int)<(nr:Int):=by omega
  simp only[STD,qd0 hm hn,zG,hz,h,r1,r2,d1,hnr',hT,hT2]
theorem qyg{m n:Int}(h:m.natAbs≤n.natAbs)(hn:okL n):okL m:=Nat.le_trans (ko h) hn
theorem qAM{k n:Int}(h0:n≠0)(hm:okL (k*n))(hn:okL n):(kt [.s (tI (k*n)),.s (tI n)]).run=some (0,[.s (tI k),.i 0]):=by
 rw[qra]
 have hk:okL k:=qyg (by
  rw[Int.natAbs_mul]
  have:k.natAbs*1≤k.natAbs*n.natAbs:=Nat.mul_le_mul_left _ (by omega)
  omega) hm
 simp only[STD,qxU h0 hm hn,qhZ hk]
theorem qwk(a b:Nat)(hb:b<9223372036854775808):(qf yM [.i (a:Int),.i (b:Int)]).run=some (0,[.i ((Nat.gcd a b:Nat):Int)]):=by
 obtain⟨j,qs,h1,rfl,rfl⟩:=jD (S:=yM) (fun k ps=>∃x y:Nat,ps=[.i (x:Int),.i (y:Int)]∧y=k∧Nat.gcd x y=Nat.gcd a b)
  (fun j qs=>j=0∧qs=[.i ((Nat.gcd a b:Nat):Int)]) (n:=b) hb (fun k ps hk ⟨x,y,hps,hy,hg⟩=>by
  subst hps
  rw[qmF]
  by_cases h0:y=0
  ·right
   refine⟨0,[.i (x:Int)],?_,rfl,?_⟩
   ·simp only[STD,h0];simp[]
   ·rw[←hg,h0,Nat.gcd_zero_right]
  ·left
   refine⟨x%y,[.i (y:Int),.i ((x%y:Nat):Int)],by rw[←hy];exact Nat.mod_lt _ (by omega),?_,y,x%y,rfl,rfl,?_⟩
   ·simp only[STD,show ¬((y:Int)=0) by omega,qkT]
   ·rw[←hg,Nat.gcd_comm y,←Nat.gcd_rec,Nat.gcd_comm]) (ps:=[.i (a:Int),.i (b:Int)]) ⟨a,b,rfl,rfl,rfl⟩
 exact h1
theorem qyu{n:Nat}{l:List Int}(h:WOK n l)(hn:n≤1):mv l=l.getD 0 0:=by
 have:=qa0 l 1 (by rw[h.len];omega)
 rw[j2 h.dig h.z hn,Int.mul_zero,Int.add_zero] at this
 have hl:=h.len
 obtain⟨x,t,rfl⟩:∃x t,l=x::t:=by
  cases l with
  | nil=>simp at hl
  | cons x t=>exact⟨x,t,rfl⟩
 rw[this];simp[mv]
theorem qzL{m n:Int}(hm:okL m)(hn:okL n):(jd [.s (tI m),.s (tI n)]).run=some (0,[.s (tN (Nat.gcd m.natAbs n.natAbs)),.i 0]):=by
 rw[qr5]
 have lm:=qnQ hm
 have ln:=qnQ hn
 obtain⟨q1,l1,r1,w1,n1,v1,_⟩:=qk7 m (by unfold okL at hm;omega)
 obtain⟨q2,l2,r2,w2,n2,v2,_⟩:=qk7 n (by unfold okL at hn;omega)
 have hm':(tN m.natAbs).length≤1024:=hm
 have hn':(tN n.natAbs).length≤1024:=hn
 obtain⟨j,qs,g1,g2⟩:=jD (S:=vL) (fun k ps=>∃(x y:Nat) (b1 b2:Bool) (nx ny:Nat) (lx ly:List Int),ps=[.b b1,.i (nx:Int),.r (rI lx),.b b2,.i (ny:Int),.r (rI ly)] ∧
   WOK nx lx∧nrm nx lx∧WOK ny ly∧nrm ny ly∧mv lx=x∧mv ly=y∧eM x y=k∧Nat.gcd x y=Nat.gcd m.natAbs n.natAbs∧(x:Int)<pB 114∧(y:Int)<pB 114)
  (fun j qs=>(j=0∧∃(b:Bool) (n':Nat) (l:List Int),qs=[.b b,.i (n':Int),.r (rI l)]∧WOK n' l∧nrm n' l∧mv l=((Nat.gcd m.natAbs n.natAbs:Nat):Int))∨(j=1∧qs=[.s (tN (Nat.gcd m.natAbs n.natAbs)),.i 0])) (n:=eM m.natAbs n.natAbs) (qte (by omega) (by omega))
  (fun k ps hk ⟨x,y,b1,b2,nx,ny,lx,ly,hps,hw,hnw,hw2,hn2,hx,hy,he,hg,lx1,ly1⟩=>by
  subst hps
  rw[qnz]
  have hxl:=hw.len
  have hyl:=hw2.len
  by_cases h0:ny=0
  ·right
   have hy0:mv ly=0:=by rw[←qhW hw2 hn2];exact h0
   have hy0':y=0:=by omega
   refine⟨0,[.b b1,.i (nx:Int),.r (rI lx)],?_,.inl ⟨rfl,b1,nx,lx,rfl,hw,hnw,?_⟩⟩
   ·simp only[STD,h0,show ¬(0:Int)<((0:Nat):Int) by omega]
   ·rw[hx,←hg,hy0',Nat.gcd_zero_right]
  ·have a0:(0:Int)<(ny:Int):=by omega
   have hy0:y≠0:=fun h=>h0 (by rw[qhW hw2 hn2];omega)
   by_cases hc:nx≤1∧ny≤1
   ·right
    have e1:=qyu hw hc.1
    have e2:=qyu hw2 hc.2
    have d1:cI (rI lx) 0 0=(x:Int):=by rw[show (0:Int)=((0:Nat):Int) from rfl,q4n,←e1,hx]
    have d2:cI (rI ly) 0 0=(y:Int):=by rw[show (0:Int)=((0:Nat):Int) from rfl,q4n,←e2,hy]
    have hy9:=hw2.get 0
    rw[←e2,hy] at hy9
    have hE:=qwk x y (by omega)
    have hgl:Nat.gcd x y≤y:=Nat.gcd_le_right _ (by omega)
    have hO:=qeQ ((Nat.gcd x y:Nat):Int) (by omega)
    rw[q0w] at hO
    have c1:(nx:Int)≤1:=by omega
    have c2:(ny:Int)≤1:=by omega
    refine⟨1,[.s (tN (Nat.gcd x y)),.i 0],?_,.inr ⟨rfl,by rw[hg]⟩⟩
    simp only[STD,a0,c1,c2,d1,d2,hE,hO]
   ·left
    have hny:ny≤114:=qw1 hw2 hn2 (by omega)
    obtain⟨nq,lq,nr,lr,d1,d2,d3,d4,d5,d6,d7⟩:=qdF hw hw2 hn2 h0 (by omega) b1 b2
    have hr:mv lr=((x%y:Nat):Int):=by
     have b4:=d4.bd.1
     rw[hx,hy] at d6
     rw[hy] at d7
     have hy1:(0:Int)<(y:Int):=by omega
     have:=(Int.ediv_emod_unique hy1 (a:=(x:Int)) (r:=mv lr) (q:=mv lq)).2 ⟨by rw[Int.mul_comm];omega,b4,d7⟩
     rw[←this.2];simp
    refine⟨eM y (x%y),[.b b2,.i (ny:Int),.r (rI ly),.b false,.i (nr:Int),.r (rI lr)],by rw[←he];exact qvg hy0,?_,y,x%y,b2,false,ny,nr,ly,lr,rfl,hw2,hn2,d4,d5,hy,hr,rfl,?_,ly1,?_⟩
    ·by_cases c1:nx≤1
     ·have c2:¬(ny:Int)≤1:=by omega
      have c1':(nx:Int)≤1:=by omega
      simp only[STD,a0,c1',c2,d1]
     ·have c1':¬(nx:Int)≤1:=by omega
      simp only[STD,a0,c1',d1]
    ·rw[←hg,Nat.gcd_comm y,←Nat.gcd_rec,Nat.gcd_comm]
    ·have:=Nat.mod_lt x (show 0<y by omega)
     omega) (ps:=[.b (decide (m<0)),.i (q1:Int),.r (rI l1),.b (decide (n<0)),.i (q2:Int),.r (rI l2)])
  ⟨m.natAbs,n.natAbs,_,_,q1,q2,l1,l2,rfl,w1,n1,w2,n2,v1,v2,rfl,rfl,lm,ln⟩
 rcases g2 with⟨rfl,b,n',l,rfl,a1,a2,a3⟩|⟨rfl,rfl⟩
 ·have hT:=qsV a1 a2 false
  have hv:sv false l=((Nat.gcd m.natAbs n.natAbs:Nat):Int):=by unfold sv;rw[a3];rfl
  rw[hv,q0w] at hT
  simp only[STD,qd0 hm hn,r1,r2,g1,zn g1,hT]
 ·simp only[STD,qd0 hm hn,r1,r2,g1,zn g1,show ¬(1=0) by omega]
end Go.Eng

namespace Go.Eng
theorem q8J:okL 1:=by show nl 1≤1024;decide
theorem q7B:okL 0:=by show nl 0≤1024;decide
theorem qAq(s:List UInt8)(hl:s.length≤1000000000):(jf [.s s,.s [47]]).run=some (0,if sP s<s.length then [.s (s.take (sP s)),.s (s.drop (sP s+1)),.b true] else [.s s,.s [],.b false]):=by
 rw[qna]
 have h:(zv [.s s,.s [47]]).run=some (0,if sP s<s.length then [.s (s.take (sP s)),.s (s.drop (sP s+1)),.b true] else [.s s,.s [],.b false]):=by
  rw[q9B]
  have hI:=qzq s
  by_cases hc:sP s<s.length
  ·rw[if_pos hc] at hI ⊢
   have w:qt .i64 (sP s:Int) (qw [47])=((sP s+1:Nat):Int):=by
    show qt .i64 (sP s:Int) 1=_
    rw[wi (by omega)];omega
   have a1:(0:Int)≤(sP s:Int)∧(sP s:Int)≤qw s:=by unfold qw;omega
   have a2:(0:Int)≤0∧(0:Int)≤(sP s:Int):=by omega
   have a3:(0:Int)≤qw s∧qw s≤qw s:=by unfold qw;omega
   have a4:(0:Int)≤((sP s+1:Nat):Int)∧((sP s+1:Nat):Int)≤qw s:=by unfold qw;omega
   have e1:q5W s 0 (sP s:Int)=s.take (sP s):=by unfold q5W;simp
   have e2:q5W s ((sP s+1:Nat):Int) (qw s)=s.drop (sP s+1):=by unfold q5W qw;simp only[Int.toNat_natCast];rw[List.take_length]
   simp only[STD,hI,a1.1,a1.2,a2,a3,a4,and_self,w,e1,e2]
  ·rw[if_neg hc] at hI ⊢
   have a:¬(0:Int)≤-1:=by omega
   simp only[STD,hI,a]
 by_cases hc:sP s<s.length
 ·rw[if_pos hc] at h ⊢
  simp only[STD,h]
 ·rw[if_neg hc] at h ⊢
  simp only[STD,h]
theorem qzS(s:List UInt8)(hl:s.length≤1000000000):(q8 [.s s]).run=some (0,[.s (spn s),.s (spd s),.b (decide (sP s<s.length))]):=by
 rw[qri]
 have h:=qAq s hl
 unfold spn spd
 by_cases hc:sP s<s.length
 ·rw[if_pos hc] at h ⊢
  rw[decide_eq_true hc]
  simp only[STD,h]
 ·rw[if_neg hc] at h ⊢
  have:sP s=s.length:=by have:=qy9 s;omega
  rw[decide_eq_false hc,this,List.take_length]
  simp only[STD,h]
theorem qAz(q:Rat):(sP (tQ q)<(tQ q).length)=(q.den≠1):=by
 by_cases h:q.den=1
 ·rw[q93 h,qoN (qnK _)];simp[h]
 ·rw[q4Q h,qvi (qnK _)];simp[h]
def okQ(q:Rat):Prop:=qn q≤1024∧qd q≤1024
theorem q45{q:Rat}(h:okQ q):okL q.num:=h.1
theorem q0t{q:Rat}(h:okQ q):okL (q.den:Int):=h.2
theorem q51{q:Rat}(h:okQ q):(tQ q).length≤3000:=by have:=qyk q;have:=h.1;have:=h.2;omega
theorem q9j{q:Rat}(h:okQ q):(q8 [.s (tQ q)]).run=some (0,[.s (tI q.num),.s (tI (q.den:Int)),.b (decide (q.den≠1))]):=by
 have:=q51 h
 rw[qzS _ (by omega),qwE,qva,q0w]
 simp only[qAz]
open Classical in
noncomputable def vI(s:List UInt8):Int:=if h:∃m:Int,s=tI m then h.choose else 0
theorem qsM(m:Int):vI (tI m)=m:=by
 unfold vI
 have h:∃k:Int,tI m=tI k:=⟨m,rfl⟩
 rw[dif_pos h]
 exact(qq3 h.choose_spec).symm
theorem qjE{s:List UInt8}(h:qro s=0):∃m:Int,s=tI m∧okL m:=by
 unfold qro at h
 split at h
 ·rename_i hm
  obtain⟨m,rfl⟩:=hm
  rw[qqf] at h
  split at h
  ·rename_i hl;exact⟨m,rfl,hl⟩
  ·omega
 ·omega
theorem qhn(s:List UInt8):qro s=0∨qro s=3∨qro s=11:=by
 unfold qro
 split
 ·split<;>simp
 ·simp
noncomputable def qdI(s:List UInt8):Int:=
 if qro (spn s)=3 then 3 else if qro (spd s)=3 then 3 else if qro (spn s)≠0 then 11 else if qro (spd s)≠0 then 11
 else if sP s<s.length then (if sgn (vI (spd s)-1)≤0 then 3 else if Nat.gcd (vI (spn s)).natAbs (vI (spd s)).natAbs=1 then 0 else 3) else 0
theorem qyz(s:List UInt8):(spn s).length≤s.length:=by unfold spn;rw[List.length_take];omega
theorem qyv(s:List UInt8):(spd s).length≤s.length+1:=by unfold spd;split<;>simp<;>omega
theorem q7S(s:List UInt8)(hl:s.length≤100000000):(zj [.s s]).run=some (0,[.i (qdI s)]):=by
 rw[qn6]
 have hn:=qyz s
 have hd:=qyv s
 have h1:=qbX (spn s) (by omega)
 have h2:=qbX (spd s) (by omega)
 have hc:=qzS s (by omega)
 have mx:q8m 11 0=11∧q8m 11 11=11∧q8m 0 11=11:=by decide
 unfold qdI
 rcases qhn (spn s) with a|a|a<;>rcases qhn (spd s) with b|b|b<;>rw[a] at h1 ⊢<;>rw[b] at h2 ⊢
 ·obtain⟨m,em,om⟩:=qjE a
  obtain⟨n,en,on⟩:=qjE b
  rw[em] at h1 hc ⊢
  rw[en] at h2 hc ⊢
  have hC:=qmP on (n:=1) q8J
  rw[qwI] at hC
  have hG:=qzL om on
  rw[qsM,qsM]
  by_cases hs:sP s<s.length
  ·by_cases ho:sgn (n-1)≤0
   ·simp only[STD,hc,h1,h2,hs,hC,hG,ho,show ¬((0:Int)=3) by omega,show ¬((0:Int)≠0) by omega]
   ·by_cases hg:Nat.gcd m.natAbs n.natAbs=1
    ·simp only[STD,hc,h1,h2,hs,hC,hG,ho,hg,zG,q4c,show ¬((0:Int)=3) by omega,show ¬((0:Int)≠0) by omega]
    ·simp only[STD,hc,h1,h2,hs,hC,hG,ho,hg,zG,q4c,show ¬((0:Int)=3) by omega,show ¬((0:Int)≠0) by omega]
  ·simp only[STD,hc,h1,h2,hs,show ¬((0:Int)=3) by omega,show ¬((0:Int)≠0) by omega]
 all_goals simp only[STD,hc,h1,h2,mx,show ¬((0:Int)=3) by omega,show ¬((11:Int)=3) by omega,show ¬((11:Int)=0) by omega,show ¬((3:Int)=0) by omega]
theorem qcF(s:List UInt8)(hl:s.length≤100000000):(ka [.s s]).run=some (0,[.i (qdI s)]):=by
 rw[qn4]
 have hn:=qyz s
 have hd:=qyv s
 have h1:=qhI (spn s) (by omega)
 have h2:=qhI (spd s) (by omega)
 have hc:=qv4 s (by omega)
 have hsl:=qw9 s (by omega)
 unfold qdI
 rcases qhn (spn s) with a|a|a<;>rcases qhn (spd s) with b|b|b<;>rw[a] at h1 ⊢<;>rw[b] at h2 ⊢
 ·obtain⟨m,em,om⟩:=qjE a
  obtain⟨n,en,on⟩:=qjE b
  rw[em] at h1 hc ⊢
  rw[en] at h2 hc ⊢
  unfold okL at om on
  have hC:=qiX n 1 (by omega) (by decide)
  rw[qwI] at hC
  have hG:=qfW m n (by omega) (by omega)
  rw[qsM,qsM]
  by_cases hs:sP s<s.length
  ·rw[if_pos hs] at hsl
   have a0:(0:Int)≤(sP s:Int):=by omega
   by_cases ho:sgn (n-1)≤0
   ·simp only[STD,hc,h1,h2,hsl,hs,a0,hC,hG,ho,show ¬((0:Int)=3) by omega]
   ·by_cases hg:Nat.gcd m.natAbs n.natAbs=1
    ·simp only[STD,hc,h1,h2,hsl,hs,a0,hC,hG,ho,hg,zG,q4c,show ¬((0:Int)=3) by omega]
    ·simp only[STD,hc,h1,h2,hsl,hs,a0,hC,hG,ho,hg,zG,q4c,show ¬((0:Int)=3) by omega]
  ·rw[if_neg hs] at hsl
   simp only[STD,hc,h1,h2,hsl,hs,show ¬((0:Int)=3) by omega,show ¬((0:Int)≤-1) by omega]
 all_goals simp only[STD,hc,h1,h2,show ¬((0:Int)=3) by omega,show ¬((11:Int)=3) by omega,show ¬((11:Int)=0) by omega,show ¬((3:Int)=0) by omega]
theorem qoA{q:Rat}(h:okQ q):qdI (tQ q)=0:=by
 unfold qdI
 have e1:spd (tQ q)=tI (q.den:Int):=by rw[qva,q0w]
 rw[qwE,e1,qrt (q45 h),qrt (q0t h)]
 simp only[qsM,qAz]
 by_cases hd:q.den=1
 ·simp[hd]
 ·have:=q.den_nz
  have hs:¬sgn ((q.den:Int)-1)≤0:=by
   unfold sgn;rw[if_neg (by omega),if_neg (by omega)];omega
  have hr:Nat.gcd q.num.natAbs q.den=1:=q.reduced
  simp[hd,hs,hr]
theorem qkY{s:List UInt8}(h:qdI s=0):∃q:Rat,s=tQ q∧okQ q:=by
 unfold qdI at h
 split at h
 ·omega
 split at h
 ·omega
 split at h
 ·omega
 split at h
 ·omega
 rename_i h1 h2 h3 h4
 obtain⟨m,em,om⟩:=qjE (Decidable.byContradiction fun h=>h3 h)
 obtain⟨n,en,on⟩:=qjE (Decidable.byContradiction fun h=>h4 h)
 rw[em,en,qsM,qsM] at h
 split at h
 ·rename_i hs
  split at h
  ·omega
  rename_i hsg
  split at h
  ·rename_i hg
   have hn1:1<n:=by
    unfold sgn at hsg
    by_cases c1:n-1<0
    ·rw[if_pos c1] at hsg;omega
    ·rw[if_neg c1] at hsg
     by_cases c2:n-1=0
     ·rw[if_pos c2] at hsg;omega
     ·omega
   obtain⟨k,rfl⟩:∃k:Nat,n=(k:Int):=⟨n.toNat,by omega⟩
   refine⟨⟨m,k,by omega,hg⟩,?_,om,on⟩
   rw[q4Q (show k≠1 by omega)]
   have hslash:s=spn s++47::spd s:=by
    unfold spn spd
    rw[if_pos hs]
    have h47:s[sP s]=47:=by
     have:=List.findIdx_getElem (p:=(·==47)) (w:=hs)
     exact eq_of_beq this
    rw[←h47,List.getElem_cons_drop,List.take_append_drop]
   rw[hslash,em,en,q0w]
  ·omega
 ·rename_i hs
  have e:sP s=s.length:=by have:=qy9 s;omega
  have hsn:spn s=s:=by unfold spn;rw[e,List.take_length]
  refine⟨(m:Rat),?_,?_,?_⟩
  ·rw[qrG,←em,hsn]
  ·have:nl m≤1024:=om
   unfold qn;simpa using this
  ·unfold qd;simp;decide
theorem qAP(m:Int):nl m≤(tI m).length:=by unfold nl tI;split<;>simp
theorem qdN(q:Rat):qn q≤(tQ q).length∧(q.den=1∨qn q+1+qd q≤(tQ q).length):=by
 have h1:=qAP q.num
 by_cases h:q.den=1
 ·rw[q93 h];exact⟨h1,.inl h⟩
 ·rw[q4Q h]
  unfold qn qd dl
  simp
  omega
theorem qr9{l:List (List UInt8)}(hn:l.length<1000000)(h:∀s,s∈l→(zj [.s s]).run=some (0,[.i 0])):(qR [.r (rS l)]).run=some (0,[.i 0]):=by
 rw[qmE,qnT]
 have key:=q0s (S:=yu) (fun i=>[.r (rS l),.i (l.length:Int),.i (i:Int)]) (0,[]) l.length (by omega) (fun i hi=>by
  rw[qbF,qv6 hi]
  have a1:(i:Int)<(l.length:Int):=by omega
  have a2:(i:Int)<qL (rS l):=by rw[qnT];exact a1
  simp only[STD,a1,a2,yD,and_self,h _ (List.getElem_mem hi),q41 hi (show l.length<9223372036854775808 by omega)]) (by
  rw[qbF]
  have a1:¬(l.length:Int)<(l.length:Int):=by omega
  simp only[STD,a1])
 simp only[show (((0:Nat)):Int)=0 from rfl] at key
 simp only[STD,key,zn key]
theorem qa4{q:Rat}(h:okQ q):(zj [.s (tQ q)]).run=some (0,[.i 0]):=by
 have:=q51 h
 rw[q7S _ (by omega),qoA h]
theorem qdT{a b:Rat}(ha:okQ a)(hb:okQ b):(qR [.r [[.s (tQ a)],[.s (tQ b)]]]).run=some (0,[.i 0]):=by
 exact qr9 (l:=[tQ a,tQ b]) (by simp) (fun s hs=>by
  simp only[List.mem_cons,List.not_mem_nil,or_false] at hs
  rcases hs with rfl|rfl
  ·exact qa4 ha
  ·exact qa4 hb)
theorem qz4{m n:Int}(hm:okL m)(hn:okL n)(h:okL (m+n)):(wH [.s (tI m),.s (tI n),.i 0]).run=some (0,[.s (tI (m+n)),.i 0]):=by
 rw[qju]
 have:(zY [.s (tI m),.s (tI n),.i 0]).run=some (0,[.s (tI (m+n)),.i 0]):=by
  rw[q9K]
  simp only[STD,qAu hm hn h]
 simp only[STD,this]
theorem qrX{m n:Int}(hm:okL m)(hn:okL n)(h:okL (m-n)):(zm [.s (tI m),.s (tI n),.i 0]).run=some (0,[.s (tI (m-n)),.i 0]):=by
 rw[qjI]
 have:(zX [.s (tI m),.s (tI n),.i 0]).run=some (0,[.s (tI (m-n)),.i 0]):=by
  rw[q9M]
  simp only[STD,qAU hm hn h]
 simp only[STD,this]
theorem qyW{m n:Int}(hm:okL m)(hn:okL n)(h:okL (m*n)):(zw [.s (tI m),.s (tI n),.i 0]).run=some (0,[.s (tI (m*n)),.i 0]):=by
 rw[q9O]
 simp only[STD,qAX hm hn h]
theorem qzx{m n:Int}(hm:okL m)(hn:okL n):(vr [.s (tI m),.s (tI n),.i 0]).run=some (0,[.s (tN (Nat.gcd m.natAbs n.natAbs)),.i 0]):=by
 rw[q9J]
 simp only[STD,qzL hm hn]
theorem qoP{k n:Int}(h0:n≠0)(hm:okL (k*n))(hn:okL n):(zy [.s (tI (k*n)),.s (tI n),.i 0]).run=some (0,[.s (tI k),.i 0]):=by
 rw[q9G]
 simp only[STD,qAM h0 hm hn]
def prd:Int→List Int→Int
 | a,[]=>a
 | a,m::l=>prd (a*m) l
def qzd:Int→List Int→Prop
 | a,[]=>okL a
 | a,m::l=>okL a∧okL m∧qzd (a*m) l
theorem qwb:∀(l:List Int) (pre:List Int) (a:Int),qzd a l→pre.length+l.length<1000→∀f,l.length<f →
  (qhl vd f [.s (tI a),.r (rS ((pre++l).map tI)),.i ((pre++l).length:Int),.i (pre.length:Int),.i 0]).run=some (0,[.s (tI (prd a l)),.i 0])
 | [],pre,a,h,hl,f,hf=>by
  obtain⟨f,rfl⟩:∃g,f=g+1:=⟨f-1,by simp at hf;omega⟩
  refine q6v ?_
  rw[q9d,List.append_nil]
  have a1:¬(pre.length:Int)<(pre.length:Int):=by omega
  simp only[STD,a1];rfl
 | m::l,pre,a,h,hl,f,hf=>by
  obtain⟨f,rfl⟩:∃g,f=g+1:=⟨f-1,by simp at hf;omega⟩
  obtain⟨h1,h2,h3⟩:=h
  have hlt:pre.length<(pre++m::l).length:=by simp
  have ih:=qwb l (pre++[m]) (a*m) h3 (by simp at hl ⊢;omega) f (by simp at hf;omega)
  rw[List.append_assoc,List.singleton_append] at ih
  have hok:okL (a*m):=by
   cases l with
   | nil=>exact h3
   | cons x l=>exact h3.1
  rw[qeT (qs:=[.s (tI (a*m)),.r (rS ((pre++m::l).map tI)),.i ((pre++m::l).length:Int),.i ((pre++[m]).length:Int),.i 0])]
  ·exact ih
  ·rw[q9d]
   have hlt2:pre.length<((pre++m::l).map tI).length:=by simp
   rw[qv6 hlt2]
   have e:((pre++m::l).map tI)[pre.length]=tI m:=by simp
   rw[e]
   have a1:(pre.length:Int)<((pre++m::l).length:Int):=by omega
   have a2:(pre.length:Int)<qL (rS ((pre++m::l).map tI)):=by rw[qnT];omega
   have w:qt .i64 (pre.length:Int) 1=((pre++[m]).length:Int):=by
    rw[wi (by omega)];simp
   simp only[STD,a1,a2,yD,and_self,qyW h1 h2 hok,w]
theorem qqk(l:List Int)(h:qzd 1 l)(hl:l.length<1000):(q9 [.r (rS (l.map tI)),.i 0]).run=some (0,[.s (tI (prd 1 l)),.i 0]):=by
 rw[qjp,qnT]
 have h1:=qwb l [] 1 h (by simp;omega) qeI (by unfold qeI;omega)
 simp only[List.nil_append,List.length_nil] at h1
 have e:(qf vd [.s [49],.r (rS (l.map tI)),.i ((l.map tI).length:Int),.i 0,.i 0]).run=some (0,[.s (tI (prd 1 l)),.i 0]):=by
  rw[List.length_map]
  exact h1
 simp only[STD,e]
theorem qbI{m n:Int}(hm:okL m)(hn:okL n)(h:okL (m*n)):(q9 [.r [[.s (tI m)],[.s (tI n)]],.i 0]).run=some (0,[.s (tI (m*n)),.i 0]):=by
 have:=qqk [m,n] ⟨q8J,hm,by rw[Int.one_mul];exact hm,hn,by rw[Int.one_mul];exact h⟩ (by simp)
 simp only[prd,Int.one_mul] at this
 exact this
theorem qq5{q:Rat}(h:okQ q):(q1C [.s (tI q.num),.s (tI (q.den:Int))]).run=some (0,[.s (tQ q)]):=by
 rw[qmy,q0w]
 have l1:=qrP (q45 h)
 have l2:(tN q.den).length≤1024:=h.2
 have a1:qw (tI q.num)+qw [47]≤140737488355328:=by unfold qw;simp;omega
 have a2:qw (q6K (tI q.num) [47])+qw (tN q.den)≤140737488355328:=by unfold qw q6K;simp;omega
 by_cases h1:q.den=1
 ·simp only[STD,zG,q4c,h1,q93 h1]
 ·simp only[STD,zG,q4c,h1,q4Q h1,a1,a2]
  simp[q6K]
theorem qxb(s:List UInt8):(uc [.s s,.s [45]]).run=some (0,[.b (decide (s.getD 0 0=45))]):=by
 rw[qfk]
 simp only[STD,qwR]
theorem qvu(n:Int):((tI n).getD 0 0=45)=(n<0):=by
 by_cases h:n<0
 ·rw[q9S h];simp[h]
 ·rw[qgC h]
  obtain⟨c,t,e,h1,h2⟩:=qf7 (wX n.natAbs) (qlG _)
  rw[e]
  simp only[List.getD_cons_zero,h,eq_iff_iff,iff_false]
  intro hc;subst hc;revert h1;decide
theorem qkU{m n:Int}(hn0:n≠0)(hm:okL m)(hn:okL n):(qM [.s (tI m),.s (tI n),.i 0]).run=some (0,[.s (tQ (Rat.divInt m n)),.i 0])∧okQ (Rat.divInt m n):=by
 have hG:=qzx hm hn
 have hg0:0<Nat.gcd m.natAbs n.natAbs:=Nat.gcd_pos_of_pos_right _ (by omega)
 have hgn:Nat.gcd m.natAbs n.natAbs≤n.natAbs:=Nat.gcd_le_right _ (by omega)
 have hnum:=Rat.num_divInt m n
 have hden:=Rat.den_divInt m n
 rw[if_neg hn0] at hden
 have hgc:Int.gcd n m=Nat.gcd m.natAbs n.natAbs:=by unfold Int.gcd;exact Nat.gcd_comm _ _
 rw[hgc] at hnum hden
 obtain⟨k,hk⟩:((Nat.gcd m.natAbs n.natAbs:Nat):Int) ∣ m:=Int.ofNat_dvd_left.2 (Nat.gcd_dvd_left _ _)
 obtain⟨l,hl⟩:((Nat.gcd m.natAbs n.natAbs:Nat):Int) ∣ n:=Int.ofNat_dvd_left.2 (Nat.gcd_dvd_right _ _)
 generalize Nat.gcd m.natAbs n.natAbs=g at *
 generalize Rat.divInt m n=q at *
 have hgok:okL (g:Int):=qyg (by simpa using hgn) hn
 have hm2:k*(g:Int)=m:=by rw[Int.mul_comm];exact hk.symm
 have hn2:l*(g:Int)=n:=by rw[Int.mul_comm];exact hl.symm
 have hgz:(g:Int)≠0:=by omega
 have hok:okQ q:=by
  constructor
  ·refine Nat.le_trans (qdV ?_) hm
   rw[hnum]
   refine Nat.le_trans (Int.natAbs_ediv_le_natAbs _ _) ?_
   rw[Int.natAbs_mul,Int.natAbs_sign_of_ne_zero hn0];omega
  ·refine Nat.le_trans (ko ?_) hn
   rw[hden];exact Nat.div_le_self _ _
 refine⟨?_,hok⟩
 rw[qfc]
 have hP:=qxb (tI n)
 simp only[qvu] at hP
 by_cases hneg:n<0
 ·have e1:-k=q.num:=by
   rw[hnum,Int.sign_eq_neg_one_of_neg hneg,←hm2]
   rw[show (-1:Int)*(k*(g:Int))=(-k)*(g:Int) by rw[Int.neg_mul,Int.one_mul,Int.neg_mul]]
   exact(Int.mul_ediv_cancel _ hgz).symm
  have e2:-l=(q.den:Int):=by
   rw[hden]
   have h3:(n.natAbs:Int)=(-l)*(g:Int):=by rw[Int.neg_mul];omega
   rw[Int.natCast_ediv,h3,Int.mul_ediv_cancel _ hgz]
  have hS:=qrX (m:=0) (n:=(g:Int)) q7B hgok (by rw[Int.zero_sub];exact qpv hgok)
  rw[Int.zero_sub,q0w] at hS
  have Q1:=qoP (k:=-k) (n:=-(g:Int)) (by omega) (by rw[Int.neg_mul_neg,hm2];exact hm) (qpv hgok)
  have Q2:=qoP (k:=-l) (n:=-(g:Int)) (by omega) (by rw[Int.neg_mul_neg,hn2];exact hn) (qpv hgok)
  rw[Int.neg_mul_neg,hm2,e1] at Q1
  rw[Int.neg_mul_neg,hn2,e2] at Q2
  have hS':(zm [.s [48],.s (tN g),.i 0]).run=some (0,[.s (tI (-(g:Int))),.i 0]):=hS
  simp only[STD,hG,hP,hneg,hS',Q1,Q2,qq5 hok]
 ·have e1:k=q.num:=by
   rw[hnum,Int.sign_eq_one_of_pos (by omega),Int.one_mul,←hm2]
   exact(Int.mul_ediv_cancel _ hgz).symm
  have e2:l=(q.den:Int):=by
   rw[hden]
   have h3:(n.natAbs:Int)=l*(g:Int):=by omega
   rw[Int.natCast_ediv,h3,Int.mul_ediv_cancel _ hgz]
  have Q1:=qoP (k:=k) (n:=(g:Int)) hgz (by rw[hm2];exact hm) hgok
  have Q2:=qoP (k:=l) (n:=(g:Int)) hgz (by rw[hn2];exact hn) hgok
  rw[hm2,e1,q0w] at Q1
  rw[hn2,e2,q0w] at Q2
  simp only[STD,hG,hP,hneg,Q1,Q2,qq5 hok]
end Go.Eng

namespace Go.Eng
theorem qua(a b:Rat):Rat.divInt (a.num*b.den+b.num*a.den) ((a.den:Int)*(b.den:Int))=a+b:=by
 rw[Rat.add_def',←Rat.divInt_ofNat];simp
theorem quQ(a b:Rat):Rat.divInt (a.num*b.den-b.num*a.den) ((a.den:Int)*(b.den:Int))=a-b:=by
 rw[Rat.sub_def',←Rat.divInt_ofNat];simp
theorem quq(a b:Rat):Rat.divInt (a.num*b.num) ((a.den:Int)*(b.den:Int))=a*b:=by
 rw[Rat.mul_def',←Rat.divInt_ofNat];simp
theorem qup(a b:Rat):Rat.divInt (a.num*b.den) ((a.den:Int)*b.num)=a/b:=by
 rw[Rat.div_def,Rat.inv_def,←Rat.divInt_mul_divInt,Rat.num_divInt_den]
theorem qjg(a b:Rat):(a.den:Int)*(b.den:Int)≠0:=by have:=Int.mul_pos (qsD a) (qsD b);omega
theorem qAE{m:Int}(h:m≠0):¬tI m=[48]:=by rw[q8v];exact h
def bnd(N D:Nat)(q:Rat):Prop:=qn q≤N∧qd q≤D
theorem bnd.ok{N D:Nat}{q:Rat}(h:bnd N D q)(hN:N≤1024)(hD:D≤1024):okQ q:=⟨Nat.le_trans h.1 hN,Nat.le_trans h.2 hD⟩
theorem bnd.sm{N D K:Nat}{q:Rat}(h:bnd N D q)(hN:N≤K)(hD:D≤K):sm K q:=⟨Nat.le_trans h.1 hN,Nat.le_trans h.2 hD⟩
theorem bnd.mono{N D N' D':Nat}{q:Rat}(h:bnd N D q)(hN:N≤N')(hD:D≤D'):bnd N' D' q:=⟨Nat.le_trans h.1 hN,Nat.le_trans h.2 hD⟩
theorem bnd.mul{N D N' D':Nat}{a b:Rat}(ha:bnd N D a)(hb:bnd N' D' b):bnd (N+N') (D+D') (a*b):=
 ⟨Nat.le_trans (qyc a b) (Nat.add_le_add ha.1 hb.1),Nat.le_trans (qyl a b) (Nat.add_le_add ha.2 hb.2)⟩
theorem bnd.add{N D N' D' K:Nat}{a b:Rat}(ha:bnd N D a)(hb:bnd N' D' b)(h1:N+D'+1≤K)(h2:N'+D+1≤K):bnd K (D+D') (a+b):=
 ⟨by have:=qAc a b;have:=ha.1;have:=ha.2;have:=hb.1;have:=hb.2;omega,by have:=qAx a b;have:=ha.2;have:=hb.2;omega⟩
theorem bnd.sub{N D N' D' K:Nat}{a b:Rat}(ha:bnd N D a)(hb:bnd N' D' b)(h1:N+D'+1≤K)(h2:N'+D+1≤K):bnd K (D+D') (a-b):=
 ⟨by have:=qzK a b;have:=ha.1;have:=ha.2;have:=hb.1;have:=hb.2;omega,by have:=qAh a b;have:=ha.2;have:=hb.2;omega⟩
theorem bnd.div{N D N' D':Nat}{a b:Rat}(h0:b≠0)(ha:bnd N D a)(hb:bnd N' D' b):bnd (N+D') (D+N') (a/b):=
 ⟨by have:=qAB a h0;have:=ha.1;have:=hb.2;omega,by have:=qzQ a h0;have:=ha.2;have:=hb.1;omega⟩
theorem bnd.neg{N D:Nat}{a:Rat}(h:bnd N D a):bnd N D (-a):=⟨by rw[qAd];exact h.1,h.2⟩
theorem q66:bnd 1 1 0:=⟨by decide,by decide⟩
theorem qlf:bnd 1 1 2:=⟨by decide,by decide⟩
theorem qxd:bnd 1 1 (-2):=⟨by decide,by decide⟩
theorem qaY{m n:Int}{N M:Nat}(hm:nl m≤N)(hn:nl n≤M)(h:N+M≤1024):okL (m*n):=by
 have:=q1V m n
 unfold okL;omega
theorem qsP{N D N' D':Nat}{a b:Rat}(ha:bnd N D a)(hb:bnd N' D' b)(h1:N+N'≤1024)(h2:D+D'≤1024):(kZ [.s (tQ a),.s (tQ b)]).run=some (0,[.s (tQ (a*b)),.i 0]):=by
 have oa:=ha.ok (by omega) (by omega)
 have ob:=hb.ok (by omega) (by omega)
 have k1:okL (a.num*b.num):=qaY ha.1 hb.1 h1
 have k2:okL ((a.den:Int)*(b.den:Int)):=qaY ha.2 hb.2 h2
 have m1:=qbI (q45 oa) (q45 ob) k1
 have m2:=qbI (q0t oa) (q0t ob) k2
 have hL:=(qkU (qjg a b) k1 k2).1
 rw[quq] at hL
 rw[qqz]
 have key:(wx [.s (tQ a),.s (tQ b)]).run=some (0,[.s (tQ (a*b)),.i 0]):=by
  rw[qb3]
  have h1:(zC [.s (tI a.num),.s (tI (a.den:Int)),.s (tI b.num),.s (tI (b.den:Int)),.i 0]).run=some (0,[.s (tI (a.num*b.num)),.s (tI ((a.den:Int)*(b.den:Int))),.i 0]):=by
   rw[qnc]
   simp only[STD,m1,m2]
  simp only[STD,qdT oa ob,q9j oa,q9j ob,h1,zG,qAE (qjg a b),hL]
 simp only[STD,key]
theorem qst{N D N' D':Nat}{a b:Rat}(ha:bnd N D a)(hb:bnd N' D' b)(h1:N+D'≤1023)(h2:N'+D≤1023)(h3:D+D'≤1024):(ky [.s (tQ a),.s (tQ b)]).run=some (0,[.s (tQ (a+b)),.i 0]):=by
 have p1:=qhD a
 have p2:=qhD b
 have p3:=qor a
 have p4:=qor b
 have oa:okQ a:=⟨by have:=ha.1;have:=hb.2;omega,by have:=ha.2;have:=hb.2;omega⟩
 have ob:okQ b:=⟨by have:=hb.1;have:=ha.2;omega,by have:=ha.2;have:=hb.2;omega⟩
 have k1:okL (a.num*(b.den:Int)):=qaY ha.1 hb.2 (by omega)
 have k2:okL (b.num*(a.den:Int)):=qaY hb.1 ha.2 (by omega)
 have k3:okL ((a.den:Int)*(b.den:Int)):=qaY ha.2 hb.2 h3
 have k4:okL (a.num*(b.den:Int)+b.num*(a.den:Int)):=by
  have q1:=qnR (a.num*(b.den:Int)) (b.num*(a.den:Int))
  have q2:=q1V a.num (b.den:Int)
  have q3:=q1V b.num (a.den:Int)
  have q4:nl a.num≤N:=ha.1
  have q5:nl (b.den:Int)≤D':=hb.2
  have q6:nl b.num≤N':=hb.1
  have q7:nl (a.den:Int)≤D:=ha.2
  unfold okL;omega
 have m1:=qbI (q45 oa) (q0t ob) k1
 have m2:=qbI (q45 ob) (q0t oa) k2
 have m3:=qbI (q0t oa) (q0t ob) k3
 have hL:=(qkU (qjg a b) k4 k3).1
 rw[qua] at hL
 rw[qqE]
 have key:(ww [.s (tQ a),.s (tQ b)]).run=some (0,[.s (tQ (a+b)),.i 0]):=by
  rw[qas]
  have h1:(zB [.s (tI a.num),.s (tI (a.den:Int)),.s (tI b.num),.s (tI (b.den:Int)),.i 0]).run=some (0,[.s (tI (a.num*b.den+b.num*a.den)),.s (tI ((a.den:Int)*(b.den:Int))),.i 0]):=by
   rw[qne]
   simp only[STD,m1,m2,m3,qz4 k1 k2 k4]
  simp only[STD,qdT oa ob,q9j oa,q9j ob,h1,zG,qAE (qjg a b),hL]
 simp only[STD,key]
theorem qrZ{N D N' D':Nat}{a b:Rat}(ha:bnd N D a)(hb:bnd N' D' b)(h1:N+D'≤1023)(h2:N'+D≤1023)(h3:D+D'≤1024):(kV [.s (tQ a),.s (tQ b)]).run=some (0,[.s (tQ (a-b)),.i 0]):=by
 have p1:=qhD a
 have p2:=qhD b
 have p3:=qor a
 have p4:=qor b
 have oa:okQ a:=⟨by have:=ha.1;have:=hb.2;omega,by have:=ha.2;have:=hb.2;omega⟩
 have ob:okQ b:=⟨by have:=hb.1;have:=ha.2;omega,by have:=ha.2;have:=hb.2;omega⟩
 have k1:okL (a.num*(b.den:Int)):=qaY ha.1 hb.2 (by omega)
 have k2:okL (b.num*(a.den:Int)):=qaY hb.1 ha.2 (by omega)
 have k3:okL ((a.den:Int)*(b.den:Int)):=qaY ha.2 hb.2 h3
 have k4:okL (a.num*(b.den:Int)-b.num*(a.den:Int)):=by
  have q1:=qvk (a.num*(b.den:Int)) (b.num*(a.den:Int))
  have q2:=q1V a.num (b.den:Int)
  have q3:=q1V b.num (a.den:Int)
  have q4:nl a.num≤N:=ha.1
  have q5:nl (b.den:Int)≤D':=hb.2
  have q6:nl b.num≤N':=hb.1
  have q7:nl (a.den:Int)≤D:=ha.2
  unfold okL;omega
 have m1:=qbI (q45 oa) (q0t ob) k1
 have m2:=qbI (q45 ob) (q0t oa) k2
 have m3:=qbI (q0t oa) (q0t ob) k3
 have hL:=(qkU (qjg a b) k4 k3).1
 rw[quQ] at hL
 rw[qqM]
 have key:(wB [.s (tQ a),.s (tQ b)]).run=some (0,[.s (tQ (a-b)),.i 0]):=by
  rw[qaW]
  have h1:(zE [.s (tI a.num),.s (tI (a.den:Int)),.s (tI b.num),.s (tI (b.den:Int)),.i 0]).run=some (0,[.s (tI (a.num*b.den-b.num*a.den)),.s (tI ((a.den:Int)*(b.den:Int))),.i 0]):=by
   rw[qnh]
   simp only[STD,m1,m2,m3,qrX k1 k2 k4]
  simp only[STD,qdT oa ob,q9j oa,q9j ob,h1,zG,qAE (qjg a b),hL]
 simp only[STD,key]
theorem ql3(q:Rat):(tQ q=[48])=(q=0):=by
 have:([48]:List UInt8)=tQ 0:=rfl
 rw[this,quF]
theorem qrO{N D N' D':Nat}{a b:Rat}(hb0:b≠0)(ha:bnd N D a)(hb:bnd N' D' b)(h1:N+D'≤1024)(h2:D+N'≤1024):(kx [.s (tQ a),.s (tQ b)]).run=some (0,[.s (tQ (a/b)),.i 0]):=by
 have oa:okQ a:=⟨by have:=ha.1;omega,by have:=ha.2;omega⟩
 have ob:okQ b:=⟨by have:=hb.1;omega,by have:=hb.2;omega⟩
 have k1:okL (a.num*(b.den:Int)):=qaY ha.1 hb.2 h1
 have k2:okL ((a.den:Int)*b.num):=qaY ha.2 hb.1 h2
 have hbn:b.num≠0:=fun h=>hb0 (Rat.num_eq_zero.1 h)
 have hz:(a.den:Int)*b.num≠0:=by have:=qsD a;exact Int.mul_ne_zero (by omega) hbn
 have m1:=qbI (q45 oa) (q0t ob) k1
 have m2:=qbI (q0t oa) (q45 ob) k2
 have hL:=(qkU hz k1 k2).1
 rw[qup] at hL
 rw[qqu]
 have key:(wz [.s (tQ a),.s (tQ b)]).run=some (0,[.s (tQ (a/b)),.i 0]):=by
  rw[qaU]
  have h1:(zF [.s (tI a.num),.s (tI (a.den:Int)),.s (tI b.num),.s (tI (b.den:Int)),.i 0]).run=some (0,[.s (tI (a.num*b.den)),.s (tI ((a.den:Int)*b.num)),.i 0]):=by
   rw[qng]
   simp only[STD,m1,m2]
  simp only[STD,qdT oa ob,q9j oa,q9j ob,h1,zG,qAE hz,hL]
 simp only[STD,qdT oa ob,zG,ql3,hb0,key]
theorem q6P{m:Int}(h:okL m):(wy [.s (tI m),.i 0]).run=some (0,[.i (sgn m),.i 0]):=by
 rw[qiJ]
 simp only[STD,qrj h]
theorem qzm(m:Int):sgn m=sgq (m:Rat):=by unfold sgq;simp
theorem qs8{q k:Rat}(hk:0<k):sgq (k*q)=sgq q:=by
 rcases q9l q with⟨h,e⟩|⟨h,e⟩|⟨h,e⟩
 ·rw[e,qys]
  have:=(Rat.mul_neg_iff_of_pos_left hk).2 h
  exact this
 ·rw[e,h,Rat.mul_zero];rfl
 ·rw[e,qs6]
  exact Rat.mul_pos hk h
theorem q1H(a:Rat):(0:Rat)<(a.den:Rat):=by
 have:=a.den_nz
 exact Rat.natCast_pos.2 (by omega)
theorem qbq(a:Rat):(a.num:Rat)=a*(a.den:Rat):=by
 have h:a=(a.num:Rat)/(a.den:Rat):=by rw[←Rat.mkRat_eq_div,Rat.mkRat_self]
 have h2:=Rat.div_mul_cancel (a:=(a.num:Rat)) (b:=(a.den:Rat)) (by have:=q1H a;grind)
 rw[←h] at h2
 exact h2.symm
def rX(a b c:Rat):Int:=a.num*b.den*c.den
def rY(a b:Rat):Int:=b.num*a.den
def rR(c:Rat):Int:=c.num*c.den
theorem qA9(a b c:Rat):sgn (rX a b c)=sgq a:=by
 unfold rX sgq
 rw[qcO (qsD c),qcO (qsD b)]
theorem qAj(a b:Rat):sgn (rY a b)=sgq b:=by unfold rY sgq;rw[qcO (qsD a)]
theorem qAg(c:Rat):sgn (rR c)=sgq c:=by unfold rR sgq;rw[qcO (qsD c)]
theorem qAr(a b c:Rat):sgn (rX a b c*rX a b c-rY a b*rY a b*rR c)=sgq (a*a-b*b*c):=by
 rw[qzm]
 have h1:=q1H a
 have h2:=q1H b
 have h3:=q1H c
 have hk:(0:Rat)<((a.den:Rat)*b.den*c.den)*((a.den:Rat)*b.den*c.den):=by
  have:=Rat.mul_pos (Rat.mul_pos h1 h2) h3
  exact Rat.mul_pos this this
 rw[←qs8 (q:=a*a-b*b*c) hk]
 congr 1
 unfold rX rY rR
 simp only[Rat.intCast_sub,Rat.intCast_mul,qbq,Rat.intCast_natCast]
 grind
theorem qvK(a b c:Rat):qbQ a b c=if 0≤sgn (rX a b c)*(sgn (rY a b)*sgn (rR c)) then (if sgn (rX a b c)=0 then sgn (rY a b)*sgn (rR c) else sgn (rX a b c)) else sgn (rX a b c)*sgn (rX a b c*rX a b c-rY a b*rY a b*rR c):=by
 unfold qbQ
 rw[qA9,qAj,qAg,qAr]
theorem qz0{x y r:Int}(hx:okL x)(hy:okL y)(hr:okL r)(hxx:okL (x*x))(hyy:okL (y*y))(hyr:okL (y*y*r))(hd:okL (x*x-y*y*r)) :
  (yU [.s (tI x),.s (tI y),.s (tI r),.i 0]).run=some (0,[.i (if 0≤sgn x*(sgn y*sgn r) then (if sgn x=0 then sgn y*sgn r else sgn x) else sgn x*sgn (x*x-y*y*r)),.i 0]):=by
 rw[qhp]
 have bx:=qm9 x
 have bY:=qm9 y
 have br:=qm9 r
 have bd:=qm9 (x*x-y*y*r)
 have m1:=qbI hx hx hxx
 have m2:=qqk [y,y,r] ⟨q8J,hy,by rw[Int.one_mul];exact hy,hy,by rw[Int.one_mul];exact hyy,hr,by rw[Int.one_mul];exact hyr⟩ (by simp)
 simp only[prd,Int.one_mul] at m2
 have m2':(q9 [.r [[.s (tI y)],[.s (tI y)],[.s (tI r)]],.i 0]).run=some (0,[.s (tI (y*y*r)),.i 0]):=m2
 by_cases hc:0≤sgn x*(sgn y*sgn r)
 ·by_cases h0:sgn x=0
  ·have w0:q0Q .i64 0 (sgn y*sgn r)=0:=by rw[q8u (by rw[Int.zero_mul];omega),Int.zero_mul]
   simp only[STD,q6P hx,q6P hy,q6P hr,qjG bY br,h0,w0,Int.zero_mul,Int.le_refl,eq_self]
  ·simp only[STD,q6P hx,q6P hy,q6P hr,qjG bY br,qjG bx (qzU bY br),hc,h0]
 ·simp only[STD,q6P hx,q6P hy,q6P hr,qjG bY br,qjG bx (qzU bY br),hc,m1,m2',qrX hxx hyr hd,q6P hd,qjG bx bd]
theorem qtL(m:Int):okL (0*m):=by rw[Int.zero_mul];exact q7B
theorem qxI{c:Rat}(h:0≤c):¬(tQ c).getD 0 0=45:=by
 have hn:¬c.num<0:=by have:=Rat.num_nonneg.2 h;omega
 have e:(tQ c).getD 0 0=(tI c.num).getD 0 0:=by
  by_cases hd:c.den=1
  ·rw[q93 hd]
  ·rw[q4Q hd]
   obtain⟨x,t,ex⟩:∃x t,tI c.num=x::t:=List.exists_cons_of_ne_nil (List.length_pos_iff.1 (ql5 _))
   rw[ex];simp
 rw[e,qvu];exact hn
theorem qve{c:Rat}(h:c<0):(tQ c).getD 0 0=45:=by
 have h1:¬0≤c:=by grind
 have hn:c.num<0:=by
  have h2:¬0≤c.num:=fun h=>h1 (Rat.num_nonneg.1 h)
  omega
 have e:(tQ c).getD 0 0=(tI c.num).getD 0 0:=by
  by_cases hd:c.den=1
  ·rw[q93 hd]
  ·rw[q4Q hd]
   obtain⟨x,t,ex⟩:∃x t,tI c.num=x::t:=List.exists_cons_of_ne_nil (List.length_pos_iff.1 (ql5 _))
   rw[ex];simp
 rw[e,qvu];exact hn
theorem qhP(s:List UInt8):(sat s 0=45)=(s.getD 0 0=45):=by
 unfold sat
 simp only[Int.toNat_zero,eq_iff_iff]
 exact⟨fun h=>UInt8.toNat_inj.1 (by show (s.getD 0 0).toNat=45;omega),fun h=>by rw[h];rfl⟩
structure RootOk (a b c:Rat):Prop where
 oa:okQ a
 ob:okQ b
 oc:okQ c
 x1:okL (a.num*b.den)
 x:okL (rX a b c)
 y:okL (rY a b)
 r:okL (rR c)
 xx:okL (rX a b c*rX a b c)
 yy:okL (rY a b*rY a b)
 yr:okL (rY a b*rY a b*rR c)
 d:okL (rX a b c*rX a b c-rY a b*rY a b*rR c)
theorem qun{a b c:Rat}(h:RootOk a b c)(hc:0≤c):(yv [.s (tQ a),.s (tQ b),.s (tQ c)]).run=some (0,[.i (qbQ a b c),.i 0]):=by
 rw[qjU]
 have key:(jz [.s (tQ a),.s (tQ b),.s (tQ c),.s [48],.s [48]]).run=some (0,[.i (qbQ a b c),.i 0]):=by
  rw[qht]
  have o0:okQ 0:=q66.ok (by omega) (by omega)
  have hz:=qa4 o0
  rw[show tQ 0=[48] from rfl] at hz
  have hch:=qr9 (l:=[tQ a,tQ b,tQ c,[48],[48]]) (by simp) (fun s hs=>by
   simp only[List.mem_cons,List.not_mem_nil,or_false] at hs
   rcases hs with rfl|rfl|rfl|rfl|rfl
   ·exact qa4 h.oa
   ·exact qa4 h.ob
   ·exact qa4 h.oc
   ·exact hz
   ·exact hz)
  have hch':(qR [.r [[.s (tQ a)],[.s (tQ b)],[.s (tQ c)],[.s [48]],[.s [48]]]]).run=some (0,[.i 0]):=hch
  have c0:=q9j o0
  rw[show tQ 0=[48] from rfl] at c0
  replace c0:(q8 [.s [48]]).run=some (0,[.s [48],.s [49],.b false]):=c0
  have l1:(0:Int)<qw (tQ c):=by
   have h1:=qdN c
   have h2:=qhD c
   unfold qw;omega
  have l2:(0:Int)<qw [48]:=by decide
  have n1:¬sat (tQ c) 0=45:=by rw[qhP];exact qxI hc
  have n2:¬sat [48] 0=45:=by decide
  have mx:=qqk [a.num,b.den,c.den,1,1] ⟨q8J,q45 h.oa,by rw[Int.one_mul];exact q45 h.oa,q0t h.ob,by rw[Int.one_mul];exact h.x1,q0t h.oc,by rw[Int.one_mul];exact h.x,q8J,by rw[Int.one_mul,Int.mul_one];exact h.x,q8J,by rw[Int.one_mul,Int.mul_one,Int.mul_one];exact h.x⟩ (by simp)
  have my:=qqk [b.num,a.den,1,1] ⟨q8J,q45 h.ob,by rw[Int.one_mul];exact q45 h.ob,q0t h.oa,by rw[Int.one_mul];exact h.y,q8J,by rw[Int.one_mul,Int.mul_one];exact h.y,q8J,by rw[Int.one_mul,Int.mul_one,Int.mul_one];exact h.y⟩ (by simp)
  have mr:=qbI (q45 h.oc) (q0t h.oc) h.r
  have mz:=qqk [0,a.den,b.den,c.den] ⟨q8J,q7B,by rw[Int.mul_zero];exact q7B,q0t h.oa,by simp only[Int.mul_zero];exact qtL _,q0t h.ob,by simp only[Int.mul_zero,Int.zero_mul];exact q7B,q0t h.oc,by simp only[Int.mul_zero,Int.zero_mul];exact q7B⟩ (by simp)
  have mt:=qbI (m:=0) (n:=1) q7B q8J (qtL _)
  simp only[prd,Int.one_mul,Int.mul_one,Int.zero_mul] at mx my mz mt
  have mx':(q9 [.r [[.s (tI a.num)],[.s (tI (b.den:Int))],[.s (tI (c.den:Int))],[.s [49]],[.s [49]]],.i 0]).run=some (0,[.s (tI (rX a b c)),.i 0]):=mx
  have my':(q9 [.r [[.s (tI b.num)],[.s (tI (a.den:Int))],[.s [49]],[.s [49]]],.i 0]).run=some (0,[.s (tI (rY a b)),.i 0]):=my
  have mr':(q9 [.r [[.s (tI c.num)],[.s (tI (c.den:Int))]],.i 0]).run=some (0,[.s (tI (rR c)),.i 0]):=mr
  have mz':(q9 [.r [[.s [48]],[.s (tI (a.den:Int))],[.s (tI (b.den:Int))],[.s (tI (c.den:Int))]],.i 0]).run=some (0,[.s (tI 0),.i 0]):=mz
  have mt':(q9 [.r [[.s [48]],[.s [49]]],.i 0]).run=some (0,[.s (tI 0),.i 0]):=mt
  have hR:=qz0 h.x h.y h.r h.xx h.yy h.yr h.d
  rw[←qvK] at hR
  have w1:q0Q .i64 (sgn 0) (sgn 0)=0:=by decide
  have w2:q0Q .i64 (qbQ a b c) 0=0:=by rw[q8u (by rw[Int.mul_zero];omega),Int.mul_zero]
  by_cases h0:qbQ a b c=0
  ·simp only[STD,hch',l1,l2,n1,n2,Int.le_refl,and_self,q9j h.oa,q9j h.ob,q9j h.oc,c0,mx',my',mr',mz',mt',hR,q6P q7B,w1,h0,show q0Q .i64 0 0=0 from rfl]
  ·simp only[STD,hch',l1,l2,n1,n2,Int.le_refl,and_self,q9j h.oa,q9j h.ob,q9j h.oc,c0,mx',my',mr',mz',mt',hR,q6P q7B,w1,w2,h0]
 simp only[STD,key]
theorem RootOk.of{N D N' D' R E:Nat}{a b c:Rat}(ha:bnd N D a)(hb:bnd N' D' b)(hc:bnd R E c)(h1:2*(N+D'+E)≤1023)(h2:2*(N'+D)+R+E≤1023):RootOk a b c:=by
 have q1:nl a.num≤N:=ha.1
 have q2:nl (a.den:Int)≤D:=ha.2
 have q3:nl b.num≤N':=hb.1
 have q4:nl (b.den:Int)≤D':=hb.2
 have q5:nl c.num≤R:=hc.1
 have q6:nl (c.den:Int)≤E:=hc.2
 have x1:=q1V a.num b.den
 have x2:=q1V (a.num*b.den) c.den
 have y1:=q1V b.num a.den
 have r1:=q1V c.num c.den
 have xx:=q1V (rX a b c) (rX a b c)
 have yy:=q1V (rY a b) (rY a b)
 have yr:=q1V (rY a b*rY a b) (rR c)
 have dd:=qvk (rX a b c*rX a b c) (rY a b*rY a b*rR c)
 have e1:nl (rX a b c)=nl (a.num*b.den*c.den):=rfl
 have e2:nl (rY a b)=nl (b.num*a.den):=rfl
 have e3:nl (rR c)=nl (c.num*c.den):=rfl
 have p1:=ql4 a.num
 have p2:=ql4 b.num
 have p3:=ql4 c.num
 have p4:=ql4 (a.den:Int)
 have p5:=ql4 (b.den:Int)
 have p6:=ql4 (c.den:Int)
 exact { oa:=⟨by show nl a.num≤1024;omega,by show nl (a.den:Int)≤1024;omega⟩,ob:=⟨by show nl b.num≤1024;omega,by show nl (b.den:Int)≤1024;omega⟩,oc:=⟨by show nl c.num≤1024;omega,by show nl (c.den:Int)≤1024;omega⟩,x1:=by unfold okL;omega,x:=by unfold okL;omega,y:=by unfold okL;omega,r:=by unfold okL;omega,xx:=by unfold okL;omega,yy:=by unfold okL;omega,yr:=by unfold okL;omega,d:=by unfold okL;omega }
end Go.Eng

namespace Go.Eng
theorem qtW{a b:Rat}{N D N' D':Nat}(ha:bnd N D a)(hb:bnd N' D' b)(h1:N+D'≤1023)(h2:N'+D≤1023)(h3:D+D'≤1024):(zu [.s (tQ a),.s (tQ b),.i 0]).run=some (0,[.s (tQ (a+b)),.i 0]):=by
 rw[qjQ]
 have:(we [.s (tQ a),.s (tQ b),.i 0]).run=some (0,[.s (tQ (a+b)),.i 0]):=by
  rw[q9H]
  simp only[STD,qst ha hb h1 h2 h3]
 simp only[STD,this]
theorem qpf{a b:Rat}{N D N' D':Nat}(ha:bnd N D a)(hb:bnd N' D' b)(h1:N+D'≤1023)(h2:N'+D≤1023)(h3:D+D'≤1024):(qz [.s (tQ a),.s (tQ b),.i 0]).run=some (0,[.s (tQ (a-b)),.i 0]):=by
 rw[qja]
 have:(w9 [.s (tQ a),.s (tQ b),.i 0]).run=some (0,[.s (tQ (a-b)),.i 0]):=by
  rw[q9L]
  simp only[STD,qrZ ha hb h1 h2 h3]
 simp only[STD,this]
theorem qpA{a b:Rat}{N D N' D':Nat}(ha:bnd N D a)(hb:bnd N' D' b)(h1:N+N'≤1024)(h2:D+D'≤1024):(qu [.s (tQ a),.s (tQ b),.i 0]).run=some (0,[.s (tQ (a*b)),.i 0]):=by
 rw[qj1]
 have:(zZ [.s (tQ a),.s (tQ b),.i 0]).run=some (0,[.s (tQ (a*b)),.i 0]):=by
  rw[q9I]
  simp only[STD,qsP ha hb h1 h2]
 simp only[STD,this]
theorem qAl{a b:Rat}{N D N' D':Nat}(h0:b≠0)(ha:bnd N D a)(hb:bnd N' D' b)(h1:N+D'≤1024)(h2:D+N'≤1024):(wO [.s (tQ a),.s (tQ b),.i 0]).run=some (0,[.s (tQ (a/b)),.i 0]):=by
 rw[q9N]
 simp only[STD,qrO h0 ha hb h1 h2]
theorem qvQ{ax ay bx by_:Rat}{N D N' D':Nat}(h1:bnd N D ax)(h2:bnd N D ay)(h3:bnd N' D' bx)(h4:bnd N' D' by_)(c1:N+D'≤1023)(c2:N'+D≤1023)(c3:D+D'≤1024) :
  (qH [.s (tQ ax),.s (tQ ay),.s (tQ bx),.s (tQ by_),.i 0]).run=some (0,[.s (tQ (ax-bx)),.s (tQ (ay-by_)),.i 0]):=by
 rw[qi8]
 simp only[STD,qpf h1 h3 c1 c2 c3,qpf h2 h4 c1 c2 c3]
theorem qwm{ax ay bx by_:Rat}{N D N' D':Nat}(h1:bnd N D ax)(h2:bnd N D ay)(h3:bnd N' D' bx)(h4:bnd N' D' by_)(c1:N+N'+(D+D')≤1023)(c2:D+D'+(D+D')≤1024) :
  (zM [.s (tQ ax),.s (tQ ay),.s (tQ bx),.s (tQ by_),.i 0]).run=some (0,[.s (tQ (ax*bx+ay*by_)),.i 0]):=by
 rw[qj0]
 simp only[STD,qpA h1 h3 (by omega) (by omega),qpA h2 h4 (by omega) (by omega),qtW (h1.mul h3) (h2.mul h4) (by omega) (by omega) (by omega)]
theorem qoJ{ax ay bx by_:Rat}{N D N' D':Nat}(h1:bnd N D ax)(h2:bnd N D ay)(h3:bnd N' D' bx)(h4:bnd N' D' by_):bnd (N+N'+(D+D')+1) (D+D'+(D+D')) (ax*bx+ay*by_):=
 (h1.mul h3).add (h2.mul h4) (by omega) (by omega)
def q29(ax ay bx by_:Rat):Rat:=(ax-bx)*(ax-bx)+(ay-by_)*(ay-by_)
theorem q63{a b:Rat}(ha:bnd 12 10 a)(hb:bnd 12 10 b):bnd 23 20 (a-b):=ha.sub hb (by omega) (by omega)
theorem qjn{ax ay bx by_:Rat}(h1:bnd 12 10 ax)(h2:bnd 12 10 ay)(h3:bnd 12 10 bx)(h4:bnd 12 10 by_):bnd 87 80 (q29 ax ay bx by_):=
 qoJ (q63 h1 h3) (q63 h2 h4) (q63 h1 h3) (q63 h2 h4)
theorem qAa{ax ay bx by_:Rat}(h1:bnd 12 10 ax)(h2:bnd 12 10 ay)(h3:bnd 12 10 bx)(h4:bnd 12 10 by_) :
  (jm [.s (tQ ax),.s (tQ ay),.s (tQ bx),.s (tQ by_),.i 0]).run=some (0,[.s (tQ (q29 ax ay bx by_)),.i 0]):=by
 rw[qjv]
 have k1:=q63 h1 h3
 have k2:=q63 h2 h4
 simp only[STD,qvQ h1 h2 h3 h4 (by omega) (by omega) (by omega),qwm k1 k2 k1 k2 (by omega) (by omega)]
 rfl
structure DQ where
 x:Rat
 y:Rat
 s:Rat
def DQ.sh(d:DQ):Prop:=bnd 12 10 d.x∧bnd 12 10 d.y∧bnd 13 10 d.s
theorem qzJ{a b:Rat}(ha:bnd 13 10 a)(hb:bnd 13 10 b):bnd 24 20 (a+b):=ha.add hb (by omega) (by omega)
def qpk(a b:DQ)(k:Rat):Int:=qbQ (q29 a.x a.y b.x b.y-(a.s+b.s)) k (a.s*b.s)
theorem qwt{a b c:Rat}(h:RootOk a b c)(hc:0≤c):(wA [.s (tQ a),.s (tQ b),.s (tQ c),.i 0]).run=some (0,[.i (qbQ a b c),.i 0]):=by
 rw[qiT]
 simp only[STD,qun h hc]
theorem qow(a:Rat):qbQ a 0 0=sgq a:=by
 unfold qbQ
 rw[show sgq 0=0 from rfl,Int.mul_zero,Int.mul_zero,if_pos (by omega)]
 split
 ·rename_i h;rw[h]
 ·rfl
theorem qvD{a b:Rat}{N D N' D':Nat}(ha:bnd N D a)(hb:bnd N' D' b)(c1:N+D'+1≤500)(c2:N'+D+1≤500)(c3:D+D'≤300):(zq [.s (tQ a),.s (tQ b),.i 0]).run=some (0,[.i (sgq (a-b)),.i 0]):=by
 rw[qgL]
 have k:bnd 500 (D+D') (a-b):=ha.sub hb (by omega) (by omega)
 have hr:=qwt (a:=a-b) (b:=0) (c:=0) (RootOk.of k q66 q66 (by omega) (by omega)) (by decide)
 rw[qow,show tQ 0=[48] from rfl] at hr
 simp only[STD,qpf ha hb (by omega) (by omega) (by omega),hr]
theorem qym{a b:Rat}(ha:0≤a)(hb:0≤b):0≤a*b:=Rat.mul_nonneg ha hb
theorem qyh{a b:DQ}(ha:a.sh)(hb:b.sh)(na:0≤a.s)(nb:0≤b.s){k:Rat}(hk:bnd 1 1 k) :
  (wM [.s (tQ a.x),.s (tQ a.y),.s (tQ a.s),.s (tQ b.x),.s (tQ b.y),.s (tQ b.s),.s (tQ k),.i 0]).run=some (0,[.i (qpk a b k),.i 0]):=by
 rw[qhE]
 obtain⟨a1,a2,a3⟩:=ha
 obtain⟨b1,b2,b3⟩:=hb
 have f1:=qjn a1 a2 b1 b2
 have f2:=qzJ a3 b3
 have f3:bnd 108 100 (q29 a.x a.y b.x b.y-(a.s+b.s)):=f1.sub f2 (by omega) (by omega)
 have f4:bnd 26 20 (a.s*b.s):=a3.mul b3
 have hr:=qwt (RootOk.of f3 hk f4 (by omega) (by omega)) (qym na nb)
 simp only[STD,qAa a1 a2 b1 b2,qtW a3 b3 (by omega) (by omega) (by omega),qpf f1 f2 (by omega) (by omega) (by omega),qpA a3 b3 (by omega) (by omega),hr]
 rfl
theorem qvc:tQ 2=[50]:=qxc 2
theorem qyL:tQ (-2)=[45,50]:=by
 have:(-2:Rat)=((-2:Int):Rat):=by simp
 rw[this,qrG];rfl
def q2g(a b:DQ):Prop:=a.s≤b.s∧qpk a b 2≤0
instance (a b:DQ):Decidable (q2g a b):=by unfold q2g;infer_instance
theorem qf9(a b:Rat):(sgq (a-b)≤0)=(a≤b):=by rw[qf3];exact propext ⟨fun h=>by grind,fun h=>by grind⟩
theorem qf2{a b:DQ}(ha:a.sh)(hb:b.sh)(na:0≤a.s)(nb:0≤b.s) :
  (qE [.s (tQ a.x),.s (tQ a.y),.s (tQ a.s),.s (tQ b.x),.s (tQ b.y),.s (tQ b.s),.i 0]).run=some (0,[.b (decide (q2g a b)),.i 0]):=by
 rw[qfr]
 have h1:=qvD ha.2.2 hb.2.2 (by omega) (by omega) (by omega)
 have h2:=qyh ha hb na nb qlf
 rw[qvc] at h2
 unfold q2g
 by_cases c:a.s≤b.s
 ·have e:(ile (qpk a b 2) 0)=decide (qpk a b 2≤0):=rfl
  simp only[STD,h1,qf9,c,h2,true_and,e]
 ·simp only[STD,h1,qf9,c,false_and];rfl
def qyZ(a b:DQ):Int:=if q2g a b then 2 else if q2g b a then 3 else -qpk a b (-2)
theorem qxr(a b c:Rat):-1≤qbQ a b c∧qbQ a b c≤1:=by
 have h1:=qeA a
 have h2:=qzU (qeA b) (qeA c)
 have h3:=qzU h1 (qeA (a*a-b*b*c))
 unfold qbQ
 split
 ·split
  ·exact h2
  ·exact h1
 ·exact h3
theorem qya(a b:DQ)(k:Rat):-1≤qpk a b k∧qpk a b k≤1:=qxr _ _ _
def shT(s:List UInt8):Prop:=s.length≤12
noncomputable def qtD(x y s:List UInt8):Int:=if qdI x≠0 then qdI x else if qdI y≠0 then qdI y else if qdI s≠0 then qdI s else if s.getD 0 0=45 then 2 else 0
theorem qzV{S:List PV→TR}{st:Nat→List PV}{e0 e1 e2:Int}{fin:List PV}
  (h0:(S (st 0)).run=if e0=0 then some (0,st 1) else some (2,[.i e0])) (h1:(S (st 1)).run=if e1=0 then some (0,st 2) else some (2,[.i e1])) (h2:(S (st 2)).run=if e2=0 then some (0,st 3) else some (2,[.i e2]))
  (h3:(S (st 3)).run=some (1,fin)):(qf S (st 0)).run=some (if e0≠0 then (1,[.i e0]) else if e1≠0 then (1,[.i e1]) else if e2≠0 then (1,[.i e2]) else (0,fin)):=by
 have hr:∃m,qeI=m+4:=⟨qeI-4,by unfold qeI;omega⟩
 obtain⟨m,hm⟩:=hr
 unfold qf
 rw[hm]
 by_cases c0:e0=0
 ·rw[if_pos c0] at h0
  rw[qeT h0]
  by_cases c1:e1=0
  ·rw[if_pos c1] at h1
   rw[qeT h1]
   by_cases c2:e2=0
   ·rw[if_pos c2] at h2
    rw[qeT h2,q6v h3]
    simp[c0,c1,c2]
   ·rw[if_neg c2] at h2
    rw[q6v h2]
    simp[c0,c1,c2]
  ·rw[if_neg c1] at h1
   rw[q6v h1]
   simp[c0,c1]
 ·rw[if_neg c0] at h0
  rw[q6v h0]
  simp[c0]
theorem q8g(x y s:List UInt8)(h1:x.length≤1000000)(h2:y.length≤1000000)(h3:s.length≤1000000):(wt [.s x,.s y,.s s]).run=some (0,[.i (qtD x y s)]):=by
  rw[qnE]
  have c0:=q7S x (by omega)
  have c1:=q7S y (by omega)
  have c2:=q7S s (by omega)
  have d0:cS [[.s x],[.s y],[.s s]] 0 0=x:=rfl
  have d1:cS [[.s x],[.s y],[.s s]] 1 0=y:=rfl
  have d2:cS [[.s x],[.s y],[.s s]] 2 0=s:=rfl
  have d3:qL [[U.s x],[U.s y],[U.s s]]=3:=rfl
  have w0:qt .i64 0 1=1:=by decide
  have w1:qt .i64 1 1=2:=by decide
  have w2:qt .i64 2 1=3:=by decide
  have key:=qzV (S:=j7) (st:=fun i=>[.i 3,.i (i:Int),.s x,.s y,.s s,.r [[.s x],[.s y],[.s s]]]) (e0:=qdI x) (e1:=qdI y) (e2:=qdI s) (fin:=[.s x,.s y,.s s])
    (by rw [q3X]; simp only [show (((0 : Nat)) : Int) = 0 from rfl, show (((1 : Nat)) : Int) = 1 from rfl, d0, d3]
        by_cases c:qdI x=0
        · simp only[STD,c0,c,w0,show (0:Int)<3 by omega,Int.le_refl,and_self]
        · simp only[STD,c0,c,show (0:Int)<3 by omega,Int.le_refl,and_self])
    (by rw [q3X]; simp only [show (((1 : Nat)) : Int) = 1 from rfl, show (((2 : Nat)) : Int) = 2 from rfl, d1, d3]
        by_cases c:qdI y=0
        · simp only[STD,c1,c,w1,show (1:Int)<3 by omega,show (0:Int)≤1 by omega,and_self]
        · simp only[STD,c1,c,show (1:Int)<3 by omega,show (0:Int)≤1 by omega,and_self])
    (by rw [q3X]; simp only [show (((2 : Nat)) : Int) = 2 from rfl, show (((3 : Nat)) : Int) = 3 from rfl, d2, d3]
        by_cases c:qdI s=0
        · simp only[STD,c2,c,w2,show (2:Int)<3 by omega,show (0:Int)≤2 by omega,and_self]
        · simp only[STD,c2,c,show (2:Int)<3 by omega,show (0:Int)≤2 by omega,and_self])
    (by rw[q3X];simp only[show (((3:Nat)):Int)=3 from rfl];simp only[STD,show ¬(3:Int)<3 by omega])
  simp only[show (((0:Nat)):Int)=0 from rfl] at key
  unfold qtD
  rw[d3]
  by_cases e0:qdI x=0
  · by_cases e1:qdI y=0
    · by_cases e2:qdI s=0
      · simp only[e0,e1,e2,ne_eq,not_true,if_false] at key ⊢
        obtain⟨q,hq,_⟩:=qkY e2
        have hl:(0:Int)<qw s:=by
          have h1:=qdN q
          have h2:=qhD q
          rw[hq];unfold qw;omega
        by_cases hm:s.getD 0 0=45
        · simp only[STD,key,zn key,Int.le_refl,hl,and_self,qhP,hm]
        · simp only[STD,key,zn key,Int.le_refl,hl,and_self,qhP,hm]
      · simp only[e0,e1,e2,ne_eq,not_true,not_false_eq_true,if_false,if_true] at key ⊢
        simp only[STD,key,zn key,show ¬(1=0) by omega]
    · simp only[e0,e1,ne_eq,not_true,not_false_eq_true,if_false,if_true] at key ⊢
      simp only[STD,key,zn key,show ¬(1=0) by omega]
  · simp only[e0,ne_eq,not_false_eq_true,if_true] at key ⊢
    simp only[STD,key,zn key,show ¬(1=0) by omega]
theorem qib(x y s:List UInt8)(h1:x.length≤1000000)(h2:y.length≤1000000)(h3:s.length≤1000000):(uH [.s x,.s y,.s s]).run=some (0,[.i (qtD x y s)]):=by
  rw[qn5]
  have c0:=qcF x (by omega)
  have c1:=qcF y (by omega)
  have c2:=qcF s (by omega)
  have d0:cS [[.s x],[.s y],[.s s]] 0 0=x:=rfl
  have d1:cS [[.s x],[.s y],[.s s]] 1 0=y:=rfl
  have d2:cS [[.s x],[.s y],[.s s]] 2 0=s:=rfl
  have d3:qL [[U.s x],[U.s y],[U.s s]]=3:=rfl
  have w0:qt .i64 0 1=1:=by decide
  have w1:qt .i64 1 1=2:=by decide
  have w2:qt .i64 2 1=3:=by decide
  have key:=qzV (S:=jb) (st:=fun i=>[.i 3,.i (i:Int),.s x,.s y,.s s,.r [[.s x],[.s y],[.s s]]]) (e0:=qdI x) (e1:=qdI y) (e2:=qdI s) (fin:=[.s x,.s y,.s s])
    (by rw [q3O]; simp only [show (((0 : Nat)) : Int) = 0 from rfl, show (((1 : Nat)) : Int) = 1 from rfl, d0, d3]
        by_cases c:qdI x=0
        · simp only[STD,c0,c,w0,show (0:Int)<3 by omega,Int.le_refl,and_self]
        · simp only[STD,c0,c,show (0:Int)<3 by omega,Int.le_refl,and_self])
    (by rw [q3O]; simp only [show (((1 : Nat)) : Int) = 1 from rfl, show (((2 : Nat)) : Int) = 2 from rfl, d1, d3]
        by_cases c:qdI y=0
        · simp only[STD,c1,c,w1,show (1:Int)<3 by omega,show (0:Int)≤1 by omega,and_self]
        · simp only[STD,c1,c,show (1:Int)<3 by omega,show (0:Int)≤1 by omega,and_self])
    (by rw [q3O]; simp only [show (((2 : Nat)) : Int) = 2 from rfl, show (((3 : Nat)) : Int) = 3 from rfl, d2, d3]
        by_cases c:qdI s=0
        · simp only[STD,c2,c,w2,show (2:Int)<3 by omega,show (0:Int)≤2 by omega,and_self]
        · simp only[STD,c2,c,show (2:Int)<3 by omega,show (0:Int)≤2 by omega,and_self])
    (by rw[q3O];simp only[show (((3:Nat)):Int)=3 from rfl];simp only[STD,show ¬(3:Int)<3 by omega])
  simp only[show (((0:Nat)):Int)=0 from rfl] at key
  unfold qtD
  rw[d3]
  by_cases e0:qdI x=0
  · by_cases e1:qdI y=0
    · by_cases e2:qdI s=0
      · simp only[e0,e1,e2,ne_eq,not_true,if_false] at key ⊢
        obtain⟨q,rfl,hok⟩:=qkY e2
        have hS:=qnC (a:=q) (qzg hok (by omega))
        by_cases hm:q<0
        · simp only[STD,key,zn key,hS,qnV,hm,qve hm]
        · simp only[STD,key,zn key,hS,qnV,hm,qxI (show 0≤q by grind)]
      · simp only[e0,e1,e2,ne_eq,not_true,not_false_eq_true,if_false,if_true] at key ⊢
        simp only[STD,key,zn key,show ¬(1=0) by omega]
    · simp only[e0,e1,ne_eq,not_true,not_false_eq_true,if_false,if_true] at key ⊢
      simp only[STD,key,zn key,show ¬(1=0) by omega]
  · simp only[e0,ne_eq,not_false_eq_true,if_true] at key ⊢
    simp only[STD,key,zn key,show ¬(1=0) by omega]
theorem qzj{x y s:List UInt8}(h:qtD x y s=0):∃d:DQ,x=tQ d.x∧y=tQ d.y∧s=tQ d.s∧okQ d.x∧okQ d.y∧okQ d.s∧0≤d.s:=by
 unfold qtD at h
 by_cases e0:qdI x=0
 ·by_cases e1:qdI y=0
  ·by_cases e2:qdI s=0
   ·simp only[e0,e1,e2,ne_eq,not_true,if_false] at h
    obtain⟨qx,rfl,o1⟩:=qkY e0
    obtain⟨qy,rfl,o2⟩:=qkY e1
    obtain⟨qs,rfl,o3⟩:=qkY e2
    refine⟨⟨qx,qy,qs⟩,rfl,rfl,rfl,o1,o2,o3,?_⟩
    show 0≤qs
    by_cases hn:qs<0
    ·rw[qve hn] at h;simp at h
    ·grind
   ·simp only[e0,e1,ne_eq,not_true,if_false,e2,not_false_eq_true,if_true] at h
  ·simp only[e0,ne_eq,not_true,if_false,e1,not_false_eq_true,if_true] at h
 ·simp only[ne_eq,e0,not_false_eq_true,if_true] at h
theorem qze{d:DQ}(h1:okQ d.x)(h2:okQ d.y)(h3:okQ d.s)(h:0≤d.s):qtD (tQ d.x) (tQ d.y) (tQ d.s)=0:=by
 unfold qtD
 rw[qoA h1,qoA h2,qoA h3]
 have:=qxI h
 rw[if_neg (by simp),if_neg (by simp),if_neg (by simp),if_neg this]
end Go.Eng

namespace Go.Eng
def Bd(C e:Nat)(x:Int):Prop:=x.natAbs≤C*10^e
theorem Bd.mul{C e C' e':Nat}{x y:Int}(h:Bd C e x)(h':Bd C' e' y):Bd (C*C') (e+e') (x*y):=by
 unfold Bd at *
 rw[Int.natAbs_mul,Nat.pow_add]
 have:=Nat.mul_le_mul h h'
 have e1:C*10^e*(C'*10^e')=C*C'*(10^e*10^e'):=by
  rw[Nat.mul_mul_mul_comm]
 omega
theorem Bd.mono{C e C' e':Nat}{x:Int}(h:Bd C e x)(hC:C≤C')(he:e≤e'):Bd C' e' x:=by
 unfold Bd at *
 exact Nat.le_trans h (Nat.mul_le_mul hC (Nat.pow_le_pow_right (by omega) he))
theorem Bd.add{C C' e:Nat}{x y:Int}(h:Bd C e x)(h':Bd C' e y):Bd (C+C') e (x+y):=by
 unfold Bd at *
 rw[Nat.add_mul]
 have:=Int.natAbs_add_le x y
 omega
theorem Bd.neg{C e:Nat}{x:Int}(h:Bd C e x):Bd C e (-x):=by unfold Bd at *;rw[Int.natAbs_neg];exact h
theorem Bd.sub{C C' e:Nat}{x y:Int}(h:Bd C e x)(h':Bd C' e y):Bd (C+C') e (x-y):=by
 rw[Int.sub_eq_add_neg];exact h.add h'.neg
theorem Bd.okL{C e k:Nat}{x:Int}(h:Bd C e x)(hC:C≤10^k)(he:k+e≤1023)(hne:0<e+k):okL x:=by
 unfold Go.Eng.okL nl
 unfold Bd at h
 have h1:C*10^e≤10^k*10^e:=Nat.mul_le_mul_right _ hC
 rw[←Nat.pow_add] at h1
 have h2:(10:Nat)^(k+e)<10^(k+e+1):=Nat.pow_lt_pow_right (by omega) (by omega)
 have:=q2m (k+e) x.natAbs (by omega)
 omega
structure Wt (h v:Nat) (q:Rat):Prop where
 n:Bd 1 h q.num
 d:Bd 1 v (q.den:Int)
 dh:Bd 1 h (q.den:Int)
theorem qkO{q:Rat}{P M:Int}(hM:M≠0)(h:q*(M:Rat)=(P:Rat)):q.num.natAbs≤P.natAbs∧q.den≤M.natAbs:=by
 have hM':(M:Rat)≠0:=by
  intro e
  exact hM (Rat.intCast_inj.1 (e.trans (by simp)))
 have e:q=Rat.divInt P M:=by
  rw[Rat.divInt_eq_div,←h]
  exact(Rat.mul_div_cancel hM').symm
 rw[e]
 constructor
 ·rw[Rat.num_divInt]
  refine Nat.le_trans (Int.natAbs_ediv_le_natAbs _ _) ?_
  rw[Int.natAbs_mul,Int.natAbs_sign_of_ne_zero hM];omega
 ·rw[Rat.den_divInt,if_neg hM]
  exact Nat.div_le_self _ _
structure SQ where
 fx:Rat
 fy:Rat
 ax:Rat
 ay:Rat
 h:Rat
def qI(a b:DQ)(neg:Bool):SQ:=
 let dx:=b.x-a.x
 let dy:=b.y-a.y
 let far:=dx*dx+dy*dy
 let t:=(far+a.s-b.s)/(2*far)
 ⟨a.x+t*dx,a.y+t*dy,if neg then dy else 0-dy,if neg then 0-dx else dx,a.s/far-t*t⟩
def kA(d:DQ)(p:SQ):Rat:=(p.fx-d.x)*(p.fx-d.x)+(p.fy-d.y)*(p.fy-d.y)+p.h*(p.ax*p.ax+p.ay*p.ay)-d.s
def kB(d:DQ)(p:SQ):Rat:=2*((p.fx-d.x)*p.ax+(p.fy-d.y)*p.ay)
def q1s(d:DQ)(p:SQ):Prop:=qbQ (kA d p) (kB d p) p.h≤0
instance (d:DQ) (p:SQ):Decidable (q1s d p):=by unfold q1s;infer_instance
section
variable (a1 p1 b1 q1 c1 r1 a2 p2 b2 q2 c2 r2 a3 p3 b3 q3 c3 r3:Int)
def iU:Int:=a2*p1-a1*p2
def iN:Int:=iU a1 p1 a2 p2*iU a1 p1 a2 p2*((q1*q2)*(q1*q2))+iU b1 q1 b2 q2*iU b1 q1 b2 q2*((p1*p2)*(p1*p2))
def iD:Int:=(p1*p2*(q1*q2))*(p1*p2*(q1*q2))
def iT:Int:=iN a1 p1 b1 q1 a2 p2 b2 q2*(r1*r2)+(c1*r2-c2*r1)*iD p1 q1 p2 q2
def iE:Int:=a1*p3-a3*p1
def iG:Int:=iE a1 p1 a3 p3*iE a1 p1 a3 p3*((q1*q3)*(q1*q3))+iE b1 q1 b3 q3*iE b1 q1 b3 q3*((p1*p3)*(p1*p3))
def iH:Int:=iE a1 p1 a3 p3*iU a1 p1 a2 p2*((q1*q1)*(q2*q3))+iE b1 q1 b3 q3*iU b1 q1 b2 q2*((p1*p1)*(p2*p3))
def iSq:Int:=((p1*q1)*(p3*q3))*((p1*q1)*(p3*q3))
def iA:Int:=iG a1 p1 b1 q1 a3 p3 b3 q3*iN a1 p1 b1 q1 a2 p2 b2 q2*(r1*r2*r3)*(p2*q2)+iT a1 p1 b1 q1 c1 r1 a2 p2 b2 q2 c2 r2*iH a1 p1 b1 q1 a2 p2 b2 q2 a3 p3 b3 q3*r3*(p3*q3)
 + c1*iN a1 p1 b1 q1 a2 p2 b2 q2*(r2*r3)*iSq p1 q1 p3 q3*(p2*q2)-c3*iN a1 p1 b1 q1 a2 p2 b2 q2*(r1*r2)*iSq p1 q1 p3 q3*(p2*q2)
def iM:Int:=iN a1 p1 b1 q1 a2 p2 b2 q2*(r1*r2*r3)*iSq p1 q1 p3 q3*(p2*q2)
def iK:Int:=2*(iE b1 q1 b3 q3*iU a1 p1 a2 p2*(p3*q2)-iE a1 p1 a3 p3*iU b1 q1 b2 q2*(q3*p2))
def iQ:Int:=(p1*p2*p3)*(q1*q2*q3)
def iCn:Int:=4*(c1*iD p1 q1 p2 q2*iN a1 p1 b1 q1 a2 p2 b2 q2*r1*(r2*r2))-iT a1 p1 b1 q1 c1 r1 a2 p2 b2 q2 c2 r2*iT a1 p1 b1 q1 c1 r1 a2 p2 b2 q2 c2 r2
def iCd:Int:=4*(iN a1 p1 b1 q1 a2 p2 b2 q2*iN a1 p1 b1 q1 a2 p2 b2 q2)*((r1*r2)*(r1*r2))
end
section
variable {a1 p1 b1 q1 c1 r1 a2 p2 b2 q2 c2 r2 a3 p3 b3 q3 c3 r3:Int} {hx1 hy1 hs1 hx2 hy2 hs2 hx3 hy3 hs3 vx1 vy1 vs1 vx2 vy2 vs2 vx3 vy3 vs3:Nat}
theorem bU(h1:Bd 1 hx1 a1)(h2:Bd 1 hx1 p1)(h3:Bd 1 hx2 a2)(h4:Bd 1 hx2 p2):Bd 2 (hx1+hx2) (iU a1 p1 a2 p2):=
 ((h3.mul h2).mono (Nat.le_refl _) (by omega)).sub (h1.mul h4)
theorem bE(h1:Bd 1 hx1 a1)(h2:Bd 1 hx1 p1)(h3:Bd 1 hx3 a3)(h4:Bd 1 hx3 p3):Bd 2 (hx1+hx3) (iE a1 p1 a3 p3):=
 (h1.mul h4).sub ((h3.mul h2).mono (Nat.le_refl _) (by omega))
theorem bN(x1:Bd 1 hx1 a1)(x1':Bd 1 hx1 p1)(y1:Bd 1 hy1 b1)(y1':Bd 1 hy1 q1)(x2:Bd 1 hx2 a2)(x2':Bd 1 hx2 p2)(y2:Bd 1 hy2 b2)(y2':Bd 1 hy2 q2) :
  Bd 8 (2*(hx1+hx2+hy1+hy2)) (iN a1 p1 b1 q1 a2 p2 b2 q2):=by
 have u:=bU x1 x1' x2 x2'
 have v:=bU y1 y1' y2 y2'
 have qq:=y1'.mul y2'
 have pp:=x1'.mul x2'
 exact(((u.mul u).mul (qq.mul qq)).mono (C':=4) (by omega) (by omega)).add (((v.mul v).mul (pp.mul pp)).mono (C':=4) (by omega) (by omega))
theorem bD(x1':Bd 1 hx1 p1)(y1':Bd 1 hy1 q1)(x2':Bd 1 hx2 p2)(y2':Bd 1 hy2 q2):Bd 1 (2*(hx1+hx2+hy1+hy2)) (iD p1 q1 p2 q2):=by
 have z:=(x1'.mul x2').mul (y1'.mul y2')
 exact(z.mul z).mono (by omega) (by omega)
theorem bT(x1:Bd 1 hx1 a1)(x1':Bd 1 hx1 p1)(y1:Bd 1 hy1 b1)(y1':Bd 1 hy1 q1)(x2:Bd 1 hx2 a2)(x2':Bd 1 hx2 p2)(y2:Bd 1 hy2 b2)(y2':Bd 1 hy2 q2)
  (s1:Bd 1 hs1 c1) (s1':Bd 1 hs1 r1) (s2:Bd 1 hs2 c2) (s2':Bd 1 hs2 r2):Bd 10 (2*(hx1+hx2+hy1+hy2)+hs1+hs2) (iT a1 p1 b1 q1 c1 r1 a2 p2 b2 q2 c2 r2):=by
 have n:=bN x1 x1' y1 y1' x2 x2' y2 y2'
 have d:=bD x1' y1' x2' y2'
 have s:=(s1.mul s2').sub ((s2.mul s1').mono (Nat.le_refl _) (by omega))
 exact((n.mul (s1'.mul s2')).mono (C':=8) (by omega) (by omega)).add ((s.mul d).mono (C':=2) (by omega) (by omega))
theorem bG(x1:Bd 1 hx1 a1)(x1':Bd 1 hx1 p1)(y1:Bd 1 hy1 b1)(y1':Bd 1 hy1 q1)(x3:Bd 1 hx3 a3)(x3':Bd 1 hx3 p3)(y3:Bd 1 hy3 b3)(y3':Bd 1 hy3 q3) :
  Bd 8 (2*(hx1+hx3+hy1+hy3)) (iG a1 p1 b1 q1 a3 p3 b3 q3):=by
 have u:=bE x1 x1' x3 x3'
 have v:=bE y1 y1' y3 y3'
 have qq:=y1'.mul y3'
 have pp:=x1'.mul x3'
 exact(((u.mul u).mul (qq.mul qq)).mono (C':=4) (by omega) (by omega)).add (((v.mul v).mul (pp.mul pp)).mono (C':=4) (by omega) (by omega))
theorem bH(x1:Bd 1 hx1 a1)(x1':Bd 1 hx1 p1)(y1:Bd 1 hy1 b1)(y1':Bd 1 hy1 q1)(x2:Bd 1 hx2 a2)(x2':Bd 1 hx2 p2)(y2:Bd 1 hy2 b2)(y2':Bd 1 hy2 q2)
  (x3:Bd 1 hx3 a3) (x3':Bd 1 hx3 p3) (y3:Bd 1 hy3 b3) (y3':Bd 1 hy3 q3):Bd 8 (2*hx1+hx2+hx3+2*hy1+hy2+hy3) (iH a1 p1 b1 q1 a2 p2 b2 q2 a3 p3 b3 q3):=by
 have u:=bU x1 x1' x2 x2'
 have v:=bU y1 y1' y2 y2'
 have e:=bE x1 x1' x3 x3'
 have f:=bE y1 y1' y3 y3'
 exact(((e.mul u).mul ((y1'.mul y1').mul (y2'.mul y3'))).mono (C':=4) (by omega) (by omega)).add (((f.mul v).mul ((x1'.mul x1').mul (x2'.mul x3'))).mono (C':=4) (by omega) (by omega))
theorem bSq(x1':Bd 1 hx1 p1)(y1':Bd 1 hy1 q1)(x3':Bd 1 hx3 p3)(y3':Bd 1 hy3 q3):Bd 1 (2*(hx1+hx3+hy1+hy3)) (iSq p1 q1 p3 q3):=by
 have z:=(x1'.mul y1').mul (x3'.mul y3')
 exact(z.mul z).mono (by omega) (by omega)
theorem bA(x1:Bd 1 hx1 a1)(x1':Bd 1 hx1 p1)(y1:Bd 1 hy1 b1)(y1':Bd 1 hy1 q1)(x2:Bd 1 hx2 a2)(x2':Bd 1 hx2 p2)(y2:Bd 1 hy2 b2)(y2':Bd 1 hy2 q2)
  (x3:Bd 1 hx3 a3) (x3':Bd 1 hx3 p3) (y3:Bd 1 hy3 b3) (y3':Bd 1 hy3 q3) (s1:Bd 1 hs1 c1) (s1':Bd 1 hs1 r1) (s2:Bd 1 hs2 c2) (s2':Bd 1 hs2 r2) (s3:Bd 1 hs3 c3) (s3':Bd 1 hs3 r3) :
  Bd 160 (4*hx1+3*hx2+2*hx3+4*hy1+3*hy2+2*hy3+hs1+hs2+hs3) (iA a1 p1 b1 q1 c1 r1 a2 p2 b2 q2 c2 r2 a3 p3 b3 q3 c3 r3):=by
 have g:=bG x1 x1' y1 y1' x3 x3' y3 y3'
 have n:=bN x1 x1' y1 y1' x2 x2' y2 y2'
 have t:=bT x1 x1' y1 y1' x2 x2' y2 y2' s1 s1' s2 s2'
 have h:=bH x1 x1' y1 y1' x2 x2' y2 y2' x3 x3' y3 y3'
 have sq:=bSq x1' y1' x3' y3'
 have k1:=(((g.mul n).mul ((s1'.mul s2').mul s3')).mul (x2'.mul y2')).mono (C':=64) (e':=4*hx1+3*hx2+2*hx3+4*hy1+3*hy2+2*hy3+hs1+hs2+hs3) (by omega) (by omega)
 have k2:=(((t.mul h).mul s3').mul (x3'.mul y3')).mono (C':=80) (e':=4*hx1+3*hx2+2*hx3+4*hy1+3*hy2+2*hy3+hs1+hs2+hs3) (by omega) (by omega)
 have k3:=((((s1.mul n).mul (s2'.mul s3')).mul sq).mul (x2'.mul y2')).mono (C':=8) (e':=4*hx1+3*hx2+2*hx3+4*hy1+3*hy2+2*hy3+hs1+hs2+hs3) (by omega) (by omega)
 have k4:=((((s3.mul n).mul (s1'.mul s2')).mul sq).mul (x2'.mul y2')).mono (C':=8) (e':=4*hx1+3*hx2+2*hx3+4*hy1+3*hy2+2*hy3+hs1+hs2+hs3) (by omega) (by omega)
 exact((k1.add k2).add k3).sub k4
theorem bM(x1:Bd 1 hx1 a1)(x1':Bd 1 hx1 p1)(y1:Bd 1 hy1 b1)(y1':Bd 1 hy1 q1)(x2:Bd 1 hx2 a2)(x2':Bd 1 hx2 p2)(y2:Bd 1 hy2 b2)(y2':Bd 1 hy2 q2)
  (wx1:Bd 1 vx1 p1) (wy1:Bd 1 vy1 q1) (wx2:Bd 1 vx2 p2) (wy2:Bd 1 vy2 q2) (wx3:Bd 1 vx3 p3) (wy3:Bd 1 vy3 q3) (ws1:Bd 1 vs1 r1) (ws2:Bd 1 vs2 r2) (ws3:Bd 1 vs3 r3) :
  Bd 8 (2*(hx1+hx2+hy1+hy2)+(vs1+vs2+vs3)+2*(vx1+vx3+vy1+vy3)+(vx2+vy2)) (iM a1 p1 b1 q1 r1 a2 p2 b2 q2 r2 p3 q3 r3):=by
 have n:=bN x1 x1' y1 y1' x2 x2' y2 y2'
 have sq:=bSq wx1 wy1 wx3 wy3
 exact(((n.mul ((ws1.mul ws2).mul ws3)).mul sq).mul (wx2.mul wy2)).mono (by omega) (by omega)
theorem bK(x1:Bd 1 hx1 a1)(x1':Bd 1 hx1 p1)(y1:Bd 1 hy1 b1)(y1':Bd 1 hy1 q1)(x2:Bd 1 hx2 a2)(x2':Bd 1 hx2 p2)(y2:Bd 1 hy2 b2)(y2':Bd 1 hy2 q2)
  (x3:Bd 1 hx3 a3) (x3':Bd 1 hx3 p3) (y3:Bd 1 hy3 b3) (y3':Bd 1 hy3 q3):Bd 16 (hx1+hx2+hx3+hy1+hy2+hy3) (iK a1 p1 b1 q1 a2 p2 b2 q2 a3 p3 b3 q3):=by
 have u:=bU x1 x1' x2 x2'
 have v:=bU y1 y1' y2 y2'
 have e:=bE x1 x1' x3 x3'
 have f:=bE y1 y1' y3 y3'
 have two:Bd 2 0 2:=by unfold Bd;decide
 have k1:=((f.mul u).mul (x3'.mul y2')).mono (C':=4) (e':=hx1+hx2+hx3+hy1+hy2+hy3) (by omega) (by omega)
 have k2:=((e.mul v).mul (y3'.mul x2')).mono (C':=4) (e':=hx1+hx2+hx3+hy1+hy2+hy3) (by omega) (by omega)
 exact(two.mul (k1.sub k2)).mono (by omega) (by omega)
theorem bQ(wx1:Bd 1 vx1 p1)(wy1:Bd 1 vy1 q1)(wx2:Bd 1 vx2 p2)(wy2:Bd 1 vy2 q2)(wx3:Bd 1 vx3 p3)(wy3:Bd 1 vy3 q3):Bd 1 (vx1+vx2+vx3+(vy1+vy2+vy3)) (iQ p1 q1 p2 q2 p3 q3):=
 (((wx1.mul wx2).mul wx3).mul ((wy1.mul wy2).mul wy3)).mono (by omega) (by omega)
theorem bCn(x1:Bd 1 hx1 a1)(x1':Bd 1 hx1 p1)(y1:Bd 1 hy1 b1)(y1':Bd 1 hy1 q1)(x2:Bd 1 hx2 a2)(x2':Bd 1 hx2 p2)(y2:Bd 1 hy2 b2)(y2':Bd 1 hy2 q2)
  (s1:Bd 1 hs1 c1) (s1':Bd 1 hs1 r1) (s2:Bd 1 hs2 c2) (s2':Bd 1 hs2 r2):Bd 132 (4*(hx1+hx2+hy1+hy2)+2*hs1+2*hs2) (iCn a1 p1 b1 q1 c1 r1 a2 p2 b2 q2 c2 r2):=by
 have n:=bN x1 x1' y1 y1' x2 x2' y2 y2'
 have d:=bD x1' y1' x2' y2'
 have t:=bT x1 x1' y1 y1' x2 x2' y2 y2' s1 s1' s2 s2'
 have four:Bd 4 0 4:=by unfold Bd;decide
 have k1:=(four.mul ((((s1.mul d).mul n).mul s1').mul (s2'.mul s2'))).mono (C':=32) (e':=4*(hx1+hx2+hy1+hy2)+2*hs1+2*hs2) (by omega) (by omega)
 have k2:=(t.mul t).mono (C':=100) (e':=4*(hx1+hx2+hy1+hy2)+2*hs1+2*hs2) (by omega) (by omega)
 exact k1.sub k2
theorem bCd(x1:Bd 1 hx1 a1)(x1':Bd 1 hx1 p1)(y1:Bd 1 hy1 b1)(y1':Bd 1 hy1 q1)(x2:Bd 1 hx2 a2)(x2':Bd 1 hx2 p2)(y2:Bd 1 hy2 b2)(y2':Bd 1 hy2 q2)
  (ws1:Bd 1 vs1 r1) (ws2:Bd 1 vs2 r2):Bd 256 (4*(hx1+hx2+hy1+hy2)+2*vs1+2*vs2) (iCd a1 p1 b1 q1 r1 a2 p2 b2 q2 r2):=by
 have n:=bN x1 x1' y1 y1' x2 x2' y2 y2'
 have four:Bd 4 0 4:=by unfold Bd;decide
 exact((four.mul (n.mul n)).mul ((ws1.mul ws2).mul (ws1.mul ws2))).mono (by omega) (by omega)
end
section
variable (a b d:DQ)
theorem qt7(q:Rat):(q.den:Rat)≠0:=by have:=q1H q;grind
theorem qrS(neg:Bool)(hf:(b.x-a.x)*(b.x-a.x)+(b.y-a.y)*(b.y-a.y)≠0) :
  kA d (qI a b neg)*((iM a.x.num a.x.den a.y.num a.y.den a.s.den b.x.num b.x.den b.y.num b.y.den b.s.den d.x.den d.y.den d.s.den:Int):Rat)=((iA a.x.num a.x.den a.y.num a.y.den a.s.num a.s.den b.x.num b.x.den b.y.num b.y.den b.s.num b.s.den d.x.num d.x.den d.y.num d.y.den d.s.num d.s.den:Int):Rat) ∧
  kB d (qI a b neg)*((iQ a.x.den a.y.den b.x.den b.y.den d.x.den d.y.den:Int):Rat)=(((if neg then -1 else 1)*iK a.x.num a.x.den a.y.num a.y.den b.x.num b.x.den b.y.num b.y.den d.x.num d.x.den d.y.num d.y.den:Int):Rat) ∧
  (qI a b neg).h*((iCd a.x.num a.x.den a.y.num a.y.den a.s.den b.x.num b.x.den b.y.num b.y.den b.s.den:Int):Rat)=((iCn a.x.num a.x.den a.y.num a.y.den a.s.num a.s.den b.x.num b.x.den b.y.num b.y.den b.s.num b.s.den:Int):Rat) ∧
  iN a.x.num a.x.den a.y.num a.y.den b.x.num b.x.den b.y.num b.y.den≠0:=by
 obtain⟨far,hfar⟩:∃far,far=(b.x-a.x)*(b.x-a.x)+(b.y-a.y)*(b.y-a.y):=⟨_,rfl⟩
 obtain⟨t,ht⟩:∃t,t=(far+a.s-b.s)/(2*far):=⟨_,rfl⟩
 obtain⟨h,hh⟩:∃h,h=a.s/far-t*t:=⟨_,rfl⟩
 rw[←hfar] at hf
 have h2f:2*far≠0:=by grind
 have ht':2*far*t=far+a.s-b.s:=by
  rw[ht,Rat.mul_comm];exact Rat.div_mul_cancel h2f
 have hh':far*h=a.s-far*(t*t):=by
  have:a.s/far*far=a.s:=Rat.div_mul_cancel hf
  rw[hh];grind
 have hc:qI a b neg=⟨a.x+t*(b.x-a.x),a.y+t*(b.y-a.y),if neg then b.y-a.y else 0-(b.y-a.y),if neg then 0-(b.x-a.x) else b.x-a.x,h⟩:=by
  rw[hh,ht,hfar];rfl
 rw[hc]
 have nx1:=qbq a.x
 have ny1:=qbq a.y
 have ns1:=qbq a.s
 have nx2:=qbq b.x
 have ny2:=qbq b.y
 have ns2:=qbq b.s
 have nx3:=qbq d.x
 have ny3:=qbq d.y
 have ns3:=qbq d.s
 have px1:=qt7 a.x
 have py1:=qt7 a.y
 have px2:=qt7 b.x
 have py2:=qt7 b.y
 obtain⟨x1,y1,s1⟩:=a
 obtain⟨x2,y2,s2⟩:=b
 obtain⟨x3,y3,s3⟩:=d
 simp only at *
 have hU:((iU x1.num x1.den x2.num x2.den:Int):Rat)=(x2-x1)*((x1.den:Rat)*x2.den):=by
  unfold iU;simp only[Rat.intCast_sub,Rat.intCast_mul,Rat.intCast_natCast,nx1,nx2];grind
 have hV:((iU y1.num y1.den y2.num y2.den:Int):Rat)=(y2-y1)*((y1.den:Rat)*y2.den):=by
  unfold iU;simp only[Rat.intCast_sub,Rat.intCast_mul,Rat.intCast_natCast,ny1,ny2];grind
 have hE:((iE x1.num x1.den x3.num x3.den:Int):Rat)=(x1-x3)*((x1.den:Rat)*x3.den):=by
  unfold iE;simp only[Rat.intCast_sub,Rat.intCast_mul,Rat.intCast_natCast,nx1,nx3];grind
 have hF:((iE y1.num y1.den y3.num y3.den:Int):Rat)=(y1-y3)*((y1.den:Rat)*y3.den):=by
  unfold iE;simp only[Rat.intCast_sub,Rat.intCast_mul,Rat.intCast_natCast,ny1,ny3];grind
 have hD:((iD x1.den y1.den x2.den y2.den:Int):Rat)=((x1.den:Rat)*x2.den*(y1.den*y2.den))*((x1.den:Rat)*x2.den*(y1.den*y2.den)):=by
  unfold iD;simp only[Rat.intCast_mul,Rat.intCast_natCast]
 have hN:((iN x1.num x1.den y1.num y1.den x2.num x2.den y2.num y2.den:Int):Rat)=far*(((x1.den:Rat)*x2.den*(y1.den*y2.den))*((x1.den:Rat)*x2.den*(y1.den*y2.den))):=by
  unfold iN;simp only[Rat.intCast_add,Rat.intCast_mul,Rat.intCast_natCast,hU,hV,hfar];grind
 have hN0:iN x1.num x1.den y1.num y1.den x2.num x2.den y2.num y2.den≠0:=by
  intro e
  rw[e] at hN
  have h1:(x1.den:Rat)*x2.den*(y1.den*y2.den)≠0:=by
   have:=Rat.mul_pos (Rat.mul_pos (q1H x1) (q1H x2)) (Rat.mul_pos (q1H y1) (q1H y2))
   grind
  have h2:far*(((x1.den:Rat)*x2.den*(y1.den*y2.den))*((x1.den:Rat)*x2.den*(y1.den*y2.den)))=0:=by rw[←hN];simp
  rcases Rat.mul_eq_zero.1 h2 with h3|h3
  ·exact hf h3
  ·rcases Rat.mul_eq_zero.1 h3 with h4|h4<;>exact h1 h4
 have hT:((iT x1.num x1.den y1.num y1.den s1.num s1.den x2.num x2.den y2.num y2.den s2.num s2.den:Int):Rat)=2*t*far*(((x1.den:Rat)*x2.den*(y1.den*y2.den))*((x1.den:Rat)*x2.den*(y1.den*y2.den)))*((s1.den:Rat)*s2.den):=by
  unfold iT;simp only[Rat.intCast_add,Rat.intCast_sub,Rat.intCast_mul,Rat.intCast_natCast,hN,hD,ns1,ns2]
  generalize ((x1.den:Rat)*x2.den*(y1.den*y2.den))*((x1.den:Rat)*x2.den*(y1.den*y2.den))=D2
  have:2*t*far*D2*((s1.den:Rat)*s2.den)=(2*far*t)*(D2*((s1.den:Rat)*s2.den)):=by grind
  rw[this,ht'];grind
 have hG:((iG x1.num x1.den y1.num y1.den x3.num x3.den y3.num y3.den:Int):Rat)=((x1-x3)*(x1-x3)+(y1-y3)*(y1-y3))*(((x1.den:Rat)*y1.den*(x3.den*y3.den))*((x1.den:Rat)*y1.den*(x3.den*y3.den))):=by
  unfold iG;simp only[Rat.intCast_add,Rat.intCast_mul,Rat.intCast_natCast,hE,hF];grind
 have hH:((iH x1.num x1.den y1.num y1.den x2.num x2.den y2.num y2.den x3.num x3.den y3.num y3.den:Int):Rat)=((x1-x3)*(x2-x1)+(y1-y3)*(y2-y1))*(((x1.den:Rat)*x1.den*(x2.den*x3.den))*((y1.den:Rat)*y1.den*(y2.den*y3.den))):=by
  unfold iH;simp only[Rat.intCast_add,Rat.intCast_mul,Rat.intCast_natCast,hE,hF,hU,hV];grind
 have hSq:((iSq x1.den y1.den x3.den y3.den:Int):Rat)=((x1.den:Rat)*y1.den*(x3.den*y3.den))*((x1.den:Rat)*y1.den*(x3.den*y3.den)):=by
  unfold iSq;simp only[Rat.intCast_mul,Rat.intCast_natCast]
 refine⟨?_,?_,?_,hN0⟩
 ·unfold iM iA
  simp only[Rat.intCast_add,Rat.intCast_sub,Rat.intCast_mul,Rat.intCast_natCast,hN,hT,hG,hH,hSq,ns1,ns3]
  have hA:kA ⟨x3,y3,s3⟩ ⟨x1+t*(x2-x1),y1+t*(y2-y1),if neg then y2-y1 else 0-(y2-y1),if neg then 0-(x2-x1) else x2-x1,h⟩=(x1-x3)*(x1-x3)+(y1-y3)*(y1-y3)+2*t*((x1-x3)*(x2-x1)+(y1-y3)*(y2-y1))+s1-s3:=by
   have e1:kA ⟨x3,y3,s3⟩ ⟨x1+t*(x2-x1),y1+t*(y2-y1),if neg then y2-y1 else 0-(y2-y1),if neg then 0-(x2-x1) else x2-x1,h⟩=(x1-x3)*(x1-x3)+(y1-y3)*(y1-y3)+2*t*((x1-x3)*(x2-x1)+(y1-y3)*(y2-y1))+far*(t*t)+far*h-s3:=by
    unfold kA
    rw[hfar]
    cases neg
    ·simp only[Bool.false_eq_true,if_false];grind
    ·simp only[if_true];grind
   rw[e1,hh'];grind
  rw[hA]
  generalize (x1-x3)*(x1-x3)+(y1-y3)*(y1-y3)=e2
  generalize (x1-x3)*(x2-x1)+(y1-y3)*(y2-y1)=ed
  generalize (x1.den:Rat)=P1
  generalize (x2.den:Rat)=P2
  generalize (x3.den:Rat)=P3
  generalize (y1.den:Rat)=Q1
  generalize (y2.den:Rat)=Q2
  generalize (y3.den:Rat)=Q3
  generalize (s1.den:Rat)=R1
  generalize (s2.den:Rat)=R2
  generalize (s3.den:Rat)=R3
  clear hU hV hE hF hD hN hN0 hT hG hH hSq nx1 nx2 nx3 ny1 ny2 ny3 ns1 ns2 ns3 px1 px2 py1 py2 hf h2f ht' hh' hc hfar
  grind
 ·unfold iQ iK kB
  simp only[Rat.intCast_sub,Rat.intCast_mul,Rat.intCast_natCast,hE,hF,hU,hV]
  cases neg
  ·simp only[Bool.false_eq_true,if_false]
   simp
   grind
  ·simp only[if_true]
   simp
   grind
 ·unfold iCd iCn
  simp only[Rat.intCast_sub,Rat.intCast_mul,Rat.intCast_natCast,hN,hT,hD,ns1]
  generalize ((x1.den:Rat)*x2.den*(y1.den*y2.den))*((x1.den:Rat)*x2.den*(y1.den*y2.den))=D2
  generalize (s1.den:Rat)=R1
  generalize (s2.den:Rat)=R2
  have e:s1=far*h+far*(t*t):=by rw[hh'];grind
  have f4:((4:Int):Rat)=4:=by simp
  rw[f4,e]
  clear hU hV hE hF hD hN hN0 hT hG hH hSq nx1 nx2 nx3 ny1 ny2 ny3 ns1 ns2 ns3 px1 px2 py1 py2 hf h2f ht' hh' hc hfar
  grind
end
end Go.Eng

namespace Go.Eng
theorem qkV{a b c:Rat}(hc:0≤c):qbQ a b c≤0↔(a≤0∧(b≤0∨c=0∨b*b*c≤a*a))∨(0<a∧b<0∧a*a≤b*b*c):=by
 have hs:=qf3 (a*a-b*b*c)
 have hs':(0≤sgq (a*a-b*b*c))=(b*b*c≤a*a):=by
  have h1:=qvS (a*a-b*b*c)
  have h2:=qf3 (-(a*a-b*b*c))
  refine propext ⟨fun h=>?_,fun h=>?_⟩
  ·have:=h2▸(show sgq (-(a*a-b*b*c))≤0 by omega);grind
  ·have:sgq (-(a*a-b*b*c))≤0:=h2▸(show -(a*a-b*b*c)≤0 by grind)
   omega
 have bd:=qeA (a*a-b*b*c)
 have pb:0<b→0<c→0<b*b*c:=fun h1 h2=>Rat.mul_pos (Rat.mul_pos h1 h1) h2
 have pa:0<a→0<a*a:=fun h1=>Rat.mul_pos h1 h1
 have za:a=0→a*a=0:=fun h=>by rw[h];grind
 have zc:c=0→b*b*c=0:=fun h=>by rw[h];grind
 unfold qbQ
 generalize hz:sgq (a*a-b*b*c)=z at *
 rcases q9l a with⟨ha,ea⟩|⟨ha,ea⟩|⟨ha,ea⟩<;>rcases q9l b with⟨hb,eb⟩|⟨hb,eb⟩|⟨hb,eb⟩<;>rcases q9l c with⟨hc',ec⟩|⟨hc',ec⟩|⟨hc',ec⟩<;>rw[ea,eb,ec]
 all_goals try (exfalso;grind)
 all_goals simp only[
  
  
  show (-1:Int)*0=0 by decide,show (-1:Int)*1=-1 by decide,show (0:Int)*0=0 by decide,show (0:Int)*1=0 by decide,show (1:Int)*0=0 by decide,show (1:Int)*1=1 by decide,Int.one_mul]
 all_goals simp
 all_goals first|(exfalso;grind)|skip
 all_goals grind
theorem qoU{a b:Rat}(h0:0≤a)(h:a≤b):a*a≤b*b:=by
 have:=Rat.mul_nonneg (show 0≤b-a by grind) (show 0≤b+a by grind)
 grind
theorem qtC{a b:Rat}(hb:0≤b)(h:a*a≤b*b):a≤b:=by
 apply Rat.not_lt.1
 intro hn
 have:=Rat.mul_pos (show 0<a-b by grind) (show 0<a+b by grind)
 grind
theorem quA{a b c T0 T1:Rat}(h0:0≤T0)(h1:T0≤T1)(k0:T0*T0≤c)(k1:c≤T1*T1)(e0:a+b*T0≤0)(e1:a+b*T1≤0):qbQ a b c≤0:=by
 have hc:0≤c:=by have:=Rat.mul_nonneg h0 h0;grind
 rw[qkV hc]
 by_cases hb:b≤0
 ·by_cases ha:a≤0
  ·exact .inl ⟨ha,.inl hb⟩
  ·have hb':b<0:=by
    apply Rat.not_le.1;intro hn
    have h:b=0:=by grind
    rw[h] at e0;grind
   refine .inr ⟨by grind,hb',?_⟩
   have h1:=qoU (a:=a) (b:=(-b)*T0) (by grind) (by grind)
   have h2:=Rat.mul_le_mul_of_nonneg_left k0 (show 0≤b*b by have:=Rat.mul_nonneg (show 0≤-b by grind) (show 0≤-b by grind);grind)
   grind
 ·have hb':0≤b:=by grind
  have h3:=Rat.mul_nonneg hb' h0
  refine .inl ⟨by grind,.inr (.inr ?_)⟩
  have h3:=Rat.mul_nonneg hb' (show 0≤T1 by grind)
  have h1:=qoU (a:=b*T1) (b:=-a) h3 (by grind)
  have h2:=Rat.mul_le_mul_of_nonneg_left k1 (Rat.mul_nonneg hb' hb')
  grind
theorem qqB{a b c:Rat}(hc:0≤c)(h:qbQ a b c≤0):∃T,0≤T∧T*T≤c∧∀S,T≤S→S*S≤c→a+b*S≤0:=by
 rw[qkV hc] at h
 by_cases hb:b<0
 ·by_cases ha:a≤0
  ·refine⟨0,by grind,by grind,fun S h1 h2=>?_⟩
   have:=Rat.mul_nonneg (show 0≤-b by grind) h1
   grind
  ·rcases h with h|⟨h1,h2,h3⟩
   ·exact absurd h.1 ha
   ·have hq:a/(-b)*(-b)=a:=Rat.div_mul_cancel (by grind)
    have hq0:0≤a/(-b):=by
     apply Rat.not_lt.1;intro hn
     have:=Rat.mul_pos (show 0 < -(a/(-b)) by grind) (show 0 < -b by grind)
     grind
    generalize a/(-b)=T at *
    refine⟨T,hq0,?_,fun S hS _=>?_⟩
    ·apply Rat.not_lt.1;intro hn
     have:=Rat.mul_pos (show 0<T*T-c by grind) (Rat.mul_pos (show 0 < -b by grind) (show 0 < -b by grind))
     have e:a*a=T*T*(b*b):=by rw[←hq];grind
     rw[e] at h3;clear e hq;grind
    ·have:=Rat.mul_nonneg (show 0≤-b by grind) (show 0≤S-T by grind)
     grind
 ·refine⟨0,by grind,by grind,fun S h1 h2=>?_⟩
  rcases h with⟨h3,h4⟩|⟨_,h5,_⟩
  ·rcases h4 with h4|h4|h4
   ·have:b=0:=by grind
    rw[this];grind
   ·have:S*S≤0:=by grind
    have h6:=qtC (a:=S) (b:=0) (by grind) (by grind)
    have:S=0:=by grind
    rw[this];grind
   ·have k1:=Rat.mul_le_mul_of_nonneg_left h2 (Rat.mul_nonneg (show 0≤b by grind) (show 0≤b by grind))
    have:=qtC (a:=b*S) (b:=-a) (by grind) (by grind)
    grind
  ·exact absurd h5 hb
def pw(d:DQ)(x y:Rat):Rat:=(x-d.x)*(x-d.x)+(y-d.y)*(y-d.y)-d.s
def qx1(l:List DQ):Prop:=∃x y:Rat,∀d∈l,pw d x y≤0
theorem qx1.mono{l l':List DQ}(h:qx1 l)(hs:∀d∈l',d∈l):qx1 l':=by
 obtain⟨x,y,h⟩:=h
 exact⟨x,y,fun d hd=>h d (hs d hd)⟩
theorem qvx(d:DQ)(p:SQ)(T:Rat):pw d (p.fx+T*p.ax) (p.fy+T*p.ay)=kA d p+kB d p*T+(p.ax*p.ax+p.ay*p.ay)*(T*T-p.h):=by
 unfold pw kA kB;grind
theorem qfe(a:Rat):0≤a*a:=by
 rcases Rat.le_total (a:=0) (b:=a) with h|h
 ·exact Rat.mul_nonneg h h
 ·have:=Rat.mul_nonneg (show 0≤-a by grind) (show 0≤-a by grind);grind
theorem qnX(p:SQ)(hn:0≤p.h):∀l:List DQ,(∀d∈l,q1s d p)→∃T,0≤T∧T*T≤p.h∧∀d∈l,∀S,T≤S→S*S≤p.h→kA d p+kB d p*S≤0
 | [],_=>⟨0,by grind,by grind,fun d hd=>by cases hd⟩
 | a::l,h=>by
  obtain⟨T,h1,h2,h3⟩:=qnX p hn l fun d hd=>h d (List.mem_cons_of_mem _ hd)
  obtain⟨T',k1,k2,k3⟩:=qqB hn (h a List.mem_cons_self)
  rcases Rat.le_total (a:=T) (b:=T') with hT|hT
  ·refine⟨T',k1,k2,fun d hd S hS hS2=>?_⟩
   rcases List.mem_cons.1 hd with rfl|hd
   ·exact k3 S hS hS2
   ·exact h3 d hd S (Rat.le_trans hT hS) hS2
  ·refine⟨T,h1,h2,fun d hd S hS hS2=>?_⟩
   rcases List.mem_cons.1 hd with rfl|hd
   ·exact k3 S (Rat.le_trans hT hS) hS2
   ·exact h3 d hd S hS hS2
theorem qpC{l:List DQ}{p:SQ}(hn:0≤p.h)(h:∀d∈l,q1s d p):qx1 l:=by
 obtain⟨T,h1,h2,h3⟩:=qnX p hn l h
 refine⟨p.fx+T*p.ax,p.fy+T*p.ay,fun d hd=>?_⟩
 rw[qvx]
 have k1:=h3 d hd T (Rat.le_refl) h2
 have k2:=Rat.mul_nonneg (show 0≤p.ax*p.ax+p.ay*p.ay by have:=qfe p.ax;have:=qfe p.ay;grind) (show 0≤p.h-T*T by grind)
 grind
def qAL(x1 y1 x2 y2 x3 y3:Rat):Rat:=(x2-x1)*(y3-y1)-(x3-x1)*(y2-y1)
end Go.Eng

namespace Go.Eng
theorem qql{ι:Type}(f:ι→Rat):∀(L:List ι),L≠[]→∃a∈L,∀k∈L,f k≤f a
 | [],h=>absurd rfl h
 | [a],_=>⟨a,by simp,fun k hk=>by simp at hk;rw[hk];exact Rat.le_refl⟩
 | a::b::r,_=>by
  obtain⟨m,hm,h⟩:=qql f (b::r) (by simp)
  rcases Rat.le_total (a:=f a) (b:=f m) with hle|hle
  ·refine⟨m,List.mem_cons_of_mem _ hm,fun k hk=>?_⟩
   rcases List.mem_cons.1 hk with rfl|hk
   ·exact hle
   ·exact h k hk
  ·refine⟨a,List.mem_cons_self,fun k hk=>?_⟩
   rcases List.mem_cons.1 hk with rfl|hk
   ·exact Rat.le_refl
   ·exact Rat.le_trans (h k hk) hle
theorem hit{ι:Type}(al be:ι→Rat):∀(L:List ι),(∀k∈L,al k≤0)→(∃k∈L,0<be k)→∃t,0≤t∧(∀k∈L,al k+be k*t≤0)∧∃b∈L,0<be b∧al b+be b*t=0
 | [],_,h=>by obtain⟨k,hk,_⟩:=h;cases hk
 | a::L,h0,h1=>by
  have hLn:∀k∈L,al k≤0:=fun k hk=>h0 k (List.mem_cons_of_mem _ hk)
  have ha0:=h0 a List.mem_cons_self
  by_cases ha:0<be a
  ·obtain⟨ta,hta⟩:∃ta,ta=-al a/be a:=⟨_,rfl⟩
   have eta:ta*be a=-al a:=by rw[hta];exact Rat.div_mul_cancel (by grind)
   have ta0:0≤ta:=by
    apply Rat.not_lt.1;intro hn
    have:=Rat.mul_pos (show 0 < -ta by grind) ha
    grind
   have own:al a+be a*ta=0:=by grind
   by_cases hL:∃k∈L,0<be k
   ·obtain⟨t,k1,k2,b,hb,k3,k4⟩:=hit al be L hLn hL
    rcases Rat.le_total (a:=t) (b:=ta) with hle|hle
    ·refine⟨t,k1,fun k hk=>?_,b,List.mem_cons_of_mem _ hb,k3,k4⟩
     rcases List.mem_cons.1 hk with rfl|hk
     ·have:=Rat.mul_nonneg (show 0≤be k by grind) (show 0≤ta-t by grind);grind
     ·exact k2 k hk
    ·refine⟨ta,ta0,fun k hk=>?_,a,List.mem_cons_self,ha,own⟩
     rcases List.mem_cons.1 hk with rfl|hk
     ·grind
     ·rcases Rat.le_total (a:=0) (b:=be k) with hb|hb
      ·have:=Rat.mul_nonneg hb (show 0≤t-ta by grind);have:=k2 k hk;grind
      ·have:=Rat.mul_nonneg (show 0≤-be k by grind) ta0;have:=hLn k hk;grind
   ·refine⟨ta,ta0,fun k hk=>?_,a,List.mem_cons_self,ha,own⟩
    rcases List.mem_cons.1 hk with rfl|hk
    ·grind
    ·have hb:be k≤0:=Rat.not_lt.1 fun hn=>hL ⟨k,hk,hn⟩
     have:=Rat.mul_nonneg (show 0≤-be k by grind) ta0;have:=hLn k hk;grind
  ·have hL:∃k∈L,0<be k:=by
    obtain⟨k,hk,h⟩:=h1
    rcases List.mem_cons.1 hk with rfl|hk
    ·exact absurd h ha
    ·exact⟨k,hk,h⟩
   obtain⟨t,k1,k2,b,hb,k3,k4⟩:=hit al be L hLn hL
   refine⟨t,k1,fun k hk=>?_,b,List.mem_cons_of_mem _ hb,k3,k4⟩
   rcases List.mem_cons.1 hk with rfl|hk
   ·have:=Rat.mul_nonneg (show 0≤-be k by grind) k1;grind
   ·exact k2 k hk
theorem qpq{a:Rat}(h:a*a≤0):a=0:=by
 have:=qfe a
 rcases Rat.mul_eq_zero.1 (show a*a=0 by grind) with h|h<;>exact h
theorem qhd{a b c d:Rat}(h:q29 a b c d=0):a=c∧b=d:=by
 unfold q29 at h
 have s1:=qfe (a-c)
 have s2:=qfe (b-d)
 have:=qpq (a:=a-c) (by grind)
 have:=qpq (a:=b-d) (by grind)
 exact⟨by grind,by grind⟩
theorem qto(a b c d:Rat):0≤q29 a b c d:=by
 unfold q29
 have s1:=qfe (a-c)
 have s2:=qfe (b-d)
 grind
theorem qz9{l:List DQ}{x y:Rat}(hl:l≠[])(hs:∀d∈l,0≤d.s)(h:∀d∈l,pw d x y≤0) :
  (∃a∈l,∀d∈l,pw d a.x a.y≤0)∨∃a∈l,∃b∈l,∃X Y,q29 b.x b.y a.x a.y≠0∧pw b X Y=pw a X Y∧(∀d∈l,pw d X Y≤pw a X Y)∧pw a X Y≤0:=by
 obtain⟨a,ha,hmax⟩:=qql (fun d=>pw d x y) l hl
 by_cases hc:∀d∈l,pw d a.x a.y≤0
 ·exact .inl ⟨a,ha,hc⟩
 ·have hex:∃k∈l,0<pw k a.x a.y:=by
   by_cases hn:∃k∈l,0<pw k a.x a.y
   ·exact hn
   ·exact absurd (fun d hd=>Rat.not_lt.1 fun h0=>hn ⟨d,hd,h0⟩) hc
  obtain⟨k0,hk0,hp⟩:=hex
  have hsa:=hs a ha
  have paa:pw a a.x a.y=-a.s:=by unfold pw;grind
  obtain⟨al,hal⟩:∃al:DQ→Rat,al=fun k=>pw k x y-pw a x y:=⟨_,rfl⟩
  obtain⟨be,hbe⟩:∃be:DQ→Rat,be=fun k=>pw k a.x a.y-pw a a.x a.y-(pw k x y-pw a x y):=⟨_,rfl⟩
  have al0:∀k∈l,al k≤0:=fun k hk=>by rw[hal];have:=hmax k hk;simp only at this ⊢;grind
  have be0:al k0+be k0>0:=by rw[hal,hbe];simp only;grind
  obtain⟨t,t0,ht,b,hb,hb1,hb2⟩:=hit al be l al0 ⟨k0,hk0,by have:=al0 k0 hk0;grind⟩
  have line:∀k,pw k (x+t*(a.x-x)) (y+t*(a.y-y))-pw a (x+t*(a.x-x)) (y+t*(a.y-y))=al k+be k*t:=fun k=>by
   rw[hal,hbe];simp only;unfold pw;grind
  have t1:t≤1:=by
   apply Rat.not_lt.1;intro hn
   have h1:=ht k0 hk0
   have h2:=al0 k0 hk0
   have:=Rat.mul_pos (show 0<be k0 by grind) (show 0<t-1 by grind)
   grind
  refine .inr ⟨a,ha,b,hb,x+t*(a.x-x),y+t*(a.y-y),fun hf=>?_,?_,fun d hd=>?_,?_⟩
  ·obtain⟨e1,e2⟩:=qhd hf
   have:be b=0:=by rw[hbe];simp only;unfold pw;rw[e1,e2];grind
   grind
  ·have:=line b;grind
  ·have:=line d;have:=ht d hd;grind
  ·have h1:=h a ha
   have e:pw a (x+t*(a.x-x)) (y+t*(a.y-y))=(1-t)*(1-t)*((x-a.x)*(x-a.x)+(y-a.y)*(y-a.y))-a.s:=by unfold pw;grind
   have q:0≤(x-a.x)*(x-a.x)+(y-a.y)*(y-a.y):=by have:=qfe (x-a.x);have:=qfe (y-a.y);grind
   have m:=qoU (a:=1-t) (b:=1) (by grind) (by grind)
   have:=Rat.mul_nonneg (show 0≤1-(1-t)*(1-t) by grind) q
   rw[e]
   have:pw a x y=(x-a.x)*(x-a.x)+(y-a.y)*(y-a.y)-a.s:=rfl
   grind
theorem qmO{a b:DQ}(neg:Bool)(hf:q29 b.x b.y a.x a.y≠0) :
  (qI a b neg).ax*(qI a b neg).ax+(qI a b neg).ay*(qI a b neg).ay=q29 b.x b.y a.x a.y ∧
  (qI a b neg).ax*(b.x-a.x)+(qI a b neg).ay*(b.y-a.y)=0 ∧
  (qI a b neg).ax*((qI a b neg).fx-a.x)+(qI a b neg).ay*((qI a b neg).fy-a.y)=0 ∧
  2*(((qI a b neg).fx-a.x)*(b.x-a.x)+((qI a b neg).fy-a.y)*(b.y-a.y))=q29 b.x b.y a.x a.y+a.s-b.s ∧
  kA a (qI a b neg)=0∧kB a (qI a b neg)=0∧kA b (qI a b neg)=0∧kB b (qI a b neg)=0:=by
 obtain⟨far,hfar⟩:∃far,far=q29 b.x b.y a.x a.y:=⟨_,rfl⟩
 obtain⟨t,ht⟩:∃t,t=(far+a.s-b.s)/(2*far):=⟨_,rfl⟩
 obtain⟨h,hh⟩:∃h,h=a.s/far-t*t:=⟨_,rfl⟩
 rw[←hfar] at hf
 have h2f:2*far≠0:=by grind
 have ht':2*far*t=far+a.s-b.s:=by
  rw[ht,Rat.mul_comm];exact Rat.div_mul_cancel h2f
 have hh':far*h=a.s-far*(t*t):=by
  have:a.s/far*far=a.s:=Rat.div_mul_cancel hf
  rw[hh];grind
 have hc:qI a b neg=⟨a.x+t*(b.x-a.x),a.y+t*(b.y-a.y),if neg then b.y-a.y else 0-(b.y-a.y),if neg then 0-(b.x-a.x) else b.x-a.x,h⟩:=by
  rw[hh,ht,hfar];rfl
 have hfar':far=(b.x-a.x)*(b.x-a.x)+(b.y-a.y)*(b.y-a.y):=hfar
 rw[hc,←hfar]
 unfold kA kB
 clear hc hfar ht hh
 cases neg
 ·simp only[Bool.false_eq_true,if_false]
  refine⟨by grind,by grind,by grind,by grind,by grind,by grind,by grind,by grind⟩
 ·simp only[if_true]
  refine⟨by grind,by grind,by grind,by grind,by grind,by grind,by grind,by grind⟩
theorem quG(a b:DQ):(qI a b true).ax=-(qI a b false).ax∧(qI a b true).ay=-(qI a b false).ay:=by
 unfold qI
 simp only[Bool.false_eq_true,if_false,if_true]
 exact⟨by grind,by grind⟩
theorem qqV{l:List DQ}{a b:DQ}{x y:Rat}(neg:Bool)(hf:q29 b.x b.y a.x a.y≠0)(hab:pw b x y=pw a x y)(hm:∀d∈l,pw d x y≤pw a x y)(h0:pw a x y≤0)
  (hv:0≤(qI a b neg).ax*(x-a.x)+(qI a b neg).ay*(y-a.y)) :
  (0≤(qI a b neg).h∧∀d∈l,q1s d (qI a b neg)) ∨
  ∃t k,0≤t∧k∈l∧(qI a b neg).ax*(k.x-a.x)+(qI a b neg).ay*(k.y-a.y)<0∧pw k (x+t*(qI a b neg).ax) (y+t*(qI a b neg).ay)=pw a (x+t*(qI a b neg).ax) (y+t*(qI a b neg).ay) ∧
   pw b (x+t*(qI a b neg).ax) (y+t*(qI a b neg).ay)=pw a (x+t*(qI a b neg).ax) (y+t*(qI a b neg).ay)∧(∀d∈l,pw d (x+t*(qI a b neg).ax) (y+t*(qI a b neg).ay)≤pw a (x+t*(qI a b neg).ax) (y+t*(qI a b neg).ay)) ∧
   pw a (x+t*(qI a b neg).ax) (y+t*(qI a b neg).ay)≤0:=by
 obtain⟨f1,f2,f3,f4,f5,f6,f7,f8⟩:=qmO neg hf
 have hpos:0<q29 b.x b.y a.x a.y:=by have:=qto b.x b.y a.x a.y;grind
 have hfd:q29 b.x b.y a.x a.y=(b.x-a.x)*(b.x-a.x)+(b.y-a.y)*(b.y-a.y):=rfl
 have hax:(qI a b neg).ax=if neg then b.y-a.y else 0-(b.y-a.y):=rfl
 have hay:(qI a b neg).ay=if neg then 0-(b.x-a.x) else b.x-a.x:=rfl
 generalize qI a b neg=p at *
 generalize q29 b.x b.y a.x a.y=far at *
 obtain⟨T0,hT0⟩:∃T0,T0=(p.ax*(x-p.fx)+p.ay*(y-p.fy))/far:=⟨_,rfl⟩
 have eT0:T0*far=p.ax*(x-p.fx)+p.ay*(y-p.fy):=by rw[hT0];exact Rat.div_mul_cancel hf
 have hp:(x-p.fx)*(b.x-a.x)+(y-p.fy)*(b.y-a.y)=0:=by
  unfold pw at hab;grind
 have cancel:∀z:Rat,z*far=0→z=0:=fun z hz=>by
  rcases Rat.mul_eq_zero.1 hz with h|h
  ·exact h
  ·exact absurd h hf
 have ex:x=p.fx+T0*p.ax:=by
  have:x-p.fx-T0*p.ax=0:=cancel _ (by
   have e:(x-p.fx-T0*p.ax)*far=(x-p.fx)*far-p.ax*(T0*far):=by grind
   rw[e,eT0,hfd]
   cases neg
   ·simp only[Bool.false_eq_true,if_false] at hax hay;rw[hax,hay];clear hax hay eT0 hT0 f1 f2 f3 f4 f5 f6 f7 f8 hv hab;grind
   ·simp only[if_true] at hax hay;rw[hax,hay];clear hax hay eT0 hT0 f1 f2 f3 f4 f5 f6 f7 f8 hv hab;grind)
  grind
 have ey:y=p.fy+T0*p.ay:=by
  have:y-p.fy-T0*p.ay=0:=cancel _ (by
   have e:(y-p.fy-T0*p.ay)*far=(y-p.fy)*far-p.ay*(T0*far):=by grind
   rw[e,eT0,hfd]
   cases neg
   ·simp only[Bool.false_eq_true,if_false] at hax hay;rw[hax,hay];clear hax hay eT0 hT0 f1 f2 f3 f4 f5 f6 f7 f8 hv hab ex;grind
   ·simp only[if_true] at hax hay;rw[hax,hay];clear hax hay eT0 hT0 f1 f2 f3 f4 f5 f6 f7 f8 hv hab ex;grind)
  grind
 have T0n:0≤T0:=by
  apply Rat.not_lt.1;intro hn
  have:=Rat.mul_pos (show 0 < -T0 by grind) hpos
  grind
 have line:∀d T,pw d (p.fx+T*p.ax) (p.fy+T*p.ay)=kA d p+kB d p*T+far*(T*T-p.h):=fun d T=>by rw[qvx,f1]
 have lineA:∀T,pw a (p.fx+T*p.ax) (p.fy+T*p.ay)=far*(T*T-p.h):=fun T=>by rw[line,f5,f6];grind
 have lineB:∀T,pw b (p.fx+T*p.ax) (p.fy+T*p.ay)=far*(T*T-p.h):=fun T=>by rw[line,f7,f8];grind
 have at0:∀d∈l,kA d p+kB d p*T0≤0:=fun d hd=>by
  have:=hm d hd
  rw[ex,ey,line,lineA] at this
  grind
 have hT:T0*T0≤p.h:=by
  rw[ex,ey,lineA] at h0
  apply Rat.not_lt.1;intro hn
  have:=Rat.mul_pos hpos (show 0<T0*T0-p.h by grind)
  grind
 have hn:0≤p.h:=by have:=qfe T0;grind
 have kb:∀d:DQ,kB d p=-(2*(p.ax*(d.x-a.x)+p.ay*(d.y-a.y))):=fun d=>by unfold kB;grind
 have all:∀T1,T0≤T1→p.h≤T1*T1→(∀d∈l,kA d p+kB d p*T1≤0)→0≤p.h∧∀d∈l,q1s d p:=fun T1 h1 h2 h3=>
  ⟨hn,fun d hd=>quA T0n h1 hT h2 (at0 d hd) (h3 d hd)⟩
 by_cases hk:∃k∈l,0<kB k p
 ·obtain⟨t,t0,ht,k,hk,hk1,hk2⟩:=hit (fun d=>kA d p+kB d p*T0) (fun d=>kB d p) l at0 hk
  by_cases hle:(T0+t)*(T0+t)≤p.h
  ·have eX:x+t*p.ax=p.fx+(T0+t)*p.ax:=by grind
   have eY:y+t*p.ay=p.fy+(T0+t)*p.ay:=by grind
   refine .inr ⟨t,k,t0,hk,?_,?_,?_,fun d hd=>?_,?_⟩
   ·rw[kb] at hk1;grind
   ·rw[eX,eY,line,lineA];grind
   ·rw[eX,eY,lineA,lineB]
   ·rw[eX,eY,line,lineA];have:=ht d hd;grind
   ·rw[eX,eY,lineA]
    have:=Rat.mul_nonneg (show 0≤far by grind) (show 0≤p.h-(T0+t)*(T0+t) by grind);grind
  ·exact .inl (all (T0+t) (by grind) (by grind) fun d hd=>by have:=ht d hd;grind)
 ·refine .inl (all (T0+p.h+1) (by grind) ?_ fun d hd=>?_)
  ·have:=qoU (a:=p.h+1) (b:=T0+p.h+1) (by grind) (by grind)
   have:=Rat.mul_nonneg hn hn
   grind
  ·have h1:kB d p≤0:=Rat.not_lt.1 fun h=>hk ⟨d,hd,h⟩
   have:=Rat.mul_nonneg (show 0≤-kB d p by grind) (show 0≤p.h+1 by grind)
   have:=at0 d hd
   grind
def Vx(l:List DQ)(x y:Rat)(t:DQ×DQ×DQ):Prop:=
 qAL t.1.x t.1.y t.2.1.x t.2.1.y t.2.2.x t.2.2.y≠0∧pw t.2.1 x y=pw t.1 x y∧pw t.2.2 x y=pw t.1 x y∧(∀d∈l,pw d x y≤pw t.1 x y)∧pw t.1 x y≤0
theorem qyE{l:List DQ}{x y x' y':Rat}{t:DQ×DQ×DQ}(h:Vx l x y t)(h':Vx l x' y' t):x=x'∧y=y':=by
 obtain⟨a,b,c⟩:=t
 obtain⟨hA,h1,h2,-,-⟩:=h
 obtain⟨-,h1',h2',-,-⟩:=h'
 unfold pw qAL at *
 simp only at *
 have e1:(x-x')*(b.x-a.x)+(y-y')*(b.y-a.y)=0:=by grind
 have e2:(x-x')*(c.x-a.x)+(y-y')*(c.y-a.y)=0:=by grind
 generalize b.x-a.x=p at *
 generalize b.y-a.y=q at *
 generalize c.x-a.x=r at *
 generalize c.y-a.y=s at *
 have k1:(x-x')*(p*s-r*q)=0:=by clear h1 h2 h1' h2' hA;grind
 have k2:(y-y')*(p*s-r*q)=0:=by clear h1 h2 h1' h2' hA;grind
 constructor
 ·rcases Rat.mul_eq_zero.1 k1 with h|h
  ·grind
  ·exact absurd h hA
 ·rcases Rat.mul_eq_zero.1 k2 with h|h
  ·grind
  ·exact absurd h hA
theorem qwn(l:List DQ):∀L:List (DQ×DQ×DQ),(∃t∈L,∃x y,Vx l x y t)→∃t∈L,∃x y,Vx l x y t∧∀t'∈L,∀x' y',Vx l x' y' t'→pw t'.1 x' y'≤pw t.1 x y
 | [],h=>by obtain⟨t,ht,_⟩:=h;cases ht
 | s::L,h=>by
  by_cases hs:∃x y,Vx l x y s
  ·obtain⟨x,y,hs⟩:=hs
   have own:∀x' y',Vx l x' y' s→pw s.1 x' y'≤pw s.1 x y:=fun x' y' h'=>by
    obtain⟨rfl,rfl⟩:=qyE h' hs;exact Rat.le_refl
   by_cases hL:∃t∈L,∃x y,Vx l x y t
   ·obtain⟨t,ht,u,v,hv,hmax⟩:=qwn l L hL
    rcases Rat.le_total (a:=pw s.1 x y) (b:=pw t.1 u v) with hle|hle
    ·refine⟨t,List.mem_cons_of_mem _ ht,u,v,hv,fun t' ht' x' y' h'=>?_⟩
     rcases List.mem_cons.1 ht' with rfl|ht'
     ·exact Rat.le_trans (own x' y' h') hle
     ·exact hmax t' ht' x' y' h'
    ·refine⟨s,List.mem_cons_self,x,y,hs,fun t' ht' x' y' h'=>?_⟩
     rcases List.mem_cons.1 ht' with rfl|ht'
     ·exact own x' y' h'
     ·exact Rat.le_trans (hmax t' ht' x' y' h') hle
   ·refine⟨s,List.mem_cons_self,x,y,hs,fun t' ht' x' y' h'=>?_⟩
    rcases List.mem_cons.1 ht' with rfl|ht'
    ·exact own x' y' h'
    ·exact absurd ⟨t',ht',x',y',h'⟩ hL
  ·have hL:∃t∈L,∃x y,Vx l x y t:=by
    obtain⟨t,ht,h⟩:=h
    rcases List.mem_cons.1 ht with rfl|ht
    ·exact absurd h hs
    ·exact⟨t,ht,h⟩
   obtain⟨t,ht,u,v,hv,hmax⟩:=qwn l L hL
   refine⟨t,List.mem_cons_of_mem _ ht,u,v,hv,fun t' ht' x' y' h'=>?_⟩
   rcases List.mem_cons.1 ht' with rfl|ht'
   ·exact absurd ⟨x',y',h'⟩ hs
   ·exact hmax t' ht' x' y' h'
theorem qvn{l:List DQ}{x y:Rat}{t:DQ×DQ×DQ}(ht:t.1∈l∧t.2.1∈l∧t.2.2∈l)(hv:Vx l x y t) :
  ∃a∈l,∃b∈l,∃neg,q29 b.x b.y a.x a.y≠0∧pw a x y=pw t.1 x y∧pw b x y=pw a x y∧0≤(qI a b neg).ax*(x-a.x)+(qI a b neg).ay*(y-a.y) ∧
   ∀k∈l,pw k x y=pw a x y→0≤(qI a b neg).ax*(k.x-a.x)+(qI a b neg).ay*(k.y-a.y):=by
 obtain⟨a0,b0,c0⟩:=t
 obtain⟨hA,h1,h2,h3,h4⟩:=hv
 simp only at *
 obtain⟨I,hI⟩:∃I,I=l.filter fun k=>decide (pw k x y=pw a0 x y):=⟨_,rfl⟩
 have memI:∀k,k∈I↔k∈l∧pw k x y=pw a0 x y:=fun k=>by rw[hI];simp
 have ia:a0∈I:=(memI _).2 ⟨ht.1,rfl⟩
 have ib:b0∈I:=(memI _).2 ⟨ht.2.1,h1⟩
 have ic:c0∈I:=(memI _).2 ⟨ht.2.2,h2⟩
 obtain⟨a,haI,hmax⟩:=qql (fun k:DQ=>q29 k.x k.y x y) I (by intro h;rw[h] at ia;cases ia)
 obtain⟨hal,hap⟩:=(memI a).1 haI
 obtain⟨D,hD⟩:∃D:DQ→Rat,D=fun k=>(x-a.x)*(k.x-a.x)+(y-a.y)*(k.y-a.y):=⟨_,rfl⟩
 obtain⟨X,hX⟩:∃X:DQ→Rat,X=fun k=>(x-a.x)*(k.y-a.y)-(y-a.y)*(k.x-a.x):=⟨_,rfl⟩
 obtain⟨J,hJ⟩:∃J,J=I.filter fun k=>decide (q29 k.x k.y a.x a.y≠0):=⟨_,rfl⟩
 have memJ:∀k,k∈J↔k∈I∧q29 k.x k.y a.x a.y≠0:=fun k=>by rw[hJ];simp
 have hDp:∀k∈J,0<D k:=fun k hk=>by
  obtain⟨hk1,hk2⟩:=(memJ k).1 hk
  have e1:=hmax k hk1
  have e2:=qto k.x k.y a.x a.y
  rw[hD]
  simp only at e1 ⊢
  unfold q29 at e1 e2 hk2
  grind
 have hJn:J≠[]:=by
  intro hJ0
  have all:∀k∈I,k.x=a.x∧k.y=a.y:=fun k hk=>by
   by_cases hz:q29 k.x k.y a.x a.y=0
   ·exact qhd hz
   ·have:=(memJ k).2 ⟨hk,hz⟩
    rw[hJ0] at this;cases this
  obtain⟨p1,q1⟩:=all a0 ia
  obtain⟨p2,q2⟩:=all b0 ib
  obtain⟨p3,q3⟩:=all c0 ic
  apply hA
  unfold qAL
  rw[p1,p2,p3,q1,q2,q3];grind
 have slope:∀k b:DQ,0<D k→0<D b→X k/D k≤X b/D b→X k*D b≤X b*D k:=fun k b k0 b0 h=>by
  have e1:X k/D k*D k=X k:=Rat.div_mul_cancel (by grind)
  have e2:X b/D b*D b=X b:=Rat.div_mul_cancel (by grind)
  generalize X k/D k=u at *
  generalize X b/D b=v at *
  have:=Rat.mul_nonneg (show 0≤v-u by grind) (Rat.mul_nonneg (show 0≤D k by grind) (show 0≤D b by grind))
  rw[←e1,←e2];grind
 have lag:∀k b:DQ,((x-a.x)*(x-a.x)+(y-a.y)*(y-a.y))*((k.x-a.x)*(b.y-a.y)-(k.y-a.y)*(b.x-a.x))=D k*X b-X k*D b:=fun k b=>by
  rw[hD,hX];simp only;grind
 have upos:∀b,0<D b→0<(x-a.x)*(x-a.x)+(y-a.y)*(y-a.y):=fun b hb=>by
  apply Rat.not_le.1;intro hn
  have s1:=qfe (x-a.x)
  have s2:=qfe (y-a.y)
  have z1:=qpq (a:=x-a.x) (by grind)
  have z2:=qpq (a:=y-a.y) (by grind)
  rw[hD] at hb;simp only at hb;rw[z1,z2] at hb;grind
 obtain⟨b,hb,hbm⟩:=qql (fun k=>X k/D k) J hJn
 have hbD:=hDp b hb
 obtain⟨hbI,hbf⟩:=(memJ b).1 hb
 obtain⟨hbl,hbp⟩:=(memI b).1 hbI
 have onI:∀k∈l,pw k x y=pw a x y→k∈I:=fun k hk e=>(memI k).2 ⟨hk,by rw[e,hap]⟩
 by_cases hXb:0≤X b
 ·refine⟨a,hal,b,hbl,true,hbf,hap,by rw[hbp,hap],?_,fun k hk hkp=>?_⟩
  ·have e:(qI a b true).ax*(x-a.x)+(qI a b true).ay*(y-a.y)=X b:=by
    rw[hX];unfold qI;simp only[if_true];grind
   rw[e];exact hXb
  ·have e:(qI a b true).ax*(k.x-a.x)+(qI a b true).ay*(k.y-a.y)=(k.x-a.x)*(b.y-a.y)-(k.y-a.y)*(b.x-a.x):=by
    unfold qI;simp only[if_true];grind
   rw[e]
   by_cases hz:q29 k.x k.y a.x a.y=0
   ·obtain⟨z1,z2⟩:=qhd hz
    rw[z1,z2];grind
   ·have hkJ:=(memJ k).2 ⟨onI k hk hkp,hz⟩
    have s:=slope k b (hDp k hkJ) hbD (hbm k hkJ)
    have g:=lag k b
    apply Rat.not_lt.1;intro hn
    have:=Rat.mul_pos (upos b hbD) (show 0 < -((k.x-a.x)*(b.y-a.y)-(k.y-a.y)*(b.x-a.x)) by grind)
    grind
 ·obtain⟨c,hc,hcm⟩:=qql (fun k=>-(X k/D k)) J hJn
  have hcD:=hDp c hc
  obtain⟨hcI,hcf⟩:=(memJ c).1 hc
  obtain⟨hcl,hcp⟩:=(memI c).1 hcI
  have hXc:X c<0:=by
   have s:=slope c b hcD hbD (hbm c hc)
   apply Rat.not_le.1;intro hn
   have m1:=Rat.mul_nonneg hn (show 0≤D b by grind)
   have m2:=Rat.mul_pos (show 0 < -X b by grind) hcD
   grind
  refine⟨a,hal,c,hcl,false,hcf,hap,by rw[hcp,hap],?_,fun k hk hkp=>?_⟩
  ·have e:(qI a c false).ax*(x-a.x)+(qI a c false).ay*(y-a.y)=-X c:=by
    rw[hX];unfold qI;simp only[Bool.false_eq_true,if_false];grind
   rw[e];grind
  ·have e:(qI a c false).ax*(k.x-a.x)+(qI a c false).ay*(k.y-a.y)=-((k.x-a.x)*(c.y-a.y)-(k.y-a.y)*(c.x-a.x)):=by
    unfold qI;simp only[Bool.false_eq_true,if_false];grind
   rw[e]
   by_cases hz:q29 k.x k.y a.x a.y=0
   ·obtain⟨z1,z2⟩:=qhd hz
    rw[z1,z2];grind
   ·have hkJ:=(memJ k).2 ⟨onI k hk hkp,hz⟩
    have hle:=hcm k hkJ
    have s:=slope c k hcD (hDp k hkJ) (by grind)
    have g:=lag k c
    apply Rat.not_lt.1;intro hn
    have:=Rat.mul_pos (upos c hcD) (show 0<(k.x-a.x)*(c.y-a.y)-(k.y-a.y)*(c.x-a.x) by grind)
    grind
theorem qxo{l:List DQ}(hl:l≠[])(hs:∀d∈l,0≤d.s)(hm:qx1 l) :
  (∃a∈l,∀d∈l,pw d a.x a.y≤0)∨∃a∈l,∃b∈l,∃neg,q29 b.x b.y a.x a.y≠0∧0≤(qI a b neg).h∧∀d∈l,q1s d (qI a b neg):=by
 obtain⟨x,y,hxy⟩:=hm
 rcases qz9 hl hs hxy with h|⟨a,ha,b,hb,X,Y,hf,hab,hmx,h0⟩
 ·exact .inl h
 ·right
  have vtx:∀{a b k:DQ} {neg:Bool} {X Y:Rat},(qI a b neg).ax*(k.x-a.x)+(qI a b neg).ay*(k.y-a.y)<0→pw k X Y=pw a X Y→pw b X Y=pw a X Y→(∀d∈l,pw d X Y≤pw a X Y)→pw a X Y≤0→Vx l X Y (a,b,k):=by
   intro a b k neg X Y h1 h2 h3 h4 h5
   refine⟨fun hA=>?_,h3,h2,h4,h5⟩
   unfold qAL at hA
   simp only at hA
   unfold qI at h1
   cases neg
   ·simp only[Bool.false_eq_true,if_false] at h1;grind
   ·simp only[if_true] at h1;grind
  have hneg:∃neg,0≤(qI a b neg).ax*(X-a.x)+(qI a b neg).ay*(Y-a.y):=by
   obtain⟨e1,e2⟩:=quG a b
   rcases Rat.le_total (a:=0) (b:=(qI a b false).ax*(X-a.x)+(qI a b false).ay*(Y-a.y)) with h|h
   ·exact⟨false,h⟩
   ·exact⟨true,by rw[e1,e2];grind⟩
  obtain⟨neg,hv⟩:=hneg
  rcases qqV neg hf hab hmx h0 hv with⟨h1,h2⟩|⟨t,k,t0,hk,k1,k2,k3,k4,k5⟩
  ·exact⟨a,ha,b,hb,neg,hf,h1,h2⟩
  ·obtain⟨L,hL⟩:∃L,L=l.flatMap fun a=>l.flatMap fun b=>l.map fun c=>(a,b,c):=⟨_,rfl⟩
   have memL:∀t:DQ×DQ×DQ,t∈L↔t.1∈l∧t.2.1∈l∧t.2.2∈l:=fun t=>by
    obtain⟨a,b,c⟩:=t
    rw[hL];simp only[List.mem_flatMap,List.mem_map,Prod.mk.injEq]
    exact⟨fun⟨a',h1,b',h2,c',h3,e1,e2,e3⟩=>⟨e1▸h1,e2▸h2,e3▸h3⟩,fun⟨h1,h2,h3⟩=>⟨a,h1,b,h2,c,h3,rfl,rfl,rfl⟩⟩
   obtain⟨s,hs,u,v,hV,hmax⟩:=qwn l L ⟨(a,b,k),(memL _).2 ⟨ha,hb,hk⟩,_,_,vtx k1 k2 k3 k4 k5⟩
   obtain⟨a',ha',b',hb',neg',hf',hp',hab',hv',hact⟩:=qvn ((memL s).1 hs) hV
   rcases qqV neg' hf' hab' (fun d hd=>by rw[hp'];exact hV.2.2.2.1 d hd) (by rw[hp'];exact hV.2.2.2.2) hv' with⟨h1,h2⟩|⟨t,k,t0,hk,k1,k2,k3,k4,k5⟩
   ·exact⟨a',ha',b',hb',neg',hf',h1,h2⟩
   ·exfalso
    have hm':=hmax (a',b',k) ((memL _).2 ⟨ha',hb',hk⟩) _ _ (vtx k1 k2 k3 k4 k5)
    simp only at hm'
    rw[←hp'] at hm'
    obtain⟨f1,-⟩:=qmO neg' hf'
    have hpos:0<q29 b'.x b'.y a'.x a'.y:=by have:=qto b'.x b'.y a'.x a'.y;grind
    generalize qI a' b' neg'=p at *
    have t1:0<t:=by
     apply Rat.not_le.1;intro hn
     have:t=0:=by grind
     rw[this] at k2
     have e1:u+0*p.ax=u:=by grind
     have e2:v+0*p.ay=v:=by grind
     rw[e1,e2] at k2
     have:=hact k hk k2
     grind
    have e:pw a' (u+t*p.ax) (v+t*p.ay)=pw a' u v+2*(t*(p.ax*(u-a'.x)+p.ay*(v-a'.y)))+t*t*(p.ax*p.ax+p.ay*p.ay):=by unfold pw;grind
    rw[e,f1] at hm'
    have m1:=Rat.mul_nonneg t0 hv'
    have m2:=Rat.mul_pos (Rat.mul_pos t1 t1) hpos
    grind
end Go.Eng

namespace Go.Eng
def cls(q:Rat):Prop:=(qn q≤12∧q.den=1)∨(qn q≤10∧qd q≤10)
def qA6(q:Rat):Prop:=qn q≤13∧qd q≤10
structure GD (d:DQ):Prop where
 x:cls d.x
 y:cls d.y
 s:qA6 d.s
 nn:0≤d.s
theorem Bd.of_nl{m:Int}{k:Nat}(h:nl m≤k):Bd 1 k m:=by
 unfold Bd
 have:=qAo h
 omega
theorem Bd.of_le{C e:Nat}{x y:Int}(h:Bd C e y)(hxy:x.natAbs≤y.natAbs):Bd C e x:=Nat.le_trans hxy h
theorem qo2{q:Rat}(h:cls q):∃u v,Wt u v q∧((u=12∧v=0)∨(u=10∧v=10)):=by
 rcases h with⟨h1,h2⟩|⟨h1,h2⟩
 ·refine⟨12,0,⟨Bd.of_nl h1,?_,?_⟩,.inl ⟨rfl,rfl⟩⟩
  ·unfold Bd;rw[h2];decide
  ·unfold Bd;rw[h2];decide
 ·exact⟨10,10,⟨Bd.of_nl h1,Bd.of_nl (m:=(q.den:Int)) h2,Bd.of_nl (m:=(q.den:Int)) h2⟩,.inr ⟨rfl,rfl⟩⟩
theorem qAy{q:Rat}(h:cls q):qA6 q:=by
 rcases h with⟨h1,h2⟩|⟨h1,h2⟩
 ·exact⟨by omega,by unfold qd;rw[h2];decide⟩
 ·exact⟨by omega,h2⟩
theorem qrA{q:Rat}(h:qA6 q):∃u v,Wt u v q∧u=13∧v=10:=
 ⟨13,10,⟨Bd.of_nl h.1,Bd.of_nl (m:=(q.den:Int)) h.2,(Bd.of_nl (m:=(q.den:Int)) h.2).mono (by omega) (by omega)⟩,rfl,rfl⟩
theorem wK{q:Rat}(h:cls q):bnd 12 10 q:=by
 rcases h with⟨h1,h2⟩|⟨h1,h2⟩
 ·exact⟨h1,by unfold qd;rw[h2];decide⟩
 ·exact⟨by omega,h2⟩
theorem q2V{q:Rat}(h:qA6 q):bnd 13 10 q:=h
theorem GD.sh{d:DQ}(h:GD d):d.sh:=⟨wK h.x,wK h.y,q2V h.s⟩
theorem qrU{q:Rat}(h:shT (tQ q)):cls q:=by
 unfold shT at h
 obtain⟨h1,h2⟩:=qdN q
 have h3:=qhD q
 have h4:=qor q
 rcases h2 with h2|h2
 ·exact .inl ⟨by omega,h2⟩
 ·exact .inr ⟨by omega,by omega⟩
theorem qtY{a b d:DQ}(ga:GD a)(gb:GD b)(gd:GD d)(neg:Bool)(hf:(b.x-a.x)*(b.x-a.x)+(b.y-a.y)*(b.y-a.y)≠0)(oa:okQ (kA d (qI a b neg)))(ob:okQ (kB d (qI a b neg)))(oc:okQ (qI a b neg).h) :
  RootOk (kA d (qI a b neg)) (kB d (qI a b neg)) (qI a b neg).h:=by
 obtain⟨f1,f2,f3,f4⟩:=qrS a b d neg hf
 generalize kA d (qI a b neg)=A at *
 generalize kB d (qI a b neg)=B at *
 generalize (qI a b neg).h=H at *
 obtain⟨hx1,vx1,wx1,ex1⟩:=qo2 ga.x
 obtain⟨hy1,vy1,wy1,ey1⟩:=qo2 ga.y
 obtain⟨hs1,vs1,ws1,es1⟩:=qrA ga.s
 obtain⟨hx2,vx2,wx2,ex2⟩:=qo2 gb.x
 obtain⟨hy2,vy2,wy2,ey2⟩:=qo2 gb.y
 obtain⟨hs2,vs2,ws2,es2⟩:=qrA gb.s
 obtain⟨hx3,vx3,wx3,ex3⟩:=qo2 gd.x
 obtain⟨hy3,vy3,wy3,ey3⟩:=qo2 gd.y
 obtain⟨hs3,vs3,ws3,es3⟩:=qrA gd.s
 have k1:8*hx1+vx1≤96∧14*hx1+4*vx1≤180:=by omega
 have k2:8*hy1+vy1≤96∧14*hy1+4*vy1≤180:=by omega
 have k3:7*hx2+vx2≤84∧14*hx2+2*vx2≤168:=by omega
 have k4:7*hy2+vy2≤84∧14*hy2+2*vy2≤168:=by omega
 have k5:2*hx3+vx3≤30∧2*hx3+4*vx3≤60:=by omega
 have k6:2*hy3+vy3≤30∧2*hy3+4*vy3≤60:=by omega
 have k7:hs1+2*vs1≤33∧2*hs1+4*vs1≤66:=by omega
 have k8:hs2+2*vs2≤33∧2*hs2+4*vs2≤66:=by omega
 have k9:hs3≤13∧vs3≤10:=by omega
 clear ex1 ey1 es1 ex2 ey2 es2 ex3 ey3 es3
 have p0:∀q:Rat,(q.den:Int)≠0:=fun q=>by have:=qsD q;omega
 have hM:iM a.x.num a.x.den a.y.num a.y.den a.s.den b.x.num b.x.den b.y.num b.y.den b.s.den d.x.den d.y.den d.s.den≠0:=by
  unfold iM iSq
  have:=p0 a.x;have:=p0 a.y;have:=p0 a.s;have:=p0 b.x;have:=p0 b.y;have:=p0 b.s;have:=p0 d.x;have:=p0 d.y;have:=p0 d.s
  exact Int.mul_ne_zero (Int.mul_ne_zero (Int.mul_ne_zero f4 (Int.mul_ne_zero (Int.mul_ne_zero ‹_› ‹_›) ‹_›)) (Int.mul_ne_zero (Int.mul_ne_zero (Int.mul_ne_zero ‹_› ‹_›) (Int.mul_ne_zero ‹_› ‹_›)) (Int.mul_ne_zero (Int.mul_ne_zero ‹_› ‹_›) (Int.mul_ne_zero ‹_› ‹_›)))) (Int.mul_ne_zero ‹_› ‹_›)
 have hQ:iQ a.x.den a.y.den b.x.den b.y.den d.x.den d.y.den≠0:=by
  unfold iQ
  exact Int.mul_ne_zero (Int.mul_ne_zero (Int.mul_ne_zero (p0 _) (p0 _)) (p0 _)) (Int.mul_ne_zero (Int.mul_ne_zero (p0 _) (p0 _)) (p0 _))
 have hC:iCd a.x.num a.x.den a.y.num a.y.den a.s.den b.x.num b.x.den b.y.num b.y.den b.s.den≠0:=by
  unfold iCd
  exact Int.mul_ne_zero (Int.mul_ne_zero (by omega) (Int.mul_ne_zero f4 f4)) (Int.mul_ne_zero (Int.mul_ne_zero (p0 _) (p0 _)) (Int.mul_ne_zero (p0 _) (p0 _)))
 obtain⟨g1,g2⟩:=qkO hM f1
 obtain⟨g3,g4⟩:=qkO hQ f2
 obtain⟨g5,g6⟩:=qkO hC f3
 have b1:=(bA wx1.n wx1.dh wy1.n wy1.dh wx2.n wx2.dh wy2.n wy2.dh wx3.n wx3.dh wy3.n wy3.dh ws1.n ws1.dh ws2.n ws2.dh ws3.n ws3.dh).of_le (x:=A.num) g1
 have b2:=(bM wx1.n wx1.dh wy1.n wy1.dh wx2.n wx2.dh wy2.n wy2.dh wx1.d wy1.d wx2.d wy2.d wx3.d wy3.d ws1.d ws2.d ws3.d).of_le (x:=(A.den:Int)) g2
 have b3:Bd 16 (hx1+hx2+hx3+hy1+hy2+hy3) B.num:=by
  refine(bK wx1.n wx1.dh wy1.n wy1.dh wx2.n wx2.dh wy2.n wy2.dh wx3.n wx3.dh wy3.n wy3.dh).of_le (Nat.le_trans g3 ?_)
  rw[Int.natAbs_mul]
  cases neg<;>simp
 have b4:=(bQ wx1.d wy1.d wx2.d wy2.d wx3.d wy3.d).of_le (x:=(B.den:Int)) g4
 have b5:=(bCn wx1.n wx1.dh wy1.n wy1.dh wx2.n wx2.dh wy2.n wy2.dh ws1.n ws1.dh ws2.n ws2.dh).of_le (x:=H.num) g5
 have b6:=(bCd wx1.n wx1.dh wy1.n wy1.dh wx2.n wx2.dh wy2.n wy2.dh ws1.d ws2.d).of_le (x:=(H.den:Int)) g6
 have X1:=b1.mul b4
 have X:Bd 40960 500 (rX A B H):=(X1.mul b6).mono (by omega) (by omega)
 have Y:=b3.mul b2
 have R:=b5.mul b6
 have XX:=(X.mul X).mono (C':=1677721600) (e':=1000) (by omega) (by omega)
 have YY:=Y.mul Y
 have YR:=(YY.mul R).mono (C':=553648128) (e':=972) (by omega) (by omega)
 have c10:(1000000000:Nat)≤10^9:=by decide
 exact { oa:=oa,ob:=ob,oc:=oc,x1:=X1.okL (k:=9) (by omega) (by omega) (by omega),x:=X.okL (k:=9) (by omega) (by omega) (by omega),y:=Y.okL (k:=9) (by omega) (by omega) (by omega),r:=R.okL (k:=9) (by omega) (by omega) (by omega),xx:=XX.okL (k:=10) (by decide) (by omega) (by omega),yy:=YY.okL (k:=9) (by omega) (by omega) (by omega),yr:=YR.okL (k:=9) (by omega) (by omega) (by omega),d:=((XX.mono (C':=1677721600) (e':=1000) (by omega) (by omega)).sub (YR.mono (C':=553648128) (e':=1000) (by omega) (by omega))).okL (k:=10) (by decide) (by omega) (by omega) }
end Go.Eng

namespace Go.Eng
theorem qAS{far c:Rat}(h0:far≠0)(hf:bnd 87 80 far)(hc:bnd 24 20 c):bnd 108 108 ((far+c)/(2*far)):=by
 have hn:far.num≠0:=fun h=>h0 (Rat.num_eq_zero.1 h)
 have hm:2*(far.num*(c.den:Int))≠0:=by
  have:=qsD c
  exact Int.mul_ne_zero (by omega) (Int.mul_ne_zero hn (by omega))
 have h2f:2*far≠0:=by grind
 have key:(far+c)/(2*far)*((2*(far.num*(c.den:Int)):Int):Rat)=((far.num*(c.den:Int)+c.num*(far.den:Int):Int):Rat):=by
  have e1:=qbq far
  have e2:=qbq c
  have e3:(far+c)/(2*far)*(2*far)=far+c:=Rat.div_mul_cancel h2f
  have f2:((2:Int):Rat)=2:=by simp
  simp only[Rat.intCast_add,Rat.intCast_mul,Rat.intCast_natCast,e1,e2,f2]
  generalize (far+c)/(2*far)=q at *
  generalize (far.den:Rat)=fd at *
  generalize (c.den:Rat)=cd at *
  have e4:q*(2*(far*fd*cd))=q*(2*far)*(fd*cd):=by grind
  rw[e4,e3];grind
 obtain⟨k1,k2⟩:=qkO hm key
 have g1:=qdV k1
 have g2:=qlQ k2
 have a1:=qnR (far.num*(c.den:Int)) (c.num*(far.den:Int))
 have a2:=q1V far.num (c.den:Int)
 have a3:=q1V c.num (far.den:Int)
 have a4:=q1V 2 (far.num*(c.den:Int))
 have a5:nl 2=1:=by decide
 have a6:dl (2*(far.num*(c.den:Int))).natAbs=nl (2*(far.num*(c.den:Int))):=rfl
 have b1:nl far.num≤87:=hf.1
 have b2:nl (far.den:Int)≤80:=hf.2
 have b3:nl c.num≤24:=hc.1
 have b4:nl (c.den:Int)≤20:=hc.2
 refine⟨?_,?_⟩
 ·show nl _≤108
  omega
 ·show dl _≤108
  omega
structure PB (p:SQ):Prop where
 fx:bnd 142 138 p.fx
 fy:bnd 142 138 p.fy
 ax:bnd 23 20 p.ax
 ay:bnd 23 20 p.ay
 h:bnd 314 313 p.h
theorem qB4(a:Rat):0-a=-a:=by grind
theorem qwj{a b:DQ}(ga:GD a)(gb:GD b)(hf:q29 b.x b.y a.x a.y≠0):bnd 108 108 ((q29 b.x b.y a.x a.y+a.s-b.s)/(2*q29 b.x b.y a.x a.y)):=by
 rw[show q29 b.x b.y a.x a.y+a.s-b.s=q29 b.x b.y a.x a.y+(a.s-b.s) by grind]
 exact qAS hf (qjn (wK gb.x) (wK gb.y) (wK ga.x) (wK ga.y)) ((q2V ga.s).sub (q2V gb.s) (by omega) (by omega))
theorem qhi(a b:DQ)(neg:Bool):qI a b neg=⟨a.x+(q29 b.x b.y a.x a.y+a.s-b.s)/(2*q29 b.x b.y a.x a.y)*(b.x-a.x),a.y+(q29 b.x b.y a.x a.y+a.s-b.s)/(2*q29 b.x b.y a.x a.y)*(b.y-a.y),if neg then b.y-a.y else 0-(b.y-a.y),if neg then 0-(b.x-a.x) else b.x-a.x,a.s/q29 b.x b.y a.x a.y-(q29 b.x b.y a.x a.y+a.s-b.s)/(2*q29 b.x b.y a.x a.y)*((q29 b.x b.y a.x a.y+a.s-b.s)/(2*q29 b.x b.y a.x a.y))⟩:=rfl
theorem qiA{a b:DQ}(ga:GD a)(gb:GD b)(neg:Bool)(hf:q29 b.x b.y a.x a.y≠0):PB (qI a b neg):=by
 have dx:=q63 (wK gb.x) (wK ga.x)
 have dy:=q63 (wK gb.y) (wK ga.y)
 have far:=qjn (wK gb.x) (wK gb.y) (wK ga.x) (wK ga.y)
 have ht:=qwj ga gb hf
 rw[qhi]
 have nx:bnd 23 20 (0-(b.x-a.x)):=by rw[qB4];exact dx.neg
 have ny:bnd 23 20 (0-(b.y-a.y)):=by rw[qB4];exact dy.neg
 have hh:=((q2V ga.s).div hf far).sub (ht.mul ht) (K:=314) (by omega) (by omega)
 have hx:=(wK ga.x).add (ht.mul dx) (K:=142) (by omega) (by omega)
 have hy:=(wK ga.y).add (ht.mul dy) (K:=142) (by omega) (by omega)
 exact⟨hx,hy,by cases neg<;>assumption,by cases neg<;>assumption,hh⟩
theorem PB.m{p:SQ}{d:DQ}(hp:PB p)(gd:GD d):bnd 153 148 (p.fx-d.x)∧bnd 153 148 (p.fy-d.y):=
 ⟨hp.fx.sub (wK gd.x) (by omega) (by omega),hp.fy.sub (wK gd.y) (by omega) (by omega)⟩
theorem PB.mm{p:SQ}{d:DQ}(hp:PB p)(gd:GD d):bnd 603 592 ((p.fx-d.x)*(p.fx-d.x)+(p.fy-d.y)*(p.fy-d.y)):=
 qoJ (hp.m gd).1 (hp.m gd).2 (hp.m gd).1 (hp.m gd).2
theorem PB.aa{p:SQ}(hp:PB p):bnd 87 80 (p.ax*p.ax+p.ay*p.ay):=qoJ hp.ax hp.ay hp.ax hp.ay
theorem PB.ha{p:SQ}(hp:PB p):bnd 401 393 (p.h*(p.ax*p.ax+p.ay*p.ay)):=hp.h.mul hp.aa
theorem PB.x{p:SQ}{d:DQ}(hp:PB p)(gd:GD d):bnd 997 985 ((p.fx-d.x)*(p.fx-d.x)+(p.fy-d.y)*(p.fy-d.y)+p.h*(p.ax*p.ax+p.ay*p.ay)):=
 (hp.mm gd).add hp.ha (by omega) (by omega)
theorem PB.ma{p:SQ}{d:DQ}(hp:PB p)(gd:GD d):bnd 345 336 ((p.fx-d.x)*p.ax+(p.fy-d.y)*p.ay):=
 qoJ (hp.m gd).1 (hp.m gd).2 hp.ax hp.ay
theorem PB.kA{p:SQ}{d:DQ}(hp:PB p)(gd:GD d):bnd 1008 995 (kA d p):=(hp.x gd).sub (q2V gd.s) (by omega) (by omega)
theorem PB.kB{p:SQ}{d:DQ}(hp:PB p)(gd:GD d):bnd 346 337 (kB d p):=qlf.mul (hp.ma gd)
structure PG (p:SQ):Prop where
 pb:PB p
 nn:0≤p.h
 root:∀d,GD d→RootOk (kA d p) (kB d p) p.h
theorem qxJ{a b:DQ}(ga:GD a)(gb:GD b)(neg:Bool)(hf:q29 b.x b.y a.x a.y≠0)(hn:0≤(qI a b neg).h):PG (qI a b neg):=
 ⟨qiA ga gb neg hf,hn,fun _ gd=>qtY ga gb gd neg hf (((qiA ga gb neg hf).kA gd).ok (by omega) (by omega)) (((qiA ga gb neg hf).kB gd).ok (by omega) (by omega)) ((qiA ga gb neg hf).h.ok (by omega) (by omega))⟩
theorem qAi{a:DQ}(ga:GD a):PG ⟨a.x,a.y,0,0,0⟩:=by
 refine⟨⟨(wK ga.x).mono (by omega) (by omega),(wK ga.y).mono (by omega) (by omega),q66.mono (by omega) (by omega),q66.mono (by omega) (by omega),q66.mono (by omega) (by omega)⟩,Rat.le_refl,fun d gd=>?_⟩
 have e1:Go.Eng.kA d ⟨a.x,a.y,0,0,0⟩=q29 a.x a.y d.x d.y-d.s:=by unfold Go.Eng.kA q29;grind
 have e2:Go.Eng.kB d ⟨a.x,a.y,0,0,0⟩=0:=by unfold Go.Eng.kB;grind
 rw[e1,e2]
 have f1:bnd 98 90 (q29 a.x a.y d.x d.y-d.s):=(qjn (wK ga.x) (wK ga.y) (wK gd.x) (wK gd.y)).sub (q2V gd.s) (by omega) (by omega)
 exact RootOk.of f1 q66 q66 (by omega) (by omega)
theorem qvF{d:DQ}{p:SQ}(gd:GD d)(hp:PG p) :
  (wP [.s (tQ d.x),.s (tQ d.y),.s (tQ d.s),.s (tQ p.fx),.s (tQ p.fy),.s (tQ p.ax),.s (tQ p.ay),.s (tQ p.h),.i 0]).run=some (0,[.b (decide (q1s d p)),.i 0]):=by
 rw[qgo]
 have hr:=qwt (hp.root d gd) hp.nn
 obtain⟨hp,-,-⟩:=hp
 obtain⟨m1,m2⟩:=hp.m gd
 have h0:=qvQ hp.fx hp.fy (wK gd.x) (wK gd.y) (by omega) (by omega) (by omega)
 have h1:=qwm m1 m2 m1 m2 (by omega) (by omega)
 have h2:=qwm hp.ax hp.ay hp.ax hp.ay (by omega) (by omega)
 have h3:=qpA hp.h hp.aa (by omega) (by omega)
 have h4:=qtW (hp.mm gd) hp.ha (by omega) (by omega) (by omega)
 have h5:=qpf (hp.x gd) (q2V gd.s) (by omega) (by omega) (by omega)
 have h6:=qwm m1 m2 hp.ax hp.ay (by omega) (by omega)
 have h7:=qpA qlf (hp.ma gd) (by omega) (by omega)
 rw[qvc] at h7
 have e:q1s d p=(qbQ (Go.Eng.kA d p) (Go.Eng.kB d p) p.h≤0):=rfl
 unfold Go.Eng.kA Go.Eng.kB at hr e
 simp only[STD,h0,h1,h2,h3,h4,h5,h6,h7,hr,e]
 rfl
def qd8(d:DQ):List U:=[.s (tQ d.x),.s (tQ d.y),.s (tQ d.s)]
def rD(l:List DQ):R:=l.map qd8
def ix(l:List DQ)(i:Nat):DQ:=l.getD i ⟨0,0,0⟩
theorem zH(l:List DQ):qL (rD l)=(l.length:Int):=by simp[qL,rD]
theorem qgv{l:List DQ}{i:Nat}(h:i<l.length):cS (rD l) (i:Int) 0=tQ (ix l i).x∧cS (rD l) (i:Int) 1=tQ (ix l i).y∧cS (rD l) (i:Int) 2=tQ (ix l i).s:=by
 unfold cS jj rD ix
 simp[List.getD_eq_getElem?_getD,h,qd8,U.toS]
theorem qol{l:List DQ}{i:Nat}(h:i<l.length):ix l i∈l:=by
 unfold ix
 simp[List.getD_eq_getElem?_getD,h]
def q9o(a b:DQ)(same:Bool)(side:Int):Option SQ:=
 if same then (if side=0 then some ⟨a.x,a.y,0,0,0⟩ else none)
 else if q29 b.x b.y a.x a.y=0 then none
 else if 0≤(qI a b (decide (side<0))).h∧((qI a b (decide (side<0))).h=0↔side=0) then some (qI a b (decide (side<0))) else none
theorem qxF{a b:DQ}(ga:GD a)(gb:GD b){same:Bool}{side:Int}{p:SQ}(h:q9o a b same side=some p):PG p:=by
 unfold q9o at h
 split at h
 ·split at h
  ·cases h;exact qAi ga
  ·cases h
 ·split at h
  ·cases h
  ·rename_i hf
   split at h
   ·rename_i hc
    cases h;exact qxJ ga gb _ hf hc.1
   ·cases h
def q46(l:List DQ)(i j:Nat)(side:Int):Bool:=
 match q9o (ix l i) (ix l j) (decide (i=j)) side with
 | none=>false
 | some p=>l.all fun d=>decide (q1s d p)
def qlX(l:List DQ)(i j:Nat)(side:Int):Option (Nat×Nat×Int):=if q46 l i j side then some (i,j,side) else none
def qcZ(l:List DQ)(i j:Nat):Option (Nat×Nat×Int):=
 match qlX l i j 0 with
 | some w=>some w
 | none=>match qlX l i j 1 with
  | some w=>some w
  | none=>qlX l i j (-1)
def ua(l:List DQ):Option (Nat×Nat×Int):=
 match q27 (fun i=>qlX l i i 0) 0 l.length with
 | some w=>some w
 | none=>q27 (fun i=>q27 (fun k=>qcZ l i (i+1+k)) 0 (l.length-(i+1))) 0 l.length
end Go.Eng

namespace Go.Eng
theorem qoh(d a:DQ):q1s d ⟨a.x,a.y,0,0,0⟩↔pw d a.x a.y≤0:=by
 have e1:kA d ⟨a.x,a.y,0,0,0⟩=pw d a.x a.y:=by unfold kA pw;grind
 have e2:kB d ⟨a.x,a.y,0,0,0⟩=0:=by unfold kB;grind
 unfold q1s
 rw[e1,e2]
 simp only[qow,qf3]
theorem qqy{d:DQ}{p q:SQ}(hA:kA d p=kA d q)(hB:kB d p=kB d q)(hh:p.h=q.h):q1s d p↔q1s d q:=by
 unfold q1s;rw[hA,hB,hh]
theorem qll{d:DQ}{p:SQ}(hh:p.h=0):q1s d p↔kA d p≤0:=by
 unfold q1s
 rw[hh,qkV (by grind)]
 constructor
 ·rintro (⟨h,-⟩|⟨h1,h2,h3⟩)
  ·exact h
  ·have:=Rat.mul_pos h1 h1;grind
 ·intro h;exact .inl ⟨h,.inr (.inl rfl)⟩
theorem quj{a b:DQ}(neg:Bool)(hf:q29 b.x b.y a.x a.y≠0) :
  (qI b a (!neg)).fx=(qI a b neg).fx∧(qI b a (!neg)).fy=(qI a b neg).fy∧(qI b a (!neg)).ax=(qI a b neg).ax∧(qI b a (!neg)).ay=(qI a b neg).ay∧(qI b a (!neg)).h=(qI a b neg).h:=by
 have hsw:q29 a.x a.y b.x b.y=q29 b.x b.y a.x a.y:=by unfold q29;grind
 rw[qhi,qhi,hsw]
 generalize q29 b.x b.y a.x a.y=far at *
 have h2f:2*far≠0:=by grind
 have h1:(far+b.s-a.s)/(2*far)*(2*far)=far+b.s-a.s:=Rat.div_mul_cancel h2f
 have h2:(far+a.s-b.s)/(2*far)*(2*far)=far+a.s-b.s:=Rat.div_mul_cancel h2f
 have h3:a.s/far*far=a.s:=Rat.div_mul_cancel hf
 have h4:b.s/far*far=b.s:=Rat.div_mul_cancel hf
 generalize (far+b.s-a.s)/(2*far)=u at *
 generalize (far+a.s-b.s)/(2*far)=t at *
 generalize a.s/far=p at *
 generalize b.s/far=q at *
 have cancel:∀z:Rat,z*far=0→z=0:=fun z hz=>by
  rcases Rat.mul_eq_zero.1 hz with h|h
  ·exact h
  ·exact absurd h hf
 have hu:u=1-t:=by
  have:=cancel (u-(1-t)) (by grind)
  grind
 have hpq:q=p-t*t+(1-t)*(1-t):=by
  have:=cancel (q-(p-t*t+(1-t)*(1-t))) (by grind)
  grind
 simp only
 refine⟨by rw[hu];grind,by rw[hu];grind,?_,?_,by rw[hu,hpq];grind⟩
 ·cases neg<;>simp only[Bool.not_false,Bool.not_true,Bool.false_eq_true,if_false,if_true]<;>grind
 ·cases neg<;>simp only[Bool.not_false,Bool.not_true,Bool.false_eq_true,if_false,if_true]<;>grind
theorem qbf{l:List DQ}{d:DQ}(h:d∈l):∃i,i<l.length∧ix l i=d:=by
 obtain⟨i,hi,e⟩:=List.getElem_of_mem h
 exact⟨i,hi,by unfold ix;simp[List.getD_eq_getElem?_getD,hi,e]⟩
def Wit(l:List DQ):Prop:=(∃i,i<l.length∧q46 l i i 0=true)∨∃i j side,i<j∧j<l.length∧(side=0∨side=1∨side=-1)∧q46 l i j side=true
theorem q8j{l:List DQ}{i j:Nat}{side:Int}:q46 l i j side=true↔∃p,q9o (ix l i) (ix l j) (decide (i=j)) side=some p∧∀d∈l,q1s d p:=by
 unfold q46
 cases h:q9o (ix l i) (ix l j) (decide (i=j)) side with
 | none=>simp
 | some p=>simp
theorem qx9{a b:DQ}{same:Bool}{side:Int}{p:SQ}(h:q9o a b same side=some p):0≤p.h:=by
 unfold q9o at h
 split at h
 ·split at h
  ·cases h;exact Rat.le_refl
  ·cases h
 ·split at h
  ·cases h
  ·split at h
   ·rename_i hc
    cases h;exact hc.1
   ·cases h
theorem qnk{l:List DQ}{i j:Nat}{side:Int}(h:q46 l i j side=true):qx1 l:=by
 obtain⟨p,h1,h2⟩:=q8j.1 h
 exact qpC (qx9 h1) h2
theorem qs0{l:List DQ}(hl:l≠[])(hs:∀d∈l,0≤d.s)(hm:qx1 l):Wit l:=by
 rcases qxo hl hs hm with⟨a,ha,h⟩|⟨a,ha,b,hb,neg,hf,h0,hk⟩
 ·obtain⟨i,hi,rfl⟩:=qbf ha
  refine .inl ⟨i,hi,q8j.2 ⟨⟨(ix l i).x,(ix l i).y,0,0,0⟩,?_,fun d hd=>(qoh d _).2 (h d hd)⟩⟩
  unfold q9o;simp
 ·have main:∀(i j:Nat) (neg:Bool),i<j→j<l.length→q29 (ix l j).x (ix l j).y (ix l i).x (ix l i).y≠0→0≤(qI (ix l i) (ix l j) neg).h→(∀d∈l,q1s d (qI (ix l i) (ix l j) neg))→Wit l:=by
   intro i j neg hij hj hf h0 hk
   by_cases hz:(qI (ix l i) (ix l j) neg).h=0
   ·have hz':(qI (ix l i) (ix l j) false).h=0:=hz
    refine .inr ⟨i,j,0,hij,hj,.inl rfl,q8j.2 ⟨qI (ix l i) (ix l j) false,?_,fun d hd=>?_⟩⟩
    ·unfold q9o
     rw[if_neg (by simp;omega),if_neg hf]
     simp[hz']
    ·have:=(qll hz).1 (hk d hd)
     rw[qll hz']
     have e:kA d (qI (ix l i) (ix l j) false)=kA d (qI (ix l i) (ix l j) neg):=by
      unfold kA;rw[hz,hz']
      have e1:(qI (ix l i) (ix l j) false).fx=(qI (ix l i) (ix l j) neg).fx:=rfl
      have e2:(qI (ix l i) (ix l j) false).fy=(qI (ix l i) (ix l j) neg).fy:=rfl
      rw[e1,e2];grind
     rw[e];exact this
   ·cases neg
    ·refine .inr ⟨i,j,1,hij,hj,.inr (.inl rfl),q8j.2 ⟨qI (ix l i) (ix l j) false,?_,hk⟩⟩
     unfold q9o
     rw[if_neg (by simp;omega),if_neg hf]
     simp[hz,h0]
    ·refine .inr ⟨i,j,-1,hij,hj,.inr (.inr rfl),q8j.2 ⟨qI (ix l i) (ix l j) true,?_,hk⟩⟩
     unfold q9o
     rw[if_neg (by simp;omega),if_neg hf]
     simp[hz,h0]
  obtain⟨i,hi,rfl⟩:=qbf ha
  obtain⟨j,hj,rfl⟩:=qbf hb
  rcases Nat.lt_trichotomy i j with hij|rfl|hij
  ·exact main i j neg hij hj hf h0 hk
  ·exact absurd (by unfold q29;grind) hf
  ·obtain⟨e1,e2,e3,e4,e5⟩:=quj neg hf
   refine main j i (!neg) hij hi ?_ (by rw[e5];exact h0) fun d hd=>?_
   ·intro h;apply hf;unfold q29 at *;grind
   ·refine(qqy ?_ ?_ e5).2 (hk d hd)
    ·unfold kA;rw[e1,e2,e3,e4,e5]
    ·unfold kB;rw[e1,e2,e3,e4]
theorem qi9{l:List DQ}{i j:Nat}{side:Int}{w:Nat×Nat×Int}(h:qlX l i j side=some w):w=(i,j,side)∧q46 l i j side=true:=by
 unfold qlX at h
 split at h
 ·cases h;exact⟨rfl,by assumption⟩
 ·cases h
theorem qiR{l:List DQ}{i j:Nat}{side:Int}(h:qlX l i j side=none):q46 l i j side=false:=by
 unfold qlX at h
 split at h
 ·cases h
 ·simp_all
theorem qbj{α:Type}{f:Nat→Option α}{a:α}:∀{k i:Nat},q27 f i k=some a→∃j,i≤j∧j<i+k∧f j=some a∧∀m,i≤m→m<j→f m=none
 | 0,i,h=>by cases h
 | k+1,i,h=>by
  simp only[q27] at h
  cases hf:f i with
  | some b=>rw[hf] at h;exact⟨i,Nat.le_refl _,by omega,by rw[hf];exact h,fun m h1 h2=>by omega⟩
  | none=>
   rw[hf] at h
   obtain⟨j,h1,h2,h3,h4⟩:=qbj h
   refine⟨j,by omega,by omega,h3,fun m m1 m2=>?_⟩
   rcases Nat.eq_or_lt_of_le m1 with rfl|m1
   ·exact hf
   ·exact h4 m m1 m2
theorem qrC{l:List DQ}{i j:Nat}{w:Nat×Nat×Int}(h:qcZ l i j=some w):∃side,w=(i,j,side)∧(side=0∨side=1∨side=-1)∧q46 l i j side=true:=by
 unfold qcZ at h
 cases h0:qlX l i j 0 with
 | some v=>rw[h0] at h;simp only at h;cases h;obtain⟨e1,e2⟩:=qi9 h0;exact⟨0,e1,.inl rfl,e2⟩
 | none=>
  rw[h0] at h;simp only at h
  cases h1:qlX l i j 1 with
  | some v=>rw[h1] at h;simp only at h;cases h;obtain⟨e1,e2⟩:=qi9 h1;exact⟨1,e1,.inr (.inl rfl),e2⟩
  | none=>
   rw[h1] at h;simp only at h
   obtain⟨e1,e2⟩:=qi9 h;exact⟨-1,e1,.inr (.inr rfl),e2⟩
theorem qrx{l:List DQ}{i j:Nat}(h:qcZ l i j=none):∀side:Int,side=0∨side=1∨side=-1→q46 l i j side=false:=by
 unfold qcZ at h
 cases h0:qlX l i j 0 with
 | some v=>rw[h0] at h;cases h
 | none=>
  rw[h0] at h;simp only at h
  cases h1:qlX l i j 1 with
  | some v=>rw[h1] at h;cases h
  | none=>
   rw[h1] at h;simp only at h
   rintro side (rfl|rfl|rfl)
   ·exact qiR h0
   ·exact qiR h1
   ·exact qiR h
theorem qme{l:List DQ}{w:Nat×Nat×Int}(h:ua l=some w):q46 l w.1 w.2.1 w.2.2=true∧w.1≤w.2.1∧w.2.1<l.length∧(w.2.2=0∨w.2.2=1∨w.2.2=-1)∧(w.1=w.2.1→w.2.2=0):=by
 unfold ua at h
 cases h0:q27 (fun i=>qlX l i i 0) 0 l.length with
 | some v=>
  rw[h0] at h;simp only at h;cases h
  obtain⟨i,-,hi,hf,-⟩:=qbj h0
  obtain⟨rfl,e⟩:=qi9 hf
  exact⟨e,Nat.le_refl _,by simpa using hi,.inl rfl,fun _=>rfl⟩
 | none=>
  rw[h0] at h;simp only at h
  obtain⟨i,-,hi,hf,-⟩:=qbj h
  obtain⟨k,-,hk,hf,-⟩:=qbj hf
  obtain⟨side,rfl,h1,h2⟩:=qrC hf
  exact⟨h2,by simp only;omega,by simp only;omega,h1,fun h=>by simp only at h;omega⟩
theorem qrR{l:List DQ}(h:ua l=none):¬Wit l:=by
 unfold ua at h
 cases h0:q27 (fun i=>qlX l i i 0) 0 l.length with
 | some v=>rw[h0] at h;cases h
 | none=>
  rw[h0] at h;simp only at h
  rintro (⟨i,hi,hp⟩|⟨i,j,side,hij,hj,hs,hp⟩)
  ·have:=qiR (q98 h0 i (by omega) (by omega));simp_all
  ·have h1:=q98 h i (by omega) (by omega)
   have h2:=q98 h1 (j-(i+1)) (by omega) (by omega)
   simp only[show i+1+(j-(i+1))=j by omega] at h2
   have:=qrx h2 side hs;simp_all
theorem qeP{l:List DQ}(hl:l≠[])(hs:∀d∈l,0≤d.s):(ua l).isSome=true↔qx1 l:=by
 constructor
 ·intro h
  cases hf:ua l with
  | none=>rw[hf] at h;cases h
  | some w=>exact qnk (qme hf).1
 ·intro h
  cases hf:ua l with
  | none=>exact absurd (qs0 hl hs h) (qrR hf)
  | some w=>rfl
end Go.Eng

namespace Go.Eng
def GDs(l:List DQ):Prop:=∀d∈l,GD d
theorem GDs.ix{l:List DQ}(h:GDs l){i:Nat}(hi:i<l.length):GD (ix l i):=h _ (qol hi)
theorem qyn(q:Rat):(seq (tQ q) [48]=true)=(q=0):=by rw[zG,ql3]
theorem qjq(q:Rat):(0:Int)<qw (tQ q):=by
 have h1:=qdN q
 have h2:=qhD q
 unfold qw;omega
theorem qAJ(i:Nat):((i:Int)=(i:Int))=True:=by simp
def plc(p:SQ):List PV:=[.s (tQ p.fx),.s (tQ p.fy),.s (tQ p.ax),.s (tQ p.ay),.s (tQ p.h)]
theorem qj3(q:Rat):(¬(tQ q).getD 0 0=45)=(0≤q):=by
 by_cases h:0≤q
 ·exact propext ⟨fun _=>h,fun _=>qxI h⟩
 ·have:=qve (c:=q) (by grind)
  exact propext ⟨fun h'=>absurd this h',fun h'=>absurd h' h⟩
theorem qzu(b:Bool)(p q:Prop)[Decidable p][Decidable q](hb:(b=true)=p):(Go.Eng.beq b (decide q))=decide (p↔q):=by
 subst hb
 by_cases hq:q<;>cases b<;>simp[Go.Eng.beq,hq]<;>rfl
set_option maxHeartbeats 2000000 in
theorem qz3{l:List DQ}(hl:GDs l){i j:Nat}(hi:i<l.length)(hj:j<l.length)(side:Int) :
  (q9o (ix l i) (ix l j) (decide (i=j)) side=none∧∃a b c d e,(j5 [.r (rD l),.i (i:Int),.i (j:Int),.i side,.i 0]).run=some (0,[.s a,.s b,.s c,.s d,.s e,.b false,.i 0])) ∨
  ∃p,q9o (ix l i) (ix l j) (decide (i=j)) side=some p∧(j5 [.r (rD l),.i (i:Int),.i (j:Int),.i side,.i 0]).run=some (0,plc p++[.b true,.i 0]):=by
 rw[qh2]
 obtain⟨x1,x2,x3⟩:=qgv hi
 obtain⟨y1,y2,y3⟩:=qgv hj
 have ga:=hl.ix hi
 have gb:=hl.ix hj
 have bi:0≤(i:Int)∧(i:Int)<qL (rD l):=by rw[zH];omega
 have bj:0≤(j:Int)∧(j:Int)<qL (rD l):=by rw[zH];omega
 obtain⟨a,ha⟩:∃a,a=ix l i:=⟨_,rfl⟩
 obtain⟨b,hb⟩:∃b,b=ix l j:=⟨_,rfl⟩
 rw[←ha] at x1 x2 x3 ga ⊢
 rw[←hb] at y1 y2 y3 gb ⊢
 simp only[x1,x2,x3,y1,y2,y3]
 clear x1 x2 x3 y1 y2 y3 hb
 unfold q9o plc
 by_cases hij:i=j
 ·subst hij
  have z:tQ 0=[48]:=rfl
  by_cases hs:side=0
  ·subst hs
   right
   refine⟨⟨a.x,a.y,0,0,0⟩,by simp,?_⟩
   have e:ieq 0 0=true:=rfl
   simp only[STD,bi,and_self,z,e]
   rfl
  ·left
   refine⟨by simp[hs],tQ a.x,tQ a.y,[48],[48],[48],?_⟩
   have e:ieq side 0=false:=by simp[ieq,hs]
   simp only[STD,bi,and_self,e]
 ·have hij':¬(i:Int)=(j:Int):=by omega
  obtain⟨a1,a2,a3⟩:=ga.sh
  obtain⟨b1,b2,b3⟩:=gb.sh
  have dx:=q63 b1 a1
  have dy:=q63 b2 a2
  have far:=qjn b1 b2 a1 a2
  have h0:=qvQ b1 b2 a1 a2 (by omega) (by omega) (by omega)
  have h1:=qwm dx dy dx dy (by omega) (by omega)
  have hfd:(b.x-a.x)*(b.x-a.x)+(b.y-a.y)*(b.y-a.y)=q29 b.x b.y a.x a.y:=rfl
  rw[hfd] at h1
  by_cases hf:q29 b.x b.y a.x a.y=0
  ·left
   refine⟨by simp[hij,hf],[],[],[],[],[],?_⟩
   simp only[STD,bi,bj,and_self,hij',h0,h1,qyn,hf]
  ·have hpb:=fun neg=>qiA ga gb neg hf
   have ht:=qwj ga gb hf
   have n1:bnd 98 90 (q29 b.x b.y a.x a.y+a.s):=far.add a3 (by omega) (by omega)
   have h2:=qtW far a3 (by omega) (by omega) (by omega)
   have n2:bnd 112 100 (q29 b.x b.y a.x a.y+a.s-b.s):=n1.sub b3 (by omega) (by omega)
   have h3:=qpf n1 b3 (by omega) (by omega) (by omega)
   have h4:=qpA qlf far (by omega) (by omega)
   rw[qvc] at h4
   have n4:=qlf.mul far
   have hf2:2*q29 b.x b.y a.x a.y≠0:=by grind
   have h5:=qAl hf2 n2 n4 (by omega) (by omega)
   have h6:=qpA ht dx (by omega) (by omega)
   have h7:=qtW a1 (ht.mul dx) (by omega) (by omega) (by omega)
   have h8:=qpA ht dy (by omega) (by omega)
   have h9:=qtW a2 (ht.mul dy) (by omega) (by omega) (by omega)
   have h10:=qpf q66 dy (by omega) (by omega) (by omega)
   have h14:=qpf q66 dx (by omega) (by omega) (by omega)
   rw[show tQ 0=[48] from rfl] at h10 h14
   have h11:=qAl hf a3 far (by omega) (by omega)
   have h12:=qpA ht ht (by omega) (by omega)
   have h13:=qpf (a3.div hf far) (ht.mul ht) (by omega) (by omega) (by omega)
   have hbd:=fun (q:Rat)=>qzu (seq (tQ q) [48]) (q=0) (side=0) (qyn q)
   have hie:ieq side 0=decide (side=0):=rfl
   rw[if_neg (by simp[hij]),if_neg hf]
   obtain⟨p,hcr'⟩:∃p,p=qI a b (decide (side<0)):=⟨_,rfl⟩
   rw[←hcr']
   have hcr:=hcr'.symm
   clear hcr'
   rw[qhi] at hcr
   obtain⟨t,htt⟩:∃t,t=(q29 b.x b.y a.x a.y+a.s-b.s)/(2*q29 b.x b.y a.x a.y):=⟨_,rfl⟩
   rw[←htt] at hcr h5 h6 h7 h8 h9 h12 h13
   obtain⟨h,hh⟩:∃h,h=a.s/q29 b.x b.y a.x a.y-t*t:=⟨_,rfl⟩
   rw[←hh] at hcr h13
   have hp5:p.h=h:=by rw[←hcr]
   by_cases hs:side<0
   ·simp only[hs,decide_true,if_true] at hcr
    by_cases hn:0≤h
    ·by_cases hz:(h=0↔side=0)
     ·right
      refine⟨p,by rw[if_pos ⟨by rw[hp5];exact hn,by rw[hp5];exact hz⟩],?_⟩
      rw[←hcr]
      simp only[STD,bi,bj,and_self,hij',h0,h1,h2,h3,h4,h5,h6,h7,h8,h9,h10,h11,h12,h13,h14,qyn,hf,hs,Int.le_refl,qjq,qhP,qj3,hn,hie,hbd,hz,decide_true]
      rfl
     ·left
      refine⟨by rw[if_neg (by rw[hp5];exact fun c=>hz c.2)],tQ p.fx,tQ p.fy,tQ p.ax,tQ p.ay,tQ p.h,?_⟩
      rw[←hcr]
      simp only[STD,bi,bj,and_self,hij',h0,h1,h2,h3,h4,h5,h6,h7,h8,h9,h10,h11,h12,h13,h14,qyn,hf,hs,Int.le_refl,qjq,qhP,qj3,hn,hie,hbd,hz,decide_false]
    ·left
     refine⟨by rw[if_neg (by rw[hp5];exact fun c=>hn c.1)],tQ p.fx,tQ p.fy,tQ p.ax,tQ p.ay,tQ p.h,?_⟩
     rw[←hcr]
     simp only[STD,bi,bj,and_self,hij',h0,h1,h2,h3,h4,h5,h6,h7,h8,h9,h10,h11,h12,h13,h14,qyn,hf,hs,Int.le_refl,qjq,qhP,qj3,hn]
   ·simp only[hs,decide_false,Bool.false_eq_true,if_false] at hcr
    by_cases hn:0≤h
    ·by_cases hz:(h=0↔side=0)
     ·right
      refine⟨p,by rw[if_pos ⟨by rw[hp5];exact hn,by rw[hp5];exact hz⟩],?_⟩
      rw[←hcr]
      simp only[STD,bi,bj,and_self,hij',h0,h1,h2,h3,h4,h5,h6,h7,h8,h9,h10,h11,h12,h13,h14,qyn,hf,hs,Int.le_refl,qjq,qhP,qj3,hn,hie,hbd,hz,decide_true]
      rfl
     ·left
      refine⟨by rw[if_neg (by rw[hp5];exact fun c=>hz c.2)],tQ p.fx,tQ p.fy,tQ p.ax,tQ p.ay,tQ p.h,?_⟩
      rw[←hcr]
      simp only[STD,bi,bj,and_self,hij',h0,h1,h2,h3,h4,h5,h6,h7,h8,h9,h10,h11,h12,h13,h14,qyn,hf,hs,Int.le_refl,qjq,qhP,qj3,hn,hie,hbd,hz,decide_false]
    ·left
     refine⟨by rw[if_neg (by rw[hp5];exact fun c=>hn c.1)],tQ p.fx,tQ p.fy,tQ p.ax,tQ p.ay,tQ p.h,?_⟩
     rw[←hcr]
     simp only[STD,bi,bj,and_self,hij',h0,h1,h2,h3,h4,h5,h6,h7,h8,h9,h10,h11,h12,h13,h14,qyn,hf,hs,Int.le_refl,qjq,qhP,qj3,hn]
end Go.Eng

namespace Go.Eng
theorem qrw{α:Type}(p:Nat→Bool)(g:Nat→α)(n:Nat):(q27 (fun i=>if p i=true then none else some (g i)) 0 n=none∧∀i,i<n→p i=true)∨∃i,i<n∧p i=false∧q27 (fun i=>if p i=true then none else some (g i)) 0 n=some (g i):=by
 cases h:q27 (fun i=>if p i=true then none else some (g i)) 0 n with
 | none=>
  refine .inl ⟨rfl,fun i hi=>?_⟩
  have:=q98 h i (by omega) (by omega)
  cases hp:p i
  ·rw[hp] at this;simp at this
  ·rfl
 | some a=>
  obtain⟨j,-,hj,hf,-⟩:=qbj h
  cases hp:p j
  ·rw[hp] at hf;simp at hf
   exact .inr ⟨j,by omega,hp,by rw[hf]⟩
  ·rw[hp] at hf;simp at hf
theorem qyq(l:List DQ)(p:DQ→Bool):l.all p=true↔∀i,i<l.length→p (ix l i)=true:=by
 rw[List.all_eq_true]
 constructor
 ·intro h i hi;exact h _ (qol hi)
 ·intro h d hd
  obtain⟨i,hi,rfl⟩:=qbf hd
  exact h i hi
theorem qzt{l:List DQ}{p:DQ→Bool}{i:Nat}(hi:i<l.length)(h:p (ix l i)=false):l.all p=false:=by
 cases ha:l.all p
 ·rfl
 ·have:=(qyq l p).1 ha i hi;simp_all
theorem qtr{l:List DQ}(hl:GDs l)(hn:l.length<1000000){i j:Nat}(hi:i<l.length)(hj:j<l.length)(side:Int) :
  (z7 [.r (rD l),.i (i:Int),.i (j:Int),.i side,.i 0]).run=some (0,[.b (q46 l i j side),.i 0]):=by
 rw[qfn]
 unfold q46
 rcases qz3 hl hi hj side with⟨h1,a,b,c,d,e,h2⟩|⟨p,h1,h2⟩
 ·rw[h1]
  simp only[STD,h2]
 ·rw[h1]
  have hp:=qxF (hl.ix hi) (hl.ix hj) h1
  unfold plc at h2
  simp only[List.cons_append,List.nil_append] at h2
  have key:=qeB (S:=vC)
   (fun k=>[.r (rD l),.i (qL (rD l)),.i (k:Int),.r (rD l),.r (rD l),.r (rD l),.i (i:Int),.i (j:Int),.i side,.b true,.s (tQ p.fx),.s (tQ p.fy),.s (tQ p.ax),.s (tQ p.ay),.s (tQ p.h),.b true,.r (rD l),.i (i:Int),.i (j:Int),.i side,.s (tQ p.fx),.s (tQ p.fy),.s (tQ p.ax),.s (tQ p.ay),.s (tQ p.h),.b true,.s (tQ p.fx),.s (tQ p.fy),.s (tQ p.ax),.s (tQ p.ay),.s (tQ p.h),.b true,.b true,.r (rD l),.i 0,.i (i:Int),.i (j:Int),.i side,.s (tQ p.fx),.s (tQ p.fy),.s (tQ p.ax),.s (tQ p.ay),.s (tQ p.h)])
   (fun k=>if decide (q1s (ix l k) p)=true then none else some (1,[.i (k:Int),.r (rD l),.r (rD l),.r (rD l),.i (i:Int),.i (j:Int),.i side,.b true,.s (tQ p.fx),.s (tQ p.fy),.s (tQ p.ax),.s (tQ p.ay),.s (tQ p.h),.b true,.r (rD l),.i (i:Int),.i (j:Int),.i side,.s (tQ p.fx),.s (tQ p.fy),.s (tQ p.ax),.s (tQ p.ay),.s (tQ p.h),.b true,.s (tQ p.fx),.s (tQ p.fy),.s (tQ p.ax),.s (tQ p.ay),.s (tQ p.h),.b true,.b true,.r (rD l),.i 0,.i (i:Int),.i (j:Int),.i side,.s (tQ p.fx),.s (tQ p.fy),.s (tQ p.ax),.s (tQ p.ay),.s (tQ p.h)]))
   (0,[.r (rD l),.r (rD l),.r (rD l),.i (i:Int),.i (j:Int),.i side,.b true,.s (tQ p.fx),.s (tQ p.fy),.s (tQ p.ax),.s (tQ p.ay),.s (tQ p.h),.b true,.r (rD l),.i (i:Int),.i (j:Int),.i side,.s (tQ p.fx),.s (tQ p.fy),.s (tQ p.ax),.s (tQ p.ay),.s (tQ p.h),.b true,.s (tQ p.fx),.s (tQ p.fy),.s (tQ p.ax),.s (tQ p.ay),.s (tQ p.h),.b true,.b true,.r (rD l),.i 0,.i (i:Int),.i (j:Int),.i side,.s (tQ p.fx),.s (tQ p.fy),.s (tQ p.ax),.s (tQ p.ay),.s (tQ p.h)])
   l.length (by omega)
   (fun k hk hf=>by
    rw[uu]
    obtain⟨x1,x2,x3⟩:=qgv hk
    have hK:=qvF (hl.ix hk) hp
    by_cases hd:q1s (ix l k) p
    ·simp only[x1,x2,x3,STD,hK,hd,zH,q41 hk (show l.length<9223372036854775808 by omega),show (k:Int)<(l.length:Int) by omega,show (0:Int)≤(k:Int) by omega,and_self,decide_true]
    ·simp[hd] at hf)
   (fun k r hk hf=>by
    rw[uu]
    obtain⟨x1,x2,x3⟩:=qgv hk
    have hK:=qvF (hl.ix hk) hp
    by_cases hd:q1s (ix l k) p
    ·simp[hd] at hf
    ·simp only[hd,decide_false,Bool.false_eq_true,if_false,Option.some.injEq] at hf
     subst hf
     simp only[x1,x2,x3,STD,hK,hd,zH,show (k:Int)<(l.length:Int) by omega,show (0:Int)≤(k:Int) by omega,and_self,decide_false])
   (by rw[uu];simp only[STD,zH,show ¬(l.length:Int)<(l.length:Int) by omega])
  rcases qrw (fun k=>decide (q1s (ix l k) p)) (fun k=>((1,[.i (k:Int),.r (rD l),.r (rD l),.r (rD l),.i (i:Int),.i (j:Int),.i side,.b true,.s (tQ p.fx),.s (tQ p.fy),.s (tQ p.ax),.s (tQ p.ay),.s (tQ p.h),.b true,.r (rD l),.i (i:Int),.i (j:Int),.i side,.s (tQ p.fx),.s (tQ p.fy),.s (tQ p.ax),.s (tQ p.ay),.s (tQ p.h),.b true,.s (tQ p.fx),.s (tQ p.fy),.s (tQ p.ax),.s (tQ p.ay),.s (tQ p.h),.b true,.b true,.r (rD l),.i 0,.i (i:Int),.i (j:Int),.i side,.s (tQ p.fx),.s (tQ p.fy),.s (tQ p.ax),.s (tQ p.ay),.s (tQ p.h)]):Nat×List PV)) l.length with⟨s1,s2⟩|⟨k,hk,s2,s1⟩
  ·rw[s1] at key
   have hall:(l.all fun d=>decide (q1s d p))=true:=(qyq l _).2 s2
   simp only[Option.getD_none] at key
   simp only[STD,h2,hall]
   have key':=key
   simp only[show ((0:Nat):Int)=0 from rfl] at key'
   simp only[STD,key',zn key',show ieq 0 0=true from rfl]
  ·rw[s1] at key
   have hall:=qzt (p:=fun d=>decide (q1s d p)) hk s2
   simp only[Option.getD_some] at key
   simp only[STD,h2,hall]
   have key':=key
   simp only[show ((0:Nat):Int)=0 from rfl] at key'
   simp only[STD,key',zn key',show ¬(1=0) by omega,show (0:Int)≤(k:Int) by omega]
end Go.Eng

namespace Go.Eng
theorem q1U{S:List PV→TR}{α:Type}(st:Nat→List PV)(f:Nat→Option α)(g:α→List PV)(fin:List PV)(n:Nat)(hn:n<9223372036854775808)
  (h:∀i,i<n→(S (st i)).run=(f i).elim (some (0,st (i+1))) (fun a=>some (2,g a))) (h3:(S (st n)).run=some (1,fin)) :
  (qf S (st 0)).run=some ((q27 f 0 n).elim (0,fin) (fun a=>(1,g a))):=by
 have key:=qeB st (fun i=>(f i).map fun a=>(1,g a)) (0,fin) n hn (fun i hi hf=>by
  rw[h i hi]
  cases hfi:f i with
  | none=>rfl
  | some a=>rw[hfi] at hf;cases hf) (fun i r hi hf=>by
  rw[h i hi]
  cases hfi:f i with
  | none=>rw[hfi] at hf;cases hf
  | some a=>rw[hfi] at hf;simp at hf;rw[←hf];rfl) h3
 rw[key,qoM]
 cases q27 f 0 n<;>rfl
def sd(s:Nat):Int:=cI [[.i 0],[.i 1],[.i (-1)]] (s:Int) 0
theorem quB(l:List DQ)(i j:Nat):q27 (fun s=>qlX l i j (sd s)) 0 3=qcZ l i j:=by
 have e0:sd 0=0:=rfl
 have e1:sd 1=1:=rfl
 have e2:sd 2=-1:=rfl
 simp only[q27,e0,e1,e2]
 unfold qcZ
 cases qlX l i j 0
 ·cases qlX l i j 1
  ·cases qlX l i j (-1)<;>rfl
  ·rfl
 ·rfl
def dex(l:List DQ)(w:Nat×Nat×Int):List PV:=[.i 0,.r (rD l),.i (w.1:Int),.i (w.2.1:Int),.i w.2.2,.b true,.i (l.length:Int)]
def fW(o:Option (Nat×Nat×Int)):List PV:=o.elim [.i 0,.i 0,.i 0,.b false] (fun w=>[.i (w.1:Int),.i (w.2.1:Int),.i w.2.2,.b true])
theorem n3:qL [[U.i 0],[U.i 1],[U.i (-1)]]=3:=rfl
set_option maxHeartbeats 600000 in
theorem qsh{l:List DQ}(hl:GDs l)(hn:l.length<1000000):(qK [.r (rD l),.i 0]).run=some (0,fW (ua l)++[.i 0]):=by
 rw[qgj]
 have big:l.length<9223372036854775808:=by omega
 have A:=q1U (S:=vX) (fun k=>[.i (l.length:Int),.i (k:Int),.i 0,.r (rD l),.i 0,.i 0,.i 0,.b false,.i (l.length:Int)]) (fun k=>qlX l k k 0) (dex l)
  [.i 0,.r (rD l),.i 0,.i 0,.i 0,.b false,.i (l.length:Int)] l.length big
  (fun k hk=>by
   rw[q3i]
   have hp:=qtr hl hn hk hk 0
   unfold qlX
   by_cases c:q46 l k k 0=true
   ·rw[if_pos c]
    simp only[STD,hp,c,show (k:Int)<(l.length:Int) by omega,dex]
   ·rw[if_neg c]
    simp only[STD,hp,c,show (k:Int)<(l.length:Int) by omega,q41 hk big]
    rfl)
  (by rw[q3i];simp only[STD,show ¬(l.length:Int)<(l.length:Int) by omega])
 have B:=fun i j (hi:i<l.length) (hj:j<l.length)=>q1U (S:=vq) (fun s=>[.i (i:Int),.i (j:Int),.i (l.length:Int),.i (i:Int),.i 3,.i (s:Int),.i 0,.r (rD l),.i 0,.i 0,.i 0,.b false,.i (l.length:Int),.r [[.i 0],[.i 1],[.i (-1)]]]) (fun s=>qlX l i j (sd s)) (dex l)
  [.i (i:Int),.i (j:Int),.i (l.length:Int),.i (i:Int),.i 0,.r (rD l),.i 0,.i 0,.i 0,.b false,.i (l.length:Int)] 3 (by omega)
  (fun s hs=>by
   rw[q30]
   have hp:=qtr hl hn hi hj (sd s)
   have esd:cI [[.i 0],[.i 1],[.i (-1)]] (s:Int) 0=sd s:=rfl
   unfold qlX
   by_cases c:q46 l i j (sd s)=true
   ·rw[if_pos c]
    simp only[STD,hp,c,esd,n3,show (s:Int)<3 by omega,show (0:Int)≤(s:Int) by omega,and_self,dex]
   ·rw[if_neg c]
    simp only[STD,hp,c,esd,n3,show (s:Int)<3 by omega,show (0:Int)≤(s:Int) by omega,and_self,q41 hs (show 3<9223372036854775808 by omega)]
    rfl)
  (by rw[q30];simp only[STD,show ((3:Nat):Int)=3 from rfl,show ¬(3:Int)<3 by omega])
 have C:=fun i (hi:i<l.length)=>q1U (S:=vB) (fun k=>[.i (i:Int),.i ((i+1+k:Nat):Int),.i (l.length:Int),.i (i:Int),.i 0,.r (rD l),.i 0,.i 0,.i 0,.b false,.i (l.length:Int)]) (fun k=>qcZ l i (i+1+k)) (dex l)
  [.i (l.length:Int),.i (i:Int),.i 0,.r (rD l),.i 0,.i 0,.i 0,.b false,.i (l.length:Int)] (l.length-(i+1)) (by omega)
  (fun k hk=>by
   rw[q2Z]
   have hj:i+1+k<l.length:=by omega
   have b:=B i (i+1+k) hi hj
   rw[quB] at b
   simp only[show ((0:Nat):Int)=0 from rfl] at b
   have w:=q41 hj big
   cases hs:qcZ l i (i+1+k) with
   | none=>
    rw[hs] at b
    simp only[Option.elim] at b ⊢
    simp only[STD,b,zn b,n3,show ((i+1+k:Nat):Int)<(l.length:Int) by omega,w]
    rfl
   | some v=>
    rw[hs] at b
    simp only[Option.elim,dex] at b ⊢
    simp only[STD,b,zn b,n3,show ((i+1+k:Nat):Int)<(l.length:Int) by omega,show ¬(1=0) by omega])
  (by rw[q2Z];simp only[STD,show ¬((i+1+(l.length-(i+1)):Nat):Int)<(l.length:Int) by omega])
 have D:=q1U (S:=vV) (fun i=>[.i (l.length:Int),.i (i:Int),.i 0,.r (rD l),.i 0,.i 0,.i 0,.b false,.i (l.length:Int)]) (fun i=>q27 (fun k=>qcZ l i (i+1+k)) 0 (l.length-(i+1))) (dex l)
  [.i 0,.r (rD l),.i 0,.i 0,.i 0,.b false,.i (l.length:Int)] l.length big
  (fun i hi=>by
   rw[q3w]
   have c:=C i hi
   simp only[Nat.add_zero] at c
   have w:=q41 hi big
   cases hs:q27 (fun k=>qcZ l i (i+1+k)) 0 (l.length-(i+1)) with
   | none=>
    rw[hs] at c
    simp only[Option.elim] at c ⊢
    simp only[STD,w,c,zn c,show (i:Int)<(l.length:Int) by omega]
   | some v=>
    rw[hs] at c
    simp only[Option.elim,dex] at c ⊢
    simp only[STD,w,c,zn c,show (i:Int)<(l.length:Int) by omega,show ¬(1=0) by omega])
  (by rw[q3w];simp only[STD,show ¬(l.length:Int)<(l.length:Int) by omega])
 simp only[show ((0:Nat):Int)=0 from rfl] at A D
 unfold ua
 cases hs:q27 (fun i=>qlX l i i 0) 0 l.length with
 | some v=>
  rw[hs] at A
  simp only[Option.elim,dex] at A
  simp only[STD,zH,A,zn A,show ¬(1=0) by omega,fW,Option.elim]
  rfl
 | none=>
  rw[hs] at A
  simp only[Option.elim] at A
  simp only[]
  cases hs':q27 (fun i=>q27 (fun k=>qcZ l i (i+1+k)) 0 (l.length-(i+1))) 0 l.length with
  | none=>
   rw[hs'] at D
   simp only[Option.elim] at D
   simp only[STD,zH,A,zn A,D,zn D,fW,Option.elim]
   rfl
  | some v=>
   rw[hs'] at D
   simp only[Option.elim,dex] at D
   simp only[STD,zH,A,zn A,D,zn D,fW,Option.elim,show ¬(1=0) by omega]
   rfl
end Go.Eng

namespace Go.Eng
theorem qAQ{x y s:List UInt8}(h:qtD x y s=0)(hx:shT x)(hy:shT y)(hs:shT s):∃d:DQ,GD d∧x=tQ d.x∧y=tQ d.y∧s=tQ d.s:=by
 obtain⟨d,rfl,rfl,rfl,-,-,-,hn⟩:=qzj h
 exact⟨d,⟨qrU hx,qrU hy,qAy (qrU hs),hn⟩,rfl,rfl,rfl⟩
theorem qtk{d:DQ}(h:GD d):qtD (tQ d.x) (tQ d.y) (tQ d.s)=0:=
 qze ((wK h.x).ok (by omega) (by omega)) ((wK h.y).ok (by omega) (by omega)) ((q2V h.s).ok (by omega) (by omega)) h.nn
theorem qoj{s:List UInt8}(h:shT s):s.length≤1000000:=by unfold shT at h;omega
theorem qsp{a b:DQ}(ga:GD a)(gb:GD b) :
  (q3B [.s (tQ a.x),.s (tQ a.y),.s (tQ a.s),.s (tQ b.x),.s (tQ b.y),.s (tQ b.s)]).run=some (0,[.i (qyZ a b),.i 0]):=by
 rw[qm3]
 have ca:=q8g _ _ _ (show (tQ a.x).length≤1000000 from by have:=q51 ((wK ga.x).ok (by omega) (by omega));omega) (show (tQ a.y).length≤1000000 from by have:=q51 ((wK ga.y).ok (by omega) (by omega));omega) (show (tQ a.s).length≤1000000 from by have:=q51 ((q2V ga.s).ok (by omega) (by omega));omega)
 have cb:=q8g _ _ _ (show (tQ b.x).length≤1000000 from by have:=q51 ((wK gb.x).ok (by omega) (by omega));omega) (show (tQ b.y).length≤1000000 from by have:=q51 ((wK gb.y).ok (by omega) (by omega));omega) (show (tQ b.s).length≤1000000 from by have:=q51 ((q2V gb.s).ok (by omega) (by omega));omega)
 rw[qtk ga] at ca
 rw[qtk gb] at cb
 have nr:qL [[U.s (tQ a.x),U.s (tQ a.y),U.s (tQ a.s)],[U.s (tQ b.x),U.s (tQ b.y),U.s (tQ b.s)]]=2:=rfl
 have r0:∀j,cS [[U.s (tQ a.x),U.s (tQ a.y),U.s (tQ a.s)],[U.s (tQ b.x),U.s (tQ b.y),U.s (tQ b.s)]] 0 j=cS [[U.s (tQ a.x),U.s (tQ a.y),U.s (tQ a.s)]] 0 j:=fun j=>rfl
 have r1:∀j,cS [[U.s (tQ a.x),U.s (tQ a.y),U.s (tQ a.s)],[U.s (tQ b.x),U.s (tQ b.y),U.s (tQ b.s)]] 1 j=cS [[U.s (tQ b.x),U.s (tQ b.y),U.s (tQ b.s)]] 0 j:=fun j=>rfl
 have q0:∀d:DQ,cS [[U.s (tQ d.x),U.s (tQ d.y),U.s (tQ d.s)]] 0 0=tQ d.x∧cS [[U.s (tQ d.x),U.s (tQ d.y),U.s (tQ d.s)]] 0 1=tQ d.y∧cS [[U.s (tQ d.x),U.s (tQ d.y),U.s (tQ d.s)]] 0 2=tQ d.s:=fun d=>⟨rfl,rfl,rfl⟩
 have L:=q1U (S:=q1p) (fun k=>[.i 2,.i (k:Int),.s (tQ a.x),.s (tQ a.y),.s (tQ a.s),.s (tQ b.x),.s (tQ b.y),.s (tQ b.s),.r [[U.s (tQ a.x),U.s (tQ a.y),U.s (tQ a.s)],[U.s (tQ b.x),U.s (tQ b.y),U.s (tQ b.s)]]]) (fun _=>(none:Option Nat)) (fun _=>[])
  [.s (tQ a.x),.s (tQ a.y),.s (tQ a.s),.s (tQ b.x),.s (tQ b.y),.s (tQ b.s)] 2 (by omega)
  (fun k hk=>by
   rw[qbM]
   have w:=q41 hk (show 2<9223372036854775808 by omega)
   rcases (show k=0∨k=1 by omega) with rfl|rfl
   ·simp only[show ((0:Nat):Int)=0 from rfl,r0,q0,nr] at w ⊢
    simp only[STD,ca,w,Int.le_refl,show (0:Int)<2 by omega,and_self]
    rfl
   ·simp only[show ((1:Nat):Int)=1 from rfl,r1,q0,nr] at w ⊢
    simp only[STD,cb,w,show (0:Int)≤1 by omega,show (1:Int)<2 by omega,and_self]
    rfl)
  (by rw[qbM];simp only[STD,show ((2:Nat):Int)=2 from rfl,show ¬(2:Int)<2 by omega])
 simp only[show ((0:Nat):Int)=0 from rfl,q27,Option.elim] at L
 have w1:=qf2 ga.sh gb.sh ga.nn gb.nn
 have w2:=qf2 gb.sh ga.sh gb.nn ga.nn
 have w3:=qyh ga.sh gb.sh ga.nn gb.nn qxd
 rw[qyL] at w3
 have bd:=qya a b (-2)
 have wn:=qpQ (x:=qpk a b (-2)) (by omega)
 unfold qyZ
 by_cases c1:q2g a b
 ·simp only[STD,nr,L,zn L,w1,c1]
 ·by_cases c2:q2g b a
  ·simp only[STD,nr,L,zn L,w1,w2,c1,c2]
  ·simp only[STD,nr,L,zn L,w1,w2,w3,c1,c2,wn]
theorem qul{d:DQ}{px py:Rat}(gd:GD d)(hx:bnd 12 10 px)(hy:bnd 12 10 py) :
  (vH [.s (tQ d.x),.s (tQ d.y),.s (tQ d.s),.s (tQ px),.s (tQ py)]).run=some (0,[.b (decide (q29 d.x d.y px py≤d.s)),.i 0]):=by
 rw[qjF]
 have ca:=q8g _ _ _ (show (tQ d.x).length≤1000000 from by have:=q51 ((wK gd.x).ok (by omega) (by omega));omega) (show (tQ d.y).length≤1000000 from by have:=q51 ((wK gd.y).ok (by omega) (by omega));omega) (show (tQ d.s).length≤1000000 from by have:=q51 ((q2V gd.s).ok (by omega) (by omega));omega)
 rw[qtk gd] at ca
 have c0:=qa4 (hx.ok (by omega) (by omega))
 have c1:=qa4 (hy.ok (by omega) (by omega))
 have L:=q1U (S:=kn) (fun k=>[.i 2,.i (k:Int),.s (tQ d.x),.s (tQ d.y),.s (tQ d.s),.s (tQ px),.s (tQ py),.r [[.s (tQ px)],[.s (tQ py)]]]) (fun _=>(none:Option Nat)) (fun _=>[])
  [.s (tQ d.x),.s (tQ d.y),.s (tQ d.s),.s (tQ px),.s (tQ py)] 2 (by omega)
  (fun k hk=>by
   rw[q9r]
   have w:=q41 hk (show 2<9223372036854775808 by omega)
   rcases (show k=0∨k=1 by omega) with rfl|rfl
   ·have c:(zj [.s (cS [[.s (tQ px)],[.s (tQ py)]] ((0:Nat):Int) 0)]).run=_:=c0
    simp only[STD,c,w,show ((0:Nat):Int)<2 by omega,show (0:Int)≤((0:Nat):Int) by omega,show qL [[U.s (tQ px)],[U.s (tQ py)]]=2 from rfl,and_self]
    rfl
   ·have c:(zj [.s (cS [[.s (tQ px)],[.s (tQ py)]] ((1:Nat):Int) 0)]).run=_:=c1
    simp only[STD,c,w,show ((1:Nat):Int)<2 by omega,show (0:Int)≤((1:Nat):Int) by omega,show qL [[U.s (tQ px)],[U.s (tQ py)]]=2 from rfl,and_self]
    rfl)
  (by rw[q9r];simp only[STD,show ((2:Nat):Int)=2 from rfl,show ¬(2:Int)<2 by omega])
 simp only[show ((0:Nat):Int)=0 from rfl,q27,Option.elim] at L
 obtain⟨d1,d2,d3⟩:=gd.sh
 have f:=qAa d1 d2 hx hy
 have fb:=qjn d1 d2 hx hy
 have o:=qvD fb d3 (by omega) (by omega) (by omega)
 by_cases c:q29 d.x d.y px py≤d.s
 ·simp only[STD,ca,show qL [[U.s (tQ px)],[U.s (tQ py)]]=2 from rfl,L,zn L,f,o,qf9,c,show ieq 0 0=true from rfl,decide_true]
 ·simp only[STD,ca,show qL [[U.s (tQ px)],[U.s (tQ py)]]=2 from rfl,L,zn L,f,o,qf9,c,decide_false]
end Go.Eng

namespace Go.Eng
noncomputable def cD(x:R)(i:Nat):Int:=qtD (cS x (i:Int) 0) (cS x (i:Int) 1) (cS x (i:Int) 2)
noncomputable def lE(x:R):Int:=if 64<x.length then 5 else if qbi (cD x) x.length=0 then (if x.length=0 then 13 else 0) else qbi (cD x) x.length
theorem qqa(x:R)(h:64<x.length∨∀i,i<x.length→∀j,(cS x (i:Int) j).length≤1000000):(zi [.r x]).run=some (0,[.i (lE x)]):=by
 rw[qpi]
 unfold lE
 by_cases hn:64<x.length
 ·have:(64:Int)<qL x:=by unfold qL;omega
  simp only[STD,this,hn]
 ·have h':∀i,i<x.length→∀j,(cS x (i:Int) j).length≤1000000:=by
   rcases h with h|h
   ·omega
   ·exact h
  have hn':¬(64:Int)<qL x:=by unfold qL;omega
  have L:=qoG (S:=yS) (fun k=>[.r x,.r x,.i (qL x),.i (k:Int)]) (cD x) [] [.r x] x.length (by omega)
   (fun i hi=>by
    rw[qeK]
    have c:=q8g _ _ _ (h' i hi 0) (h' i hi 1) (h' i hi 2)
    have w:=q41 hi (show x.length<9223372036854775808 by omega)
    by_cases e:qtD (cS x (i:Int) 0) (cS x (i:Int) 1) (cS x (i:Int) 2)=0
    ·simp only[STD,c,e,w,qfQ hi,yD,and_self,cD]
    ·simp only[STD,c,e,qfQ hi,yD,and_self,cD])
   (by rw[qeK];simp only[STD,ql2])
  simp only[show ((0:Nat):Int)=0 from rfl] at L
  by_cases e:qbi (cD x) x.length=0
  ·rw[if_pos e] at L
   by_cases z:x.length=0
   ·have:qL x=0:=by unfold qL;omega
    rw[if_neg hn,if_pos e,if_pos z]
    have L':=L
    rw[this] at L'
    simp only[STD,this,show ¬(64:Int)<0 by omega,L',zn L']
   ·have:¬qL x=0:=by unfold qL;omega
    simp only[STD,hn',L,zn L,hn,e,z,this]
  ·rw[if_neg e] at L
   simp only[STD,hn',L,zn L,hn,e,show ¬(1=0) by omega]
theorem qjX(x:R)(h:64<x.length∨∀i,i<x.length→∀j,(cS x (i:Int) j).length≤1000000):(uW [.r x]).run=some (0,[.i (lE x)]):=by
 rw[qhr]
 unfold lE
 by_cases hn:64<x.length
 ·have:(64:Int)<qL x:=by unfold qL;omega
  simp only[STD,this,hn]
 ·have h':∀i,i<x.length→∀j,(cS x (i:Int) j).length≤1000000:=by
   rcases h with h|h
   ·omega
   ·exact h
  have hn':¬(64:Int)<qL x:=by unfold qL;omega
  have L:=qoG (S:=jG) (fun k=>[.r x,.i (k:Int)]) (cD x) [] [.r x] x.length (by omega)
   (fun i hi=>by
    rw[q4s]
    have c:=qib _ _ _ (h' i hi 0) (h' i hi 1) (h' i hi 2)
    have w:=q41 hi (show x.length<9223372036854775808 by omega)
    by_cases e:qtD (cS x (i:Int) 0) (cS x (i:Int) 1) (cS x (i:Int) 2)=0
    ·simp only[STD,c,e,w,qfQ hi,yD,and_self,cD]
    ·simp only[STD,c,e,qfQ hi,yD,and_self,cD])
   (by rw[q4s];simp only[STD,ql2])
  simp only[show ((0:Nat):Int)=0 from rfl] at L
  by_cases e:qbi (cD x) x.length=0
  ·rw[if_pos e] at L
   by_cases z:x.length=0
   ·have:qL x=0:=by unfold qL;omega
    rw[if_neg hn,if_pos e,if_pos z]
    simp only[STD,this,show ¬(64:Int)<0 by omega,L,zn L]
   ·have:¬qL x=0:=by unfold qL;omega
    simp only[STD,hn',L,zn L,hn,e,z,this]
  ·rw[if_neg e] at L
   simp only[STD,hn',L,zn L,hn,e,show ¬(1=0) by omega]
instance (s:List UInt8):Decidable (shT s):=by unfold shT;infer_instance
theorem qzH(s:List UInt8):((12:Int)<qw s)=¬shT s:=by unfold qw shT;exact propext ⟨fun h=>by omega,fun h=>by omega⟩
theorem qwS(x y s:List UInt8):(q0W [.s x,.s y,.s s]).run=some (0,[.b (decide (shT x∧shT y∧shT s))]):=by
 rw[qny]
 have nr:qL [[U.s x],[U.s y],[U.s s]]=3:=rfl
 have L:=q1U (S:=u5) (fun k=>[.i 3,.i (k:Int),.r [[.s x],[.s y],[.s s]]]) (fun k=>if shT (cS [[.s x],[.s y],[.s s]] (k:Int) 0) then none else some ()) (fun _=>[.b false])
  [] 3 (by omega)
  (fun k hk=>by
   rw[qcW]
   have w:=q41 hk (show 3<9223372036854775808 by omega)
   by_cases c:shT (cS [[.s x],[.s y],[.s s]] (k:Int) 0)
   ·rw[if_pos c]
    simp only[STD,nr,show (k:Int)<3 by omega,yD,and_self,qzH,c,w]
    rfl
   ·rw[if_neg c]
    simp only[STD,nr,show (k:Int)<3 by omega,yD,and_self,qzH,c]
    try rfl)
  (by rw[qcW];simp only[STD,show ((3:Nat):Int)=3 from rfl,show ¬(3:Int)<3 by omega])
 have d0:cS [[.s x],[.s y],[.s s]] ((0:Nat):Int) 0=x:=rfl
 have d1:cS [[.s x],[.s y],[.s s]] ((0+1:Nat):Int) 0=y:=rfl
 have d2:cS [[.s x],[.s y],[.s s]] ((0+1+1:Nat):Int) 0=s:=rfl
 simp only[q27,d0,d1,d2] at L
 simp only[show ((0:Nat):Int)=0 from rfl] at L
 by_cases c0:shT x
 ·by_cases c1:shT y
  ·by_cases c2:shT s
   ·simp only[c0,c1,c2,if_true,Option.elim] at L
    simp only[STD,nr,L,zn L,c0,c1,c2,and_self,decide_true]
   ·simp only[c0,c1,c2,if_true,if_false,Option.elim] at L
    simp only[STD,nr,L,zn L,c0,c1,c2,and_false,decide_false,show ¬(1=0) by omega]
  ·simp only[c0,c1,if_true,if_false,Option.elim] at L
   simp only[STD,nr,L,zn L,c0,c1,and_false,false_and,decide_false,show ¬(1=0) by omega]
 ·simp only[c0,if_false,Option.elim] at L
  simp only[STD,nr,L,zn L,c0,false_and,decide_false,show ¬(1=0) by omega]
def qj7(x:R)(i:Nat):Prop:=shT (cS x (i:Int) 0)∧shT (cS x (i:Int) 1)∧shT (cS x (i:Int) 2)
theorem qyS(x:R):∃b,(q4a [.r x]).run=some (0,[.b b])∧(b=true→(x.length≤5∧∀i,i<x.length→qj7 x i)∨64<x.length)∧(x.length≤5→(∀i,i<x.length→qj7 x i)→b=true):=by
 rw[qqX]
 have L:=q1U (S:=jK) (fun k=>[.r x,.i (k:Int)]) (fun k=>if decide (shT (cS x (k:Int) 0)∧shT (cS x (k:Int) 1)∧shT (cS x (k:Int) 2))=true then none else some ()) (fun _=>[.b false])
  [.r x] (min x.length 6) (by omega)
  (fun k hk=>by
   rw[qfM]
   have hk':k<x.length:=by omega
   have w:=q41 hk (show min x.length 6<9223372036854775808 by omega)
   have s:=qwS (cS x (k:Int) 0) (cS x (k:Int) 1) (cS x (k:Int) 2)
   by_cases c:shT (cS x (k:Int) 0)∧shT (cS x (k:Int) 1)∧shT (cS x (k:Int) 2)
   ·have c':decide (shT (cS x (k:Int) 0)∧shT (cS x (k:Int) 1)∧shT (cS x (k:Int) 2))=true:=by simp[c]
    rw[if_pos c']
    rw[c'] at s
    simp only[STD,s,qfQ hk',yD,and_self,w,show (k:Int)<6 by omega]
    rfl
   ·have c':decide (shT (cS x (k:Int) 0)∧shT (cS x (k:Int) 1)∧shT (cS x (k:Int) 2))=false:=by simp only[c,decide_false]
    rw[c'] at s
    rw[c',if_neg (by simp)]
    simp only[STD,s,qfQ hk',yD,and_self,show (k:Int)<6 by omega]
    try rfl)
  (by
   rw[qfM]
   by_cases c:x.length≤6
   ·rw[Nat.min_eq_left c]
    simp only[STD,ql2]
   ·rw[Nat.min_eq_right (by omega)]
    have:((6:Nat):Int)<qL x:=by unfold qL;omega
    simp only[STD,this,show ¬((6:Nat):Int)<6 by omega])
 simp only[show ((0:Nat):Int)=0 from rfl] at L
 rcases qrw (fun k=>decide (shT (cS x (k:Int) 0)∧shT (cS x (k:Int) 1)∧shT (cS x (k:Int) 2))) (fun _=>()) (min x.length 6) with⟨s1,s2⟩|⟨k,hk,s2,s1⟩
 ·rw[s1] at L
  simp only[Option.elim] at L
  by_cases c:x.length≤5
  ·have:qL x≤5:=by unfold qL;omega
   refine⟨true,by simp only[STD,L,zn L,this],fun _=>.inl ⟨c,fun i hi=>?_⟩,fun _ _=>rfl⟩
   have:=s2 i (by omega)
   simpa[qj7] using this
  ·have h5:¬qL x≤5:=by unfold qL;omega
   by_cases c':64<x.length
   ·have h6:(64:Int)<qL x:=by unfold qL;omega
    exact⟨ilt (qL x) 128,by simp only[STD,L,zn L,h5,h6],fun _=>.inr c',fun h=>absurd h c⟩
   ·have h6:¬(64:Int)<qL x:=by unfold qL;omega
    exact⟨false,by simp only[STD,L,zn L,h5,h6],fun h=>(by simp at h),fun h=>absurd h c⟩
 ·rw[s1] at L
  simp only[Option.elim] at L
  refine⟨false,by simp only[STD,L,zn L,show ¬(1=0) by omega],fun h=>(by simp at h),fun h1 h2=>?_⟩
  have:=h2 k (by omega)
  unfold qj7 at this
  simp only[this,and_self,decide_true] at s2
  simp at s2
def isD(x:R):Prop:=∀r,r∈x→∃a b c,r=[U.s a,U.s b,U.s c]
theorem qzs{x:R}(h:UFit (.sl [.str,.str,.str]) (.l x)):isD x:=by
 cases h with
 | sl row l h hl hf=>
  intro r hr
  have hlen:=hl r hr
  match r,hlen with
  | [a,b,c],_=>
   have ha:=hf [a,b,c] 0 .str a hr rfl rfl
   have hb:=hf [a,b,c] 1 .str b hr rfl rfl
   have hc:=hf [a,b,c] 2 .str c hr rfl rfl
   cases ha;cases hb;cases hc
   exact⟨_,_,_,rfl⟩
theorem qpa(x:R)(i:Nat)(j:Nat):cS x (i:Int) j=((x.getD i []).getD j (.i 0)).toS:=rfl
theorem quX:∀{x:R},isD x→(∀i,i<x.length→qj7 x i)→(∀i,i<x.length→cD x i=0)→∃l,x=rD l∧GDs l∧l.length=x.length
 | [],_,_,_=>⟨[],rfl,(fun d h=>nomatch h),rfl⟩
 | r::x,h1,h2,h3=>by
  obtain⟨l,e1,e2,e3⟩:=quX (x:=x) (fun r hr=>h1 r (List.mem_cons_of_mem _ hr))
   (fun i hi=>by have:=h2 (i+1) (by simp;omega);unfold qj7 at this ⊢;simp only[qpa] at this ⊢;simpa using this)
   (fun i hi=>by have:=h3 (i+1) (by simp;omega);unfold cD at this ⊢;simp only[qpa] at this ⊢;simpa using this)
  obtain⟨a,b,c,rfl⟩:=h1 r List.mem_cons_self
  have s:=h2 0 (by simp)
  have k:=h3 0 (by simp)
  unfold qj7 at s
  unfold cD at k
  have z0:cS ([U.s a,U.s b,U.s c]::x) ((0:Nat):Int) 0=a:=rfl
  have z1:cS ([U.s a,U.s b,U.s c]::x) ((0:Nat):Int) 1=b:=rfl
  have z2:cS ([U.s a,U.s b,U.s c]::x) ((0:Nat):Int) 2=c:=rfl
  rw[z0,z1,z2] at s k
  obtain⟨d,gd,rfl,rfl,rfl⟩:=qAQ k s.1 s.2.1 s.2.2
  refine⟨d::l,by rw[e1];rfl,fun e he=>?_,by simp[e3]⟩
  rcases List.mem_cons.1 he with rfl|he
  ·exact gd
  ·exact e2 e he
theorem qwG{x:R}(hD:isD x)(hF:(x.length≤5∧∀i,i<x.length→qj7 x i)∨64<x.length)(h:lE x=0):∃l,x=rD l∧GDs l∧l≠[]∧l.length≤5:=by
 unfold lE at h
 split at h
 ·omega
 ·rename_i hn
  obtain⟨h5,hs⟩:x.length≤5∧∀i,i<x.length→qj7 x i:=by
   rcases hF with h|h
   ·exact h
   ·omega
  split at h
  ·rename_i he
   split at h
   ·omega
   ·rename_i hz
    obtain⟨l,e1,e2,e3⟩:=quX hD hs (fun i hi=>qrT he i hi)
    exact⟨l,e1,e2,fun h=>hz (by rw[←e3,h];rfl),by omega⟩
  ·rename_i he;exact absurd h he
theorem qyM{x:R}(hF:(x.length≤5∧∀i,i<x.length→qj7 x i)∨64<x.length)(hD:isD x):64<x.length∨∀i,i<x.length→∀j,(cS x (i:Int) j).length≤1000000:=by
 rcases hF with⟨h1,h2⟩|h
 ·right
  intro i hi j
  obtain⟨s0,s1,s2⟩:=h2 i hi
  match j with
  | 0=>exact qoj s0
  | 1=>exact qoj s1
  | 2=>exact qoj s2
  | j+3=>
   rw[qpa]
   have hm:x.getD i []∈x:=by simp[List.getD_eq_getElem?_getD,hi]
   obtain⟨a,b,c,e⟩:=hD _ hm
   rw[e];simp[List.getD_eq_getElem?_getD,U.toS]
 ·exact .inl h
theorem qAZ{l:List DQ}(hl:GDs l)(h0:l≠[])(hn:l.length≤64):lE (rD l)=0:=by
 have hlen:(rD l).length=l.length:=by simp[rD]
 have hz:l.length≠0:=fun h=>h0 (List.length_eq_zero_iff.1 h)
 unfold lE
 rw[hlen,if_neg (by omega),if_neg hz,if_pos]
 refine qwa fun i hi=>?_
 obtain⟨x1,x2,x3⟩:=qgv hi
 unfold cD
 rw[x1,x2,x3]
 exact qtk (hl.ix hi)
theorem qzy{l:List DQ}(hl:GDs l):∀i,i<(rD l).length→∀j,(cS (rD l) (i:Int) j).length≤1000000:=by
 intro i hi j
 have hi':i<l.length:=by simpa[rD] using hi
 obtain⟨x1,x2,x3⟩:=qgv hi'
 have g:=hl.ix hi'
 match j with
 | 0=>rw[x1];have:=q51 ((wK g.x).ok (by omega) (by omega));omega
 | 1=>rw[x2];have:=q51 ((wK g.y).ok (by omega) (by omega));omega
 | 2=>rw[x3];have:=q51 ((q2V g.s).ok (by omega) (by omega));omega
 | j+3=>
  rw[qpa]
  have e:(rD l).getD i []=qd8 (ix l i):=by
   unfold rD ix
   simp[List.getD_eq_getElem?_getD,hi']
  rw[e];simp[qd8,List.getD_eq_getElem?_getD,U.toS]
theorem qn0{l:List DQ}(hl:GDs l)(h0:l≠[])(hn:l.length≤64):(zi [.r (rD l)]).run=some (0,[.i 0]):=by
 rw[qqa _ (.inr (qzy hl)),qAZ hl h0 hn]
def cW(o:Option (Nat×Nat×Int)):List PV:=o.elim [.b false,.i 0,.i 0,.i 0,.i 0] (fun w=>[.b true,.i (w.1:Int),.i (w.2.1:Int),.i w.2.2,.i 0])
theorem q8o{l:List DQ}(hl:GDs l)(h0:l≠[])(hn:l.length≤64):(v6 [.r (rD l)]).run=some (0,cW (ua l)):=by
 rw[qlo]
 have a:=qn0 hl h0 hn
 have b:=qsh hl (by omega)
 cases hf:ua l with
 | none=>
  rw[hf] at b
  simp only[fW,Option.elim,List.cons_append,List.nil_append] at b
  simp only[STD,a,b,cW,Option.elim]
 | some w=>
  rw[hf] at b
  simp only[fW,Option.elim,List.cons_append,List.nil_append] at b
  simp only[STD,a,b,cW,Option.elim]
end Go.Eng

namespace Go.Eng
theorem q9x(l:R)(h:l.length<9223372036854775808):(vl [.r l,.r l]).run=some (0,[.b true]):=by
 have e:(qf wC [.r l,.r l,.i (qL l),.i 0]).run=some (0,[]):=by
  refine q0s (fun i=>[.r l,.r l,.i (qL l),.i (i:Int)]) (0,[]) l.length h (fun i hi=>?_) ?_
  ·have h1:(i:Int)<qL l:=by unfold qL;omega
   rw[q3p]
   simp only[STD,h1,q41 hi h,show (0:Int)≤(i:Int) by omega,and_self]
  ·rw[q3p]
   simp only[STD,show ¬((l.length:Int)<qL l) by unfold qL;omega]
 rw[qck]
 simp only[STD,e,zn e]
end Go.Eng

namespace Go.Eng
def two(i j:Nat):R:=[[.i (i:Int)],[.i (j:Int)]]
def qmY(i j k:Nat):R:=[[.i (i:Int)],[.i (j:Int)],[.i (k:Int)]]
def q6m(l:List DQ)(i j:Nat):Option R:=if (ua [ix l i,ix l j]).isSome=true then none else some (two i j)
def qeH(l:List DQ)(i j k:Nat):Option R:=if (ua [ix l i,ix l j,ix l k]).isSome=true then none else some (qmY i j k)
def qy2(l:List DQ):Option R:=q27 (fun i=>q27 (fun k=>q6m l i (i+1+k)) 0 (l.length-(i+1))) 0 l.length
def qyC(l:List DQ):Option R:=q27 (fun i=>q27 (fun k=>q27 (fun m=>qeH l i (i+1+k) (i+1+k+1+m)) 0 (l.length-(i+1+k+1))) 0 (l.length-(i+1))) 0 l.length
def qje(l:List DQ):R:=(qy2 l).elim ((qyC l).getD []) id
theorem qAI{a b:DQ}(ga:GD a)(gb:GD b):GDs [a,b]:=fun d hd=>by
 simp only[List.mem_cons,List.not_mem_nil,or_false] at hd
 rcases hd with rfl|rfl<;>assumption
theorem qB3{a b c:DQ}(ga:GD a)(gb:GD b)(gc:GD c):GDs [a,b,c]:=fun d hd=>by
 simp only[List.mem_cons,List.not_mem_nil,or_false] at hd
 rcases hd with rfl|rfl|rfl<;>assumption
theorem qvB(o:Option (Nat×Nat×Int)):∃a b c,fW o=[.i a,.i b,.i c,.b o.isSome]:=by
 cases o with
 | none=>exact⟨_,_,_,rfl⟩
 | some w=>exact⟨_,_,_,rfl⟩
theorem qB2(l:List DQ)(i j k:Nat)(hk:k<2):∃m,(m=i∨m=j)∧cI (two i j) (k:Int) 0=(m:Int)∧[qd8 (ix l i),qd8 (ix l j)].take (k+1)=[qd8 (ix l i),qd8 (ix l j)].take k++[qd8 (ix l m)]:=by
 rcases (show k=0∨k=1 by omega) with rfl|rfl
 ·exact⟨i,.inl rfl,rfl,rfl⟩
 ·exact⟨j,.inr rfl,rfl,rfl⟩
theorem qAW(l:List DQ)(i j o k:Nat)(hk:k<3):∃m,(m=i∨m=j∨m=o)∧cI (qmY i j o) (k:Int) 0=(m:Int)∧[qd8 (ix l i),qd8 (ix l j),qd8 (ix l o)].take (k+1)=[qd8 (ix l i),qd8 (ix l j),qd8 (ix l o)].take k++[qd8 (ix l m)]:=by
 rcases (show k=0∨k=1∨k=2 by omega) with rfl|rfl|rfl
 ·exact⟨i,.inl rfl,rfl,rfl⟩
 ·exact⟨j,.inr (.inl rfl),rfl,rfl⟩
 ·exact⟨o,.inr (.inr rfl),rfl,rfl⟩
theorem qr1{x:R}{k:Nat}:qL (x.take k)≤qL x:=by unfold qL;rw[List.length_take];omega
theorem qtb(i j:Nat):qL (two i j)=2:=rfl
theorem qnO(i j k:Nat):qL (qmY i j k)=3:=rfl
theorem qws{l:List DQ}(_:l.length<1000000){i j:Nat}(hi:i<l.length)(hj:j<l.length)(a b c d e f g h:Int) :
  (qf zL [.i (qL (two i j)),.i 0,.i a,.i b,.i c,.i d,.i e,.r (rD l),.i f,.i g,.i h,.r (rD l),.i 0,.r (two i j),.r []]).run=some (0,[.i a,.i b,.i c,.i d,.i e,.r (rD l),.i f,.i g,.i h,.r (rD l),.i 0,.r (two i j),.r (rD [ix l i,ix l j])]):=by
 have key:=q0s (S:=zL) (fun k=>[.i (qL (two i j)),.i (k:Int),.i a,.i b,.i c,.i d,.i e,.r (rD l),.i f,.i g,.i h,.r (rD l),.i 0,.r (two i j),.r ([qd8 (ix l i),qd8 (ix l j)].take k)])
  (0,[.i a,.i b,.i c,.i d,.i e,.r (rD l),.i f,.i g,.i h,.r (rD l),.i 0,.r (two i j),.r (rD [ix l i,ix l j])]) 2 (by omega)
  (fun k hk=>by
   rw[q0U]
   obtain⟨m,hm,e1,e2⟩:=qB2 l i j k hk
   have hml:m<l.length:=by rcases hm with rfl|rfl<;>assumption
   obtain⟨x1,x2,x3⟩:=qgv hml
   have w:=q41 hk (show 2<9223372036854775808 by omega)
   have t:=qr1 (x:=[qd8 (ix l i),qd8 (ix l j)]) (k:=k)
   have t2:qL [qd8 (ix l i),qd8 (ix l j)]=2:=rfl
   have t1:qL [[U.s (tQ (ix l m).x),U.s (tQ (ix l m).y),U.s (tQ (ix l m).s)]]=1:=rfl
   rw[e1,x1,x2,x3,e2]
   simp only[STD,qtb,show (k:Int)<2 by omega,yD,zH,show (m:Int)<(l.length:Int) by omega,and_self,w,show qL ([qd8 (ix l i),qd8 (ix l j)].take k)+qL [[U.s (tQ (ix l m).x),U.s (tQ (ix l m).y),U.s (tQ (ix l m).s)]]≤2932031007402 by omega]
   rfl)
  (by rw[q0U];simp only[STD,qtb,show ¬((2:Nat):Int)<2 by omega];rfl)
 exact key
theorem qvI{l:List DQ}(_:l.length<1000000){i j o:Nat}(hi:i<l.length)(hj:j<l.length)(ho:o<l.length)(a b c d e f g h p q:Int) :
  (qf zO [.i (qL (qmY i j o)),.i 0,.i a,.i b,.i c,.i d,.i e,.i f,.r (rD l),.i g,.i h,.i p,.i q,.r (rD l),.i 0,.r (qmY i j o),.r []]).run=some (0,[.i a,.i b,.i c,.i d,.i e,.i f,.r (rD l),.i g,.i h,.i p,.i q,.r (rD l),.i 0,.r (qmY i j o),.r (rD [ix l i,ix l j,ix l o])]):=by
 have key:=q0s (S:=zO) (fun k=>[.i (qL (qmY i j o)),.i (k:Int),.i a,.i b,.i c,.i d,.i e,.i f,.r (rD l),.i g,.i h,.i p,.i q,.r (rD l),.i 0,.r (qmY i j o),.r ([qd8 (ix l i),qd8 (ix l j),qd8 (ix l o)].take k)])
  (0,[.i a,.i b,.i c,.i d,.i e,.i f,.r (rD l),.i g,.i h,.i p,.i q,.r (rD l),.i 0,.r (qmY i j o),.r (rD [ix l i,ix l j,ix l o])]) 3 (by omega)
  (fun k hk=>by
   rw[q0T]
   obtain⟨m,hm,e1,e2⟩:=qAW l i j o k hk
   have hml:m<l.length:=by rcases hm with rfl|rfl|rfl<;>assumption
   obtain⟨x1,x2,x3⟩:=qgv hml
   have w:=q41 hk (show 3<9223372036854775808 by omega)
   have t:=qr1 (x:=[qd8 (ix l i),qd8 (ix l j),qd8 (ix l o)]) (k:=k)
   have t2:qL [qd8 (ix l i),qd8 (ix l j),qd8 (ix l o)]=3:=rfl
   have t1:qL [[U.s (tQ (ix l m).x),U.s (tQ (ix l m).y),U.s (tQ (ix l m).s)]]=1:=rfl
   rw[e1,x1,x2,x3,e2]
   simp only[STD,qnO,show (k:Int)<3 by omega,yD,zH,show (m:Int)<(l.length:Int) by omega,and_self,w,show qL ([qd8 (ix l i),qd8 (ix l j),qd8 (ix l o)].take k)+qL [[U.s (tQ (ix l m).x),U.s (tQ (ix l m).y),U.s (tQ (ix l m).s)]]≤2932031007402 by omega]
   rfl)
  (by rw[q0T];simp only[STD,qnO,show ¬((3:Nat):Int)<3 by omega];rfl)
 exact key
theorem qmg{l:List DQ}(hl:GDs l)(h0:l≠[])(hn:l.length≤64):(wY [.r (rD l)]).run=some (0,[.r (qje l),.i 0]):=by
 rw[qdC]
 have a:=qn0 hl h0 hn
 have big:l.length<9223372036854775808:=by omega
 have A:=fun i (hi:i<l.length)=>q1U (S:=z6) (fun k=>[.i (i:Int),.i ((i+1+k:Nat):Int),.i (l.length:Int),.i (i:Int),.r (rD l),.i 0]) (fun k=>q6m l i (i+1+k)) (fun r=>[.i 0,.r r])
  [.i (l.length:Int),.i (i:Int),.r (rD l),.i 0] (l.length-(i+1)) (by omega)
  (fun k hk=>by
   rw[q3r]
   have hj:i+1+k<l.length:=by omega
   have g:=qws (l:=l) (by omega) hi hj (i:Int) ((i+1+k:Nat):Int) (l.length:Int) (i:Int) ((i+1+k:Nat):Int) (l.length:Int) (i:Int) ((i+1+k:Nat):Int)
   have f:=qsh (qAI (hl.ix hi) (hl.ix hj)) (by simp)
   obtain⟨u,v,w,hfw⟩:=qvB (ua [ix l i,ix l (i+1+k)])
   rw[hfw] at f
   simp only[List.cons_append,List.nil_append] at f
   have ws:=q41 hj big
   have tw:[[U.i (i:Int)],[U.i ((i+1+k:Nat):Int)]]=two i (i+1+k):=rfl
   rw[tw]
   unfold q6m
   cases hs:(ua [ix l i,ix l (i+1+k)]).isSome
   ·rw[hs] at f
    simp only[STD,zH,g,f,show ((i+1+k:Nat):Int)<(l.length:Int) by omega,show ieq 0 0=true from rfl,Option.elim,tw]
   ·rw[hs] at f
    simp only[STD,zH,g,f,show ((i+1+k:Nat):Int)<(l.length:Int) by omega,Option.elim,ws]
    rfl)
  (by rw[q3r];simp only[STD,zH,show ¬((i+1+(l.length-(i+1)):Nat):Int)<(l.length:Int) by omega])
 have B:=q1U (S:=qo) (fun i=>[.i (l.length:Int),.i (i:Int),.r (rD l),.i 0]) (fun i=>q27 (fun k=>q6m l i (i+1+k)) 0 (l.length-(i+1))) (fun r=>[.i 0,.r r])
  [.r (rD l),.i 0] l.length big
  (fun i hi=>by
   rw[q4m]
   have c:=A i hi
   simp only[Nat.add_zero] at c
   have w:=q41 hi big
   cases hs:q27 (fun k=>q6m l i (i+1+k)) 0 (l.length-(i+1)) with
   | none=>
    rw[hs] at c
    simp only[Option.elim] at c ⊢
    simp only[STD,w,c,zn c,show (i:Int)<(l.length:Int) by omega]
   | some v=>
    rw[hs] at c
    simp only[Option.elim] at c ⊢
    simp only[STD,w,c,zn c,show (i:Int)<(l.length:Int) by omega,show ¬(1=0) by omega])
  (by rw[q4m];simp only[STD,show ¬(l.length:Int)<(l.length:Int) by omega])
 have C:=fun i j (hi:i<l.length) (hj:j<l.length)=>q1U (S:=qO) (fun k=>[.i (i:Int),.i (j:Int),.i ((j+1+k:Nat):Int),.i (l.length:Int),.i (i:Int),.r (rD l),.i 0]) (fun k=>qeH l i j (j+1+k)) (fun r=>[.i 0,.r r])
  [.i (i:Int),.i (j:Int),.i (l.length:Int),.i (i:Int),.r (rD l),.i 0] (l.length-(j+1)) (by omega)
  (fun k hk=>by
   rw[q3s]
   have ho:j+1+k<l.length:=by omega
   have g:=qvI (l:=l) (by omega) hi hj ho (i:Int) (j:Int) ((j+1+k:Nat):Int) (l.length:Int) (i:Int) ((j+1+k:Nat):Int) (l.length:Int) (i:Int) (j:Int) ((j+1+k:Nat):Int)
   have f:=qsh (qB3 (hl.ix hi) (hl.ix hj) (hl.ix ho)) (by simp)
   obtain⟨u,v,w,hfw⟩:=qvB (ua [ix l i,ix l j,ix l (j+1+k)])
   rw[hfw] at f
   simp only[List.cons_append,List.nil_append] at f
   have ws:=q41 ho big
   have tw:[[U.i (i:Int)],[U.i (j:Int)],[U.i ((j+1+k:Nat):Int)]]=qmY i j (j+1+k):=rfl
   rw[tw]
   unfold qeH
   cases hs:(ua [ix l i,ix l j,ix l (j+1+k)]).isSome
   ·rw[hs] at f
    simp only[STD,zH,g,f,show ((j+1+k:Nat):Int)<(l.length:Int) by omega,show ieq 0 0=true from rfl,Option.elim,tw]
   ·rw[hs] at f
    simp only[STD,zH,g,f,show ((j+1+k:Nat):Int)<(l.length:Int) by omega,Option.elim,ws]
    rfl)
  (by rw[q3s];simp only[STD,zH,show ¬((j+1+(l.length-(j+1)):Nat):Int)<(l.length:Int) by omega])
 have D:=fun i (hi:i<l.length)=>q1U (S:=qZ) (fun k=>[.i (i:Int),.i ((i+1+k:Nat):Int),.i (l.length:Int),.i (i:Int),.r (rD l),.i 0]) (fun k=>q27 (fun m=>qeH l i (i+1+k) (i+1+k+1+m)) 0 (l.length-(i+1+k+1))) (fun r=>[.i 0,.r r])
  [.i (l.length:Int),.i (i:Int),.r (rD l),.i 0] (l.length-(i+1)) (by omega)
  (fun k hk=>by
   rw[q3t]
   have hj:i+1+k<l.length:=by omega
   have c:=C i (i+1+k) hi hj
   simp only[Nat.add_zero] at c
   have w:=q41 hj big
   cases hs:q27 (fun m=>qeH l i (i+1+k) (i+1+k+1+m)) 0 (l.length-(i+1+k+1)) with
   | none=>
    rw[hs] at c
    simp only[Option.elim] at c ⊢
    simp only[STD,w,c,zn c,zH,show ((i+1+k:Nat):Int)<(l.length:Int) by omega]
    rfl
   | some v=>
    rw[hs] at c
    simp only[Option.elim] at c ⊢
    simp only[STD,w,c,zn c,zH,show ((i+1+k:Nat):Int)<(l.length:Int) by omega,show ¬(1=0) by omega])
  (by rw[q3t];simp only[STD,zH,show ¬((i+1+(l.length-(i+1)):Nat):Int)<(l.length:Int) by omega])
 have E:=q1U (S:=zr) (fun i=>[.i (l.length:Int),.i (i:Int),.r (rD l),.i 0]) (fun i=>q27 (fun k=>q27 (fun m=>qeH l i (i+1+k) (i+1+k+1+m)) 0 (l.length-(i+1+k+1))) 0 (l.length-(i+1))) (fun r=>[.i 0,.r r])
  [.i 0] l.length big
  (fun i hi=>by
   rw[q3m]
   have c:=D i hi
   simp only[Nat.add_zero] at c
   have w:=q41 hi big
   cases hs:q27 (fun k=>q27 (fun m=>qeH l i (i+1+k) (i+1+k+1+m)) 0 (l.length-(i+1+k+1))) 0 (l.length-(i+1)) with
   | none=>
    rw[hs] at c
    simp only[Option.elim] at c ⊢
    simp only[STD,w,c,zn c,show (i:Int)<(l.length:Int) by omega]
   | some v=>
    rw[hs] at c
    simp only[Option.elim] at c ⊢
    simp only[STD,w,c,zn c,show (i:Int)<(l.length:Int) by omega,show ¬(1=0) by omega])
  (by rw[q3m];simp only[STD,show ¬(l.length:Int)<(l.length:Int) by omega])
 simp only[show ((0:Nat):Int)=0 from rfl] at B E
 unfold qje
 cases hp:qy2 l with
 | some r=>
  rw[show q27 (fun i=>q27 (fun k=>q6m l i (i+1+k)) 0 (l.length-(i+1))) 0 l.length=some r from hp] at B
  simp only[Option.elim] at B
  simp only[STD,a,zH,B,zn B,Option.elim,id,show ¬(1=0) by omega]
 | none=>
  rw[show q27 (fun i=>q27 (fun k=>q6m l i (i+1+k)) 0 (l.length-(i+1))) 0 l.length=none from hp] at B
  simp only[Option.elim] at B
  cases ht:qyC l with
  | some r=>
   rw[show q27 (fun i=>q27 (fun k=>q27 (fun m=>qeH l i (i+1+k) (i+1+k+1+m)) 0 (l.length-(i+1+k+1))) 0 (l.length-(i+1))) 0 l.length=some r from ht] at E
   simp only[Option.elim] at E
   simp only[STD,a,zH,B,zn B,E,zn E,Option.elim,Option.getD_some,show ¬(1=0) by omega]
  | none=>
   rw[show q27 (fun i=>q27 (fun k=>q27 (fun m=>qeH l i (i+1+k) (i+1+k+1+m)) 0 (l.length-(i+1+k+1))) 0 (l.length-(i+1))) 0 l.length=none from ht] at E
   simp only[Option.elim] at E
   simp only[STD,a,zH,B,zn B,E,zn E,Option.elim,Option.getD_none]
end Go.Eng

namespace Go.Eng
def qhT(l:List DQ)(i k:Nat):Bool:=decide (k≠i)&&decide (q2g (ix l k) (ix l i))&&(decide (k<i)||!decide (q2g (ix l i) (ix l k)))
def fnd(l:List DQ)(i k:Nat):Bool:=(List.range k).any (qhT l i)
def qof(l:List DQ):R:=pick (fun i=>fnd l i l.length) l.length
theorem qy7{l:List DQ}{i k n:Nat}(hk:k<n)(h:qhT l i k=true):fnd l i n=true:=by
 unfold fnd;rw[List.any_eq_true];exact⟨k,List.mem_range.2 hk,h⟩
theorem qvM{l:List DQ}{i n:Nat}(h:∀k,k<n→qhT l i k=false):fnd l i n=false:=by
 unfold fnd;rw[List.any_eq_false];intro k hk;have:=h k (List.mem_range.1 hk);simp[this]
theorem qnw{l:List DQ}(hl:GDs l)(h0:l≠[])(hn:l.length≤64):(vT [.r (rD l)]).run=some (0,[.r (qof l),.i 0]):=by
 rw[qiD]
 have a:=qn0 hl h0 hn
 have big:l.length<9223372036854775808:=by omega
 have A:∀i (hi:i<l.length) (acc:R),acc.length≤64→(qf zl [.r (rD l),.i (i:Int),.r (rD l),.i (l.length:Int),.i (i:Int),.r (rD l),.i (l.length:Int),.i 0,.i 0,.r acc,.s (tQ (ix l i).x),.s (tQ (ix l i).y),.s (tQ (ix l i).s)]).run
   = some (0,[.r (rD l),.r (rD l),.i (l.length:Int),.i (i:Int),.i 0,.r (if fnd l i l.length=true then q9P acc [[.i (i:Int)]] else acc)]):=by
  intro i hi acc hacc
  have g:=hl.ix hi
  have room:qL acc+qL [[U.i (i:Int)]]≤17592186044416:=by rw[qoD];unfold qL;omega
  have key:=qeB (S:=zl) (fun k=>[.r (rD l),.i (i:Int),.r (rD l),.i (l.length:Int),.i (i:Int),.r (rD l),.i (l.length:Int),.i (k:Int),.i 0,.r acc,.s (tQ (ix l i).x),.s (tQ (ix l i).y),.s (tQ (ix l i).s)])
   (fun k=>if (!qhT l i k)=true then none else some (0,[.r (rD l),.r (rD l),.i (l.length:Int),.i (i:Int),.i 0,.r (q9P acc [[.i (i:Int)]])]))
   (0,[.r (rD l),.r (rD l),.i (l.length:Int),.i (i:Int),.i 0,.r acc]) l.length big
   (fun k hk hf=>by
    rw[q2l]
    obtain⟨x1,x2,x3⟩:=qgv hk
    have gk:=hl.ix hk
    have w:=q41 hk big
    have w1:=qf2 gk.sh g.sh gk.nn g.nn
    have w2:=qf2 g.sh gk.sh g.nn gk.nn
    have hc:qhT l i k=false:=by cases h:qhT l i k;rfl;rw[h] at hf;simp at hf
    unfold qhT at hc
    rw[x1,x2,x3]
    by_cases c1:k=i
    ·subst c1
     simp only[STD,zH,show (k:Int)<(l.length:Int) by omega,yD,and_self,w]
    ·have c1':¬(k:Int)=(i:Int):=by omega
     by_cases c2:q2g (ix l k) (ix l i)
     ·simp only[ne_eq,c1,not_false_eq_true,decide_true,c2,Bool.true_and,Bool.or_eq_false_iff,decide_eq_false_iff_not,Bool.not_eq_false',decide_eq_true_eq] at hc
      obtain⟨c3,c4⟩:=hc
      have c3':¬(k:Int)<(i:Int):=by omega
      simp only[STD,zH,c1',c2,c3',c4,w1,w2,w,show (k:Int)<(l.length:Int) by omega,yD,and_self]
     ·simp only[STD,zH,c1',c2,w1,w,show (k:Int)<(l.length:Int) by omega,yD,and_self])
   (fun k r hk hf=>by
    rw[q2l]
    obtain⟨x1,x2,x3⟩:=qgv hk
    have gk:=hl.ix hk
    have w1:=qf2 gk.sh g.sh gk.nn g.nn
    have w2:=qf2 g.sh gk.sh g.nn gk.nn
    have hc:qhT l i k=true:=by cases h:qhT l i k;rw[h] at hf;simp at hf;rfl
    rw[hc] at hf
    simp only[Bool.not_true,Bool.false_eq_true,if_false,Option.some.injEq] at hf
    subst hf
    unfold qhT at hc
    simp only[Bool.and_eq_true,Bool.or_eq_true,decide_eq_true_eq,Bool.not_eq_true',decide_eq_false_iff_not] at hc
    obtain⟨⟨c1,c2⟩,c3⟩:=hc
    have c1':¬(k:Int)=(i:Int):=by omega
    rw[x1,x2,x3]
    by_cases c4:k<i
    ·simp only[STD,zH,c1',c2,w1,room,show (k:Int)<(i:Int) by omega,show (k:Int)<(l.length:Int) by omega,yD,and_self]
    ·have c5:¬q2g (ix l i) (ix l k):=by
      rcases c3 with h|h
      ·exact absurd h c4
      ·exact h
     simp only[STD,zH,c1',c2,c5,w1,w2,room,show ¬(k:Int)<(i:Int) by omega,show (k:Int)<(l.length:Int) by omega,yD,and_self])
   (by rw[q2l];simp only[STD,show ¬(l.length:Int)<(l.length:Int) by omega])
  have key':=key
  simp only[show ((0:Nat):Int)=0 from rfl] at key'
  rw[key']
  rcases qrw (fun k=>!qhT l i k) (fun _=>((0,[.r (rD l),.r (rD l),.i (l.length:Int),.i (i:Int),.i 0,.r (q9P acc [[.i (i:Int)]])]):Nat×List PV)) l.length with⟨s1,s2⟩|⟨k,hk,s2,s1⟩
  ·rw[s1,qvM fun k hk=>by have:=s2 k hk;simpa using this]
   simp
  ·rw[s1,qy7 hk (by simpa using s2)]
   simp
 have B:=q0s (S:=wE) (fun i=>[.r (rD l),.r (rD l),.i (l.length:Int),.i (i:Int),.i 0,.r (pick (fun i=>fnd l i l.length) i)]) (0,[.i 0,.r (qof l)]) l.length big
  (fun i hi=>by
   rw[q7s]
   obtain⟨x1,x2,x3⟩:=qgv hi
   have w:=q41 hi big
   have pl:=qoy (fun i=>fnd l i l.length) i
   have c:=A i hi (pick (fun i=>fnd l i l.length) i) (by omega)
   simp only[STD,zH,x1,x2,x3,c,w,show (i:Int)<(l.length:Int) by omega,yD,and_self]
   rfl)
  (by rw[q7s];simp only[STD,show ¬(l.length:Int)<(l.length:Int) by omega];rfl)
 have B':(qf wE [.r (rD l),.r (rD l),.i (l.length:Int),.i 0,.i 0,.r []]).run=some (0,[.i 0,.r (qof l)]):=B
 simp only[STD,a,zH,B']
def D4(x y s:Rat):DQ:=⟨x,y,s⟩
theorem qw8{q:Rat}(h:qn q≤10∧qd q≤10):cls q:=.inr h
theorem gdx{x y s:Rat}(hx:qn x≤10∧qd x≤10)(hy:qn y≤10∧qd y≤10)(hs:qn s≤10∧qd s≤10)(h:0≤s):GD (D4 x y s):=⟨qw8 hx,qw8 hy,qAy (qw8 hs),h⟩
end Go.Eng

namespace Go.Eng
theorem t0:tQ 0=[48]:=rfl
theorem t1:tQ 1=[49]:=by decide +kernel
theorem t2':tQ 2=[50]:=by decide +kernel
theorem t4:tQ 4=[52]:=by decide +kernel
theorem t5:tQ 5=[53]:=by decide +kernel
theorem t53:tQ (5/3)=[53,47,51]:=by decide +kernel
theorem qB7:ua [D4 0 0 4,D4 4 0 4]=some (0,1,0):=by decide +kernel
theorem qB6:ua [D4 0 0 5,D4 4 0 5]=some (0,1,1):=by decide +kernel
theorem qB8:qje [D4 0 0 1,D4 4 0 1]=[[.i 0],[.i 1]]:=by
 have h1:ua [D4 0 0 1,D4 4 0 1]=none:=by decide +kernel
 have e:∀i j k,q27 (fun k=>q6m [D4 0 0 1,D4 4 0 1] i (i+1+k)) j k=q27 (fun k=>q6m [D4 0 0 1,D4 4 0 1] i (i+1+k)) j k:=fun _ _ _=>rfl
 have z:q6m [D4 0 0 1,D4 4 0 1] 0 1=some (two 0 1):=by
  unfold q6m
  have:[ix [D4 0 0 1,D4 4 0 1] 0,ix [D4 0 0 1,D4 4 0 1] 1]=[D4 0 0 1,D4 4 0 1]:=rfl
  rw[this,h1];rfl
 unfold qje qy2
 simp only[show ([D4 0 0 1,D4 4 0 1]).length=2 from rfl,q27,Nat.zero_add,Nat.add_zero,show 2-1=1 from rfl,z,Option.elim,id]
 rfl
theorem qB9:qje [D4 0 0 1,D4 2 0 1,D4 1 (5/3) 1]=[[.i 0],[.i 1],[.i 2]]:=by
 have h1:(ua [D4 0 0 1,D4 2 0 1]).isSome=true:=by decide +kernel
 have h2:(ua [D4 0 0 1,D4 1 (5/3) 1]).isSome=true:=by decide +kernel
 have h3:(ua [D4 2 0 1,D4 1 (5/3) 1]).isSome=true:=by decide +kernel
 have h4:ua [D4 0 0 1,D4 2 0 1,D4 1 (5/3) 1]=none:=by decide +kernel
 have z1:q6m [D4 0 0 1,D4 2 0 1,D4 1 (5/3) 1] 0 1=none:=by unfold q6m;rw[if_pos];exact h1
 have z2:q6m [D4 0 0 1,D4 2 0 1,D4 1 (5/3) 1] 0 2=none:=by unfold q6m;rw[if_pos];exact h2
 have z3:q6m [D4 0 0 1,D4 2 0 1,D4 1 (5/3) 1] 1 2=none:=by unfold q6m;rw[if_pos];exact h3
 have z4:qeH [D4 0 0 1,D4 2 0 1,D4 1 (5/3) 1] 0 1 2=some (qmY 0 1 2):=by
  unfold qeH
  have:[ix [D4 0 0 1,D4 2 0 1,D4 1 (5/3) 1] 0,ix [D4 0 0 1,D4 2 0 1,D4 1 (5/3) 1] 1,ix [D4 0 0 1,D4 2 0 1,D4 1 (5/3) 1] 2]=[D4 0 0 1,D4 2 0 1,D4 1 (5/3) 1]:=rfl
  rw[this,h4];rfl
 unfold qje qy2 qyC
 simp only[show ([D4 0 0 1,D4 2 0 1,D4 1 (5/3) 1]).length=3 from rfl,q27,Nat.sub_self,show 3-1=2 from rfl,show 3-2=1 from rfl,show 1+1=2 from rfl,show 0+1=1 from rfl,show 2+1=3 from rfl,z1,z2,z3,z4,Option.elim,Option.getD_some]
 rfl
theorem qBa:qyZ (D4 0 0 1) (D4 1 0 4)=2:=by decide +kernel
theorem qix:(zA []).run=some (0,[.b true]):=by
 rw[qn1]
 have g1:GD (D4 0 0 4):=gdx (by decide +kernel) (by decide +kernel) (by decide +kernel) (by decide +kernel)
 have g2:GD (D4 4 0 4):=gdx (by decide +kernel) (by decide +kernel) (by decide +kernel) (by decide +kernel)
 have g3:GD (D4 0 0 5):=gdx (by decide +kernel) (by decide +kernel) (by decide +kernel) (by decide +kernel)
 have g4:GD (D4 4 0 5):=gdx (by decide +kernel) (by decide +kernel) (by decide +kernel) (by decide +kernel)
 have g5:GD (D4 0 0 1):=gdx (by decide +kernel) (by decide +kernel) (by decide +kernel) (by decide +kernel)
 have g6:GD (D4 4 0 1):=gdx (by decide +kernel) (by decide +kernel) (by decide +kernel) (by decide +kernel)
 have g7:GD (D4 2 0 1):=gdx (by decide +kernel) (by decide +kernel) (by decide +kernel) (by decide +kernel)
 have g8:GD (D4 1 (5/3) 1):=gdx (by decide +kernel) (by decide +kernel) (by decide +kernel) (by decide +kernel)
 have g9:GD (D4 1 0 4):=gdx (by decide +kernel) (by decide +kernel) (by decide +kernel) (by decide +kernel)
 have a:=q8o (qAI g1 g2) (by simp) (by simp)
 have b:=q8o (qAI g3 g4) (by simp) (by simp)
 have c:=qmg (qAI g5 g6) (by simp) (by simp)
 have d:=qmg (qB3 g5 g7 g8) (by simp) (by simp)
 have e:=qsp g5 g9
 rw[qB7] at a
 rw[qB6] at b
 rw[qB8] at c
 rw[qB9] at d
 rw[qBa] at e
 simp only[rD,qd8,List.map_cons,List.map_nil,D4,t0,t1,t2',t4,t5,t53,cW,Option.elim] at a b c d e
 have f1:=q9x [[.i 0],[.i 1]] (by simp)
 have f2:=q9x [[.i 0],[.i 1],[.i 2]] (by simp)
 have D:∀x y s,(zT [.s x,.s y,.s s]).run=some (0,[.s x,.s y,.s s]):=fun x y s=>by rw[qhO];rfl
 have w:qt .i64 0 0=0:=by decide
 simp only[STD,D,a,b,c,d,e,f1,f2,w,show ((0:Nat):Int)=0 from rfl,show ((1:Nat):Int)=1 from rfl,and_self]
 rfl
end Go.Eng

namespace Go.Eng
theorem qtf{a b:DQ}(na:0≤a.s)(nb:0≤b.s)(h:q2g a b) :
  let D:=q29 a.x a.y b.x b.y
  D≤b.s-a.s∧4*(a.s*b.s)≤(a.s+b.s-D)*(a.s+b.s-D)∧0≤a.s+b.s-D:=by
 obtain⟨hs,hp⟩:=h
 unfold qpk at hp
 simp only
 generalize q29 a.x a.y b.x b.y=D at *
 have hc:=qym na nb
 obtain⟨T,t0,t1,t2⟩:=qqB hc hp
 have sa:a.s*a.s≤a.s*b.s:=Rat.mul_le_mul_of_nonneg_left hs na
 have key:D-(a.s+b.s)+2*a.s≤0:=by
  rcases Rat.le_total (a:=T) (b:=a.s) with hT|hT
  ·exact t2 a.s hT sa
  ·have:=t2 T Rat.le_refl t1
   grind
 refine⟨by grind,?_,by grind⟩
 rw[qkV hc] at hp
 rcases hp with⟨h1,h2⟩|⟨-,h2,-⟩
 ·rcases h2 with h2|h2|h2
  ·exact absurd h2 (by decide)
  ·have:=qfe (a.s+b.s-D)
   rw[h2];grind
  ·grind
 ·exact absurd h2 (by decide)
theorem quH{a b:DQ}(na:0≤a.s)(nb:0≤b.s)(h:q2g a b){x y:Rat}(hp:pw a x y≤0):pw b x y≤0:=by
 obtain⟨h1,h2,h3⟩:=qtf na nb h
 apply Rat.not_lt.1
 intro hn
 have eD:q29 a.x a.y b.x b.y=(a.x-b.x)*(a.x-b.x)+(a.y-b.y)*(a.y-b.y):=rfl
 generalize q29 a.x a.y b.x b.y=D at *
 obtain⟨c,hc⟩:∃c,c=(x-a.x)*(a.x-b.x)+(y-a.y)*(a.y-b.y):=⟨_,rfl⟩
 obtain⟨P,hP⟩:∃P,P=(x-a.x)*(x-a.x)+(y-a.y)*(y-a.y):=⟨_,rfl⟩
 have D0:0≤D:=by have:=qfe (a.x-b.x);have:=qfe (a.y-b.y);grind
 have e1:pw a x y=P-a.s:=by rw[hP];rfl
 have e2:pw b x y=P+D+2*c-b.s:=by rw[hP,eD,hc];unfold pw;grind
 have cs:c*c≤P*D:=by
  have:=qfe ((x-a.x)*(a.y-b.y)-(y-a.y)*(a.x-b.x))
  rw[hP,hc,eD];clear e1 e2 hP hc eD h1 h2 h3 hn hp;grind
 rw[e1] at hp
 rw[e2] at hn
 have k1:P*D≤a.s*D:=Rat.mul_le_mul_of_nonneg_right (by grind) D0
 have k2:0≤b.s-a.s-D:=by grind
 have k3:b.s-a.s-D<2*c:=by grind
 have k4:(b.s-a.s-D)*(b.s-a.s-D)<4*(c*c):=by
  have m1:=Rat.mul_pos (show 0<2*c-(b.s-a.s-D) by grind) (show 0<2*c+(b.s-a.s-D) by grind)
  clear cs e1 e2 h2 k1;grind
 have K:(a.s+b.s-D)*(a.s+b.s-D)-4*(a.s*b.s)=(b.s-a.s-D)*(b.s-a.s-D)-4*(a.s*D):=by clear cs e1 e2 h2 k1 k4;grind
 generalize (a.s+b.s-D)*(a.s+b.s-D)=U at *
 generalize (b.s-a.s-D)*(b.s-a.s-D)=V at *
 generalize c*c=C at *
 generalize P*D=W at *
 generalize a.s*D=Z at *
 generalize a.s*b.s=Y at *
 grind
theorem qrM{a b:DQ}(na:0≤a.s)(nb:0≤b.s)(h:q2g a b)(hs:a.s=b.s):q2g b a:=by
 obtain⟨h1,-,-⟩:=qtf na nb h
 have hD:q29 a.x a.y b.x b.y=0:=by have:=qto a.x a.y b.x b.y;grind
 obtain⟨e1,e2⟩:=qhd hD
 obtain⟨ax,ay,sa⟩:=a
 obtain⟨bx,by_,sb⟩:=b
 simp only at *
 subst e1 e2 hs
 exact h
def blw(l:List DQ)(k i:Nat):Prop:=(ix l k).s<(ix l i).s∨(ix l k).s=(ix l i).s∧k<i
theorem quY{l:List DQ}{a b c:Nat}(h:blw l a b)(k:blw l b c):blw l a c:=by
 unfold blw at *
 rcases h with h|⟨h,h'⟩<;>rcases k with k|⟨k,k'⟩
 ·exact .inl (by grind)
 ·exact .inl (by grind)
 ·exact .inl (by grind)
 ·exact .inr ⟨by grind,by omega⟩
theorem qvq{l:List DQ}{a:Nat}(h:blw l a a):False:=by
 unfold blw at h
 rcases h with h|⟨-,h⟩
 ·grind
 ·omega
theorem qtp(l:List DQ):∀L:List Nat,L≠[]→∃m∈L,∀k∈L,¬blw l k m
 | [],h=>absurd rfl h
 | [a],_=>⟨a,by simp,fun k hk h=>by simp at hk;subst hk;exact qvq h⟩
 | a::b::r,_=>by
  obtain⟨m,hm,h⟩:=qtp l (b::r) (by simp)
  by_cases c:blw l a m
  ·refine⟨a,List.mem_cons_self,fun k hk hb=>?_⟩
   rcases List.mem_cons.1 hk with rfl|hk
   ·exact qvq hb
   ·exact h k hk (quY hb c)
  ·refine⟨m,List.mem_cons_of_mem _ hm,fun k hk hb=>?_⟩
   rcases List.mem_cons.1 hk with rfl|hk
   ·exact c hb
   ·exact h k hk hb
theorem qA8{l:List DQ}{i n:Nat}(h:fnd l i n=true):∃k,k<n∧qhT l i k=true:=by
 unfold fnd at h
 rw[List.any_eq_true] at h
 obtain⟨k,hk,h⟩:=h
 exact⟨k,List.mem_range.1 hk,h⟩
theorem qvT{l:List DQ}(hl:GDs l){i k:Nat}(hi:i<l.length)(hk:k<l.length)(h:qhT l i k=true):q2g (ix l k) (ix l i)∧blw l k i:=by
 unfold qhT at h
 simp only[Bool.and_eq_true,Bool.or_eq_true,decide_eq_true_eq,Bool.not_eq_true',decide_eq_false_iff_not] at h
 obtain⟨⟨h1,h2⟩,h3⟩:=h
 refine⟨h2,?_⟩
 unfold blw
 have hs:=h2.1
 by_cases c:(ix l k).s=(ix l i).s
 ·refine .inr ⟨c,?_⟩
  rcases h3 with h3|h3
  ·exact h3
  ·exact absurd (qrM (hl.ix hk).nn (hl.ix hi).nn h2 c) h3
 ·exact .inl (by grind)
theorem kept{l:List DQ}(hl:GDs l){i:Nat}(hi:i<l.length):∃k,k<l.length∧fnd l k l.length=false∧∀x y,pw (ix l k) x y≤0→pw (ix l i) x y≤0:=by
 obtain⟨m,hm,hmin⟩:=qtp l ((List.range l.length).filter fun k=>@decide (∀x y,pw (ix l k) x y≤0→pw (ix l i) x y≤0) (Classical.propDecidable _)) (by
  intro h0
  have:i∈(List.range l.length).filter fun k=>@decide (∀x y,pw (ix l k) x y≤0→pw (ix l i) x y≤0) (Classical.propDecidable _):=by
   rw[List.mem_filter]
   exact⟨List.mem_range.2 hi,@decide_eq_true _ (Classical.propDecidable _) fun _ _ h=>h⟩
  rw[h0] at this;cases this)
 rw[List.mem_filter] at hm
 obtain⟨hm1,hm2⟩:=hm
 have hm1:=List.mem_range.1 hm1
 have hm2:=@of_decide_eq_true _ (Classical.propDecidable _) hm2
 refine⟨m,hm1,?_,hm2⟩
 cases hf:fnd l m l.length
 ·rfl
 ·exfalso
  obtain⟨k,hk,hc⟩:=qA8 hf
  obtain⟨w,b⟩:=qvT hl hm1 hk hc
  refine hmin k ?_ b
  rw[List.mem_filter]
  exact⟨List.mem_range.2 hk,@decide_eq_true _ (Classical.propDecidable _) fun x y h=>hm2 x y (quH (hl.ix hk).nn (hl.ix hm1).nn w h)⟩
def q5M(l:List DQ):Nat→List DQ
 | 0=>[]
 | k+1=>if fnd l k l.length=true then q5M l k else q5M l k++[ix l k]
theorem qi1{l:List DQ}:∀{n:Nat},n≤l.length→∀d,d∈q5M l n↔∃k,k<n∧fnd l k l.length=false∧d=ix l k
 | 0,_,d=>by simp[q5M]
 | n+1,hn,d=>by
  have ih:=qi1 (l:=l) (n:=n) (by omega) d
  unfold q5M
  by_cases c:fnd l n l.length=true
  ·rw[if_pos c,ih]
   constructor
   ·rintro ⟨k,h1,h2⟩;exact⟨k,by omega,h2⟩
   ·rintro ⟨k,h1,h2,h3⟩
    rcases Nat.lt_or_eq_of_le (Nat.le_of_lt_succ h1) with h|rfl
    ·exact⟨k,h,h2,h3⟩
    ·rw[c] at h2;cases h2
  ·rw[if_neg c,List.mem_append,ih]
   constructor
   ·rintro (⟨k,h1,h2⟩|h)
    ·exact⟨k,by omega,h2⟩
    ·simp at h;exact⟨n,by omega,by simpa using c,h⟩
   ·rintro ⟨k,h1,h2,h3⟩
    rcases Nat.lt_or_eq_of_le (Nat.le_of_lt_succ h1) with h|rfl
    ·exact .inl ⟨k,h,h2,h3⟩
    ·exact .inr (by simp[h3])
theorem qoH(l:List DQ):∀n:Nat,(q5M l n).length≤n
 | 0=>Nat.le_refl _
 | n+1=>by
  have:=qoH l n
  unfold q5M;split
  ·omega
  ·rw[List.length_append];show _+1≤_;omega
theorem qxB{l:List DQ}(hl:GDs l):GDs (q5M l l.length):=fun d hd=>by
 obtain⟨k,h1,-,rfl⟩:=(qi1 (Nat.le_refl _) d).1 hd
 exact hl.ix h1
theorem qyU{l:List DQ}(hl:GDs l)(h0:l≠[]):q5M l l.length≠[]:=by
 have hn:0<l.length:=List.length_pos_iff.2 h0
 obtain⟨k,hk,hf,-⟩:=kept hl hn
 intro h
 have:=(qi1 (l:=l) (Nat.le_refl _) (ix l k)).2 ⟨k,hk,hf,rfl⟩
 rw[h] at this;cases this
theorem qvY{l:List DQ}(hl:GDs l):qx1 (q5M l l.length)↔qx1 l:=by
 constructor
 ·rintro ⟨x,y,h⟩
  refine⟨x,y,fun d hd=>?_⟩
  obtain⟨i,hi,rfl⟩:=qbf hd
  obtain⟨k,hk,hf,hs⟩:=kept hl hi
  exact hs x y (h _ ((qi1 (Nat.le_refl _) _).2 ⟨k,hk,hf,rfl⟩))
 ·intro h
  refine h.mono fun d hd=>?_
  obtain⟨k,h1,-,rfl⟩:=(qi1 (Nat.le_refl _) d).1 hd
  exact qol h1
theorem qpd(p:Nat→Bool):∀(n:Nat) (k:Nat),(∃j,j<(pick p n).length∧cI (pick p n) (j:Int) 0=(k:Int))↔k<n∧p k=true
 | 0,k=>by simp[pick]
 | n+1,k=>by
  have ih:=qpd p n k
  unfold pick
  by_cases c:p n=true
  ·rw[if_pos c]
   have hlen:(q9P (pick p n) [[U.i (n:Int)]]).length=(pick p n).length+1:=by simp[q9P]
   have last:cI (q9P (pick p n) [[U.i (n:Int)]]) ((pick p n).length:Int) 0=(n:Int):=by
    unfold cI jj q9P
    simp[List.getD_eq_getElem?_getD,U.toI]
   have old:∀j,j<(pick p n).length→cI (q9P (pick p n) [[U.i (n:Int)]]) (j:Int) 0=cI (pick p n) (j:Int) 0:=fun j hj=>by
    unfold cI jj q9P
    simp[List.getD_eq_getElem?_getD,List.getElem?_append_left hj]
   constructor
   ·rintro ⟨j,h1,h2⟩
    rw[hlen] at h1
    rcases Nat.lt_or_eq_of_le (Nat.le_of_lt_succ h1) with h|rfl
    ·rw[old j h] at h2
     obtain⟨a,b⟩:=ih.1 ⟨j,h,h2⟩
     exact⟨by omega,b⟩
    ·rw[last] at h2
     have:n=k:=by omega
     subst this
     exact⟨by omega,c⟩
   ·rintro ⟨h1,h2⟩
    rcases Nat.lt_or_eq_of_le (Nat.le_of_lt_succ h1) with h|rfl
    ·obtain⟨j,a,b⟩:=ih.2 ⟨h,h2⟩
     exact⟨j,by omega,by rw[old j a];exact b⟩
    ·exact⟨(pick p k).length,by omega,last⟩
  ·rw[if_neg c,ih]
   constructor
   ·rintro ⟨h1,h2⟩;exact⟨by omega,h2⟩
   ·rintro ⟨h1,h2⟩
    rcases Nat.lt_or_eq_of_le (Nat.le_of_lt_succ h1) with h|rfl
    ·exact⟨h,h2⟩
    ·exact absurd h2 c
theorem qlF(p:Nat→Bool){n k:Nat}(hn:n<1000000)(hk:k<n):(wd [.r (pick p n),.i (k:Int)]).run=some (0,[.b (p k)]):=by
 have pl:=qoy p n
 have big:(pick p n).length<9223372036854775808:=by omega
 have key:=q1U (S:=wu) (fun j=>[.r (pick p n),.i (k:Int),.i (qL (pick p n)),.i (j:Int)]) (fun j=>if decide ((k:Int)=cI (pick p n) (j:Int) 0)=true then some j else none) (fun j=>[.i (j:Int)])
  [] (pick p n).length big
  (fun j hj=>by
   rw[q3F]
   have w:=q41 hj big
   by_cases c:(k:Int)=cI (pick p n) (j:Int) 0
   ·rw[if_pos (by simp[c])]
    simp only[STD,qfQ hj,yD,and_self,c]
    try rfl
   ·rw[if_neg (by simp[c])]
    simp only[STD,qfQ hj,yD,and_self,c,w]
    rfl)
  (by rw[q3F];simp only[STD,ql2])
 simp only[show ((0:Nat):Int)=0 from rfl] at key
 rw[q9E]
 have ix:∃m:Int,(vn [.r (pick p n),.i (k:Int)]).run=some (0,[.i m])∧(0≤m↔p k=true):=by
  rw[qcv]
  cases hs:q27 (fun j=>if decide ((k:Int)=cI (pick p n) (j:Int) 0)=true then some j else none) 0 (pick p n).length with
  | none=>
   rw[hs] at key
   simp only[Option.elim] at key
   refine⟨-1,by simp only[STD,key,zn key],⟨fun h=>by omega,fun h=>?_⟩⟩
   obtain⟨j,hj,e⟩:=(qpd p n k).2 ⟨hk,h⟩
   have:=q98 hs j (by omega) (by omega)
   rw[if_pos (by simp[e])] at this;cases this
  | some j=>
   rw[hs] at key
   simp only[Option.elim] at key
   obtain⟨i,-,hi,hf,-⟩:=qbj hs
   refine⟨(j:Int),by simp only[STD,key,zn key,show ¬(1=0) by omega],⟨fun _=>?_,fun _=>by omega⟩⟩
   split at hf
   ·rename_i c
    exact((qpd p n k).1 ⟨i,by omega,by simpa using (of_decide_eq_true c).symm⟩).2
   ·cases hf
 obtain⟨m,h1,h2⟩:=ix
 have e:ile 0 m=p k:=by
  unfold ile
  cases hp:p k
  ·have:¬0≤m:=fun h=>by have:=h2.1 h;rw[hp] at this;cases this
   simp[this]
  ·simp[h2.2 hp]
 simp only[STD,h1,e]
theorem qyK{n:Int}(h1:-9223372036854775808<n)(h2:n≤9223372036854775807):(km [.i n]).run=some (0,[.s (tQ (n:Rat))]):=by
 rw[qnH,qrG]
 simp only[STD,q1F n h1 h2]
theorem qw5{q:Rat}(h:shT (tQ q)){m:Nat}(hm:m≤255):qA6 (q+(m:Rat)):=by
 obtain⟨l1,l2⟩:=qdN q
 unfold shT at h
 have e:q+(m:Rat)=Rat.divInt (q.num+(m:Int)*q.den) q.den:=by
  rw[Rat.divInt_eq_div]
  have hd:(q.den:Rat)≠0:=by have:=q1H q;grind
  have h1:=qbq q
  have:(((q.num+(m:Int)*q.den:Int)):Rat)=(q+(m:Rat))*(q.den:Rat):=by
   simp only[Rat.intCast_add,Rat.intCast_mul,Rat.intCast_natCast,h1];grind
  rw[this]
  simp only[Rat.intCast_natCast]
  exact(Rat.mul_div_cancel hd).symm
 have hq:=qhD q
 have hd':0<qd q:=qor q
 have hmd:Bd 1 3 (m:Int):=by unfold Bd;simp;omega
 rcases l2 with l2|l2
 ·have k1:Bd 1 12 q.num:=Bd.of_nl (by unfold qn at l1;omega)
  have k2:Bd 1 12 ((m:Int)*q.den):=by rw[l2];simp only[Int.mul_one,Int.ofNat_one];simpa using hmd.mono (Nat.le_refl _) (by omega)
  have k3:=k1.add k2
  have hnum:nl (q.num+(m:Int)*q.den)≤13:=by
   unfold nl
   have:(q.num+(m:Int)*q.den).natAbs<10^13:=by unfold Bd at k3;omega
   exact q2m 12 _ (by omega)
  rw[e]
  constructor
  ·refine Nat.le_trans ?_ hnum
   show nl _≤nl _
   rw[Rat.num_divInt]
   apply qdV
   refine Nat.le_trans (Int.natAbs_ediv_le_natAbs _ _) ?_
   rw[Int.natAbs_mul]
   have:=qsD q
   rw[Int.natAbs_sign_of_ne_zero (by omega)];omega
  ·show dl _≤10
   rw[Rat.den_divInt,if_neg (by have:=qsD q;omega)]
   refine Nat.le_trans (qlQ (Nat.div_le_self _ _)) ?_
   rw[l2];decide
 ·have a1:qn q≤10:=by omega
  have a2:qd q≤10:=by omega
  have k1:Bd 1 10 q.num:=Bd.of_nl a1
  have kd:Bd 1 10 (q.den:Int):=Bd.of_nl (m:=(q.den:Int)) a2
  have m255:Bd 255 0 (m:Int):=by unfold Bd;simp;omega
  have k2:=(m255.mul kd).mono (C':=255) (e':=10) (by omega) (by omega)
  have k3:=k1.add k2
  have hnum:nl (q.num+(m:Int)*q.den)≤13:=by
   unfold nl
   have:(q.num+(m:Int)*q.den).natAbs<10^13:=by unfold Bd at k3;omega
   exact q2m 12 _ (by omega)
  rw[e]
  constructor
  ·refine Nat.le_trans ?_ hnum
   show nl _≤nl _
   rw[Rat.num_divInt]
   apply qdV
   refine Nat.le_trans (Int.natAbs_ediv_le_natAbs _ _) ?_
   rw[Int.natAbs_mul]
   have:=qsD q
   rw[Int.natAbs_sign_of_ne_zero (by omega)];omega
  ·show dl _≤10
   rw[Rat.den_divInt,if_neg (by have:=qsD q;omega)]
   exact Nat.le_trans (qlQ (Nat.div_le_self _ _)) a2
end Go.Eng

namespace Go.Eng
def qxE(m:Nat)(d:DQ):DQ:=⟨d.x,d.y,d.s+(m:Rat)⟩
def qfb(l:List DQ)(m:Nat):Nat→List DQ
 | 0=>[]
 | k+1=>qfb l m k++[qxE m (ix l k)]
theorem qpB(l:List DQ)(m:Nat):∀n,(qfb l m n).length=n
 | 0=>rfl
 | n+1=>by simp[qfb,qpB l m n]
theorem qoI{l:List DQ}{m:Nat}:∀{n:Nat},∀d,d∈qfb l m n→∃k,k<n∧d=qxE m (ix l k)
 | 0,d,h=>by simp[qfb] at h
 | n+1,d,h=>by
  unfold qfb at h
  rcases List.mem_append.1 h with h|h
  ·obtain⟨k,h1,h2⟩:=qoI d h;exact⟨k,by omega,h2⟩
  ·simp at h;exact⟨n,by omega,h⟩
theorem qwy(l:List DQ)(d:DQ):q9P (rD l) [[.s (tQ d.x),.s (tQ d.y),.s (tQ d.s)]]=rD (l++[d]):=by simp[q9P,rD,qd8]
theorem qx0(o:Option (Nat×Nat×Int)):∃a b c,cW o=[.b o.isSome,.i a,.i b,.i c,.i 0]:=by
 cases o with
 | none=>exact⟨_,_,_,rfl⟩
 | some w=>exact⟨_,_,_,rfl⟩
theorem qxX{m:Nat}(hm:m≤255):sm 100000 ((m:Int):Rat):=by
 constructor
 ·unfold qn
  simp only[Rat.num_intCast]
  have:dl m≤dl 255:=qlQ hm
  rw[qnZ]
  have h2:dl 255=3:=by decide
  omega
 ·unfold qd;simp;decide
theorem qvC(x:R):∃b,(q1g [.r x]).run=some (0,[.b b])∧(b=true→isD x→∃l,x=rD l∧GDs l∧l≠[]∧l.length≤5∧∀d∈l,shT (tQ d.x)∧shT (tQ d.y)∧shT (tQ d.s)):=by
 rw[qno]
 by_cases h5:x.length≤5
 ·have h5':qL x≤5:=by unfold qL;omega
  obtain⟨f,hf,h1,-⟩:=qyS x
  cases f
  ·exact⟨false,by simp only[STD,h5',hf],fun h=>by cases h⟩
  ·have hF:=h1 rfl
   by_cases hD:isD x
   ·have L:=qjX x (qyM hF hD)
    refine⟨ieq (lE x) 0,by simp only[STD,h5',hf,L],fun h _=>?_⟩
    rw[qsr] at h
    obtain⟨l,rfl,hl,h0,hn⟩:=qwG hD hF h
    refine⟨l,rfl,hl,h0,hn,fun d hd=>?_⟩
    obtain⟨i,hi,rfl⟩:=qbf hd
    have hs:∀i,i<(rD l).length→qj7 (rD l) i:=by
     rcases hF with h|h
     ·exact h.2
     ·have:(rD l).length=l.length:=by simp[rD]
      omega
    have:=hs i (by simpa[rD] using hi)
    unfold qj7 at this
    obtain⟨x1,x2,x3⟩:=qgv hi
    rw[x1,x2,x3] at this
    exact this
   ·have hs:∀i,i<x.length→qj7 x i:=by
     rcases hF with h|h
     ·exact h.2
     ·omega
    by_cases hb:∀i,i<x.length→∀j,(cS x (i:Int) j).length≤1000000
    ·exact⟨ieq (lE x) 0,by simp only[STD,h5',hf,qjX x (.inr hb)],fun _ h=>absurd h hD⟩
    ·have hb':∀i,i<x.length→(cS x (i:Int) 0).length≤1000000∧(cS x (i:Int) 1).length≤1000000∧(cS x (i:Int) 2).length≤1000000:=fun i hi=>⟨qoj (hs i hi).1,qoj (hs i hi).2.1,qoj (hs i hi).2.2⟩
     have L:∃e,(uW [.r x]).run=some (0,[.i e]):=by
      rw[qhr]
      have hn':¬(64:Int)<qL x:=by unfold qL;omega
      have L:=qoG (S:=jG) (fun k=>[.r x,.i (k:Int)]) (cD x) [] [.r x] x.length (by omega)
       (fun i hi=>by
        rw[q4s]
        have c:=qib _ _ _ (hb' i hi).1 (hb' i hi).2.1 (hb' i hi).2.2
        have w:=q41 hi (show x.length<9223372036854775808 by omega)
        by_cases e:qtD (cS x (i:Int) 0) (cS x (i:Int) 1) (cS x (i:Int) 2)=0
        ·simp only[STD,c,e,w,qfQ hi,yD,and_self,cD]
        ·simp only[STD,c,e,qfQ hi,yD,and_self,cD])
       (by rw[q4s];simp only[STD,ql2])
      simp only[show ((0:Nat):Int)=0 from rfl] at L
      by_cases e:qbi (cD x) x.length=0
      ·rw[if_pos e] at L
       by_cases z:qL x=0
       ·refine⟨13,?_⟩
        simp only[STD,L,zn L,z,show ¬(64:Int)<0 by omega]
       ·refine⟨0,?_⟩
        simp only[STD,hn',L,zn L,z]
      ·rw[if_neg e] at L
       exact⟨qbi (cD x) x.length,by simp only[STD,hn',L,zn L,show ¬(1=0) by omega]⟩
     obtain⟨e,L⟩:=L
     exact⟨ieq e 0,by simp only[STD,h5',hf,L],fun _ h=>absurd h hD⟩
 ·have h5':¬qL x≤5:=by unfold qL;omega
  exact⟨false,by simp only[STD,h5'],fun h=>by cases h⟩
theorem qyV{a b:Option (Nat×Nat×Int)}(h:a.isSome=true↔b.isSome=true):a.isSome=b.isSome:=by
 cases ha:a.isSome<;>cases hb:b.isSome<;>simp_all
theorem qtw{l:List DQ}(hl:GDs l):∀d∈l,0≤d.s:=fun d hd=>(hl d hd).nn
theorem qmG(x0:R)(x1:Int)(lex0:UFit (.sl [.str,.str,.str]) (.l x0))(wex0:x0.length*48≤140737488351232)(lox1:IntKind.min .u8≤x1)(hix1:x1≤IntKind.max .u8):(uJ [.r x0,.i x1]).run=some (0,[.b true]):=by
 rw[qgI]
 obtain⟨b,hb,hr⟩:=qvC x0
 cases b
 ·simp only[STD,hb,qix]
 obtain⟨l,rfl,hl,h0,h5,hsh⟩:=hr rfl (qzs lex0)
 have lo:(0:Int)≤x1:=lox1
 have hi1:x1≤255:=hix1
 obtain⟨m,rfl⟩:∃m:Nat,x1=(m:Int):=⟨x1.toNat,by omega⟩
 have hm:m≤255:=by omega
 have wc:j4 .i64 (m:Int)=(m:Int):=qkX (by omega)
 have big:l.length<9223372036854775808:=by omega
 have cm:=q8o hl h0 (by omega)
 have rd:=qnw hl h0 (by omega)
 have L12:=fun (f:Bool) (I J S:Int)=>q0s (S:=j1) (fun k=>[.r (rD l),.i (m:Int),.b f,.r (qof l),.r (rD l),.i (l.length:Int),.i (k:Int),.i I,.i J,.i S,.r (rD (q5M l k)),.r (rD (qfb l m k))])
  (0,[.r (rD l),.b f,.i I,.i J,.i S,.r (rD (q5M l l.length)),.r (rD (qfb l m l.length))]) l.length big
  (fun k hk=>by
   rw[q5t]
   obtain⟨y1,y2,y3⟩:=qgv hk
   have w:=q41 hk big
   have g:=hl.ix hk
   have c:=qlF (fun i=>fnd l i l.length) (show l.length<1000000 by omega) hk
   have wh:=qyK (n:=(m:Int)) (by omega) (by omega)
   have pl:=qqL ((q2V g.s).sm (by omega) (by omega)) (qxX hm)
   have dd:(zT [.s (tQ (ix l k).x),.s (tQ (ix l k).y),.s (tQ ((ix l k).s+((m:Int):Rat)))]).run=some (0,[.s (tQ (ix l k).x),.s (tQ (ix l k).y),.s (tQ ((ix l k).s+((m:Int):Rat)))]):=by rw[qhO];rfl
   have r1:=qoH l k
   have r2:=qpB l m k
   have q1:((q5M l k).length:Int)+qL [[U.s (tQ (ix l k).x),U.s (tQ (ix l k).y),U.s (tQ (ix l k).s)]]≤2932031007402:=by rw[qoD];omega
   have q2:((qfb l m k).length:Int)+qL [[U.s (tQ (ix l k).x),U.s (tQ (ix l k).y),U.s (tQ ((ix l k).s+((m:Int):Rat)))]]≤2932031007402:=by rw[qoD];omega
   have e2:q9P (rD (qfb l m k)) [[.s (tQ (ix l k).x),.s (tQ (ix l k).y),.s (tQ ((ix l k).s+((m:Int):Rat)))]]=rD (qfb l m (k+1)):=by
    rw[Rat.intCast_natCast];exact qwy _ (qxE m (ix l k))
   have e1:=qwy (q5M l k) (ix l k)
   unfold qof
   cases hf:fnd l k l.length
   ·have e3:q5M l (k+1)=q5M l k++[ix l k]:=by
     rw[show q5M l (k+1)=if fnd l k l.length=true then q5M l k else q5M l k++[ix l k] from rfl,hf];rfl
    rw[e3]
    simp only[STD,y1,y2,y3,w,wc,c,hf,wh,pl,dd,q1,q2,e1,e2,zH,show (k:Int)<(l.length:Int) by omega,yD,and_self]
   ·have e3:q5M l (k+1)=q5M l k:=by
     rw[show q5M l (k+1)=if fnd l k l.length=true then q5M l k else q5M l k++[ix l k] from rfl,hf];rfl
    rw[e3]
    simp only[STD,y1,y2,y3,w,wc,c,hf,wh,pl,dd,q2,e2,zH,show (k:Int)<(l.length:Int) by omega,yD,and_self])
  (by rw[q5t];simp only[STD,show ¬(l.length:Int)<(l.length:Int) by omega])
 have L12':∀(f:Bool) (I J S:Int),(qf j1 [.r (rD l),.i (m:Int),.b f,.r (qof l),.r (rD l),.i (l.length:Int),.i 0,.i I,.i J,.i S,.r [],.r []]).run=some (0,[.r (rD l),.b f,.i I,.i J,.i S,.r (rD (q5M l l.length)),.r (rD (qfb l m l.length))]):=L12
 have gr:=qxB hl
 have nr:=qyU hl h0
 have lr:=qoH l l.length
 have hn:0<l.length:=List.length_pos_iff.2 h0
 have gm:GDs (qfb l m l.length):=fun d hd=>by
  obtain⟨k,hk,rfl⟩:=qoI d hd
  have g:=hl.ix hk
  have s:=(hsh _ (qol hk)).2.2
  refine⟨g.x,g.y,qw5 s hm,?_⟩
  have:=g.nn
  have h1:(0:Rat)≤(m:Rat):=Rat.natCast_nonneg
  show 0≤(ix l k).s+(m:Rat)
  grind
 have lm:=qpB l m l.length
 have nm:qfb l m l.length≠[]:=fun h=>by rw[h] at lm;simp at lm;omega
 have c1:=q8o gr nr (by omega)
 have c2:=q8o gm nm (by omega)
 have again:(ua (q5M l l.length)).isSome=(ua l).isSome:=qyV (by
  rw[qeP nr (qtw gr),qeP h0 (qtw hl)];exact qvY hl)
 have great:(ua l).isSome=true→(ua (qfb l m l.length)).isSome=true:=by
  rw[qeP h0 (qtw hl),qeP nm (qtw gm)]
  rintro ⟨x,y,h⟩
  refine⟨x,y,fun d hd=>?_⟩
  obtain⟨k,hk,rfl⟩:=qoI d hd
  have:=h _ (qol hk)
  have h1:(0:Rat)≤(m:Rat):=Rat.natCast_nonneg
  unfold pw qxE at *
  simp only
  grind
 obtain⟨a1,a2,a3,e1⟩:=qx0 (ua (q5M l l.length))
 obtain⟨b1,b2,b3,e2⟩:=qx0 (ua (qfb l m l.length))
 rw[e1,again] at c1
 rw[e2] at c2
 cases hw:ua l with
 | none=>
  rw[hw] at cm c1 again
  simp only[cW,Option.elim,Option.isSome] at cm c1
  simp only[STD,hb,cm,rd,zH,L12',c1,c2,qix]
 | some w=>
  rw[great (by rw[hw];rfl)] at c2
  rw[hw] at cm c1
  simp only[cW,Option.elim,Option.isSome] at cm c1
  obtain⟨p1,p2,p3,p4,p5⟩:=qme hw
  by_cases hIJ:w.1=w.2.1
  ·have hI:w.1<l.length:=by omega
   rw[←hIJ,p5 hIJ] at p1
   obtain⟨p,hp1,hp2⟩:=q8j.1 p1
   have hp:p=⟨(ix l w.1).x,(ix l w.1).y,0,0,0⟩:=by
    unfold q9o at hp1
    simp at hp1;exact hp1.symm
   have center:∀d∈l,q29 d.x d.y (ix l w.1).x (ix l w.1).y≤d.s:=fun d hd=>by
    have:=hp2 d hd
    rw[hp,qoh] at this
    unfold pw at this;unfold q29;grind
   obtain⟨z1,z2,z3⟩:=qgv hI
   have L27:=q0s (S:=vY) (fun k=>[.r (rD l),.r (rD l),.i (l.length:Int),.i (k:Int),.i (w.1:Int),.i (w.2.1:Int),.i w.2.2]) (0,[]) l.length big
    (fun k hk=>by
     rw[q5q]
     obtain⟨y1,y2,y3⟩:=qgv hk
     have ws:=q41 hk big
     have ct:=qul (hl.ix hk) (wK (hl.ix hI).x) (wK (hl.ix hI).y)
     have:=center _ (qol hk)
     simp only[STD,y1,y2,y3,z1,z2,ws,ct,this,zH,show (k:Int)<(l.length:Int) by omega,show (w.1:Int)<(l.length:Int) by omega,yD,and_self,decide_true])
    (by rw[q5q];simp only[STD,show ¬(l.length:Int)<(l.length:Int) by omega])
   simp only[show ((0:Nat):Int)=0 from rfl] at L27
   have hIJ':(w.1:Int)=(w.2.1:Int):=by omega
   rw[←hIJ'] at L27 cm
   simp only[STD,hb,cm,rd,zH,L12',c1,c2,L27,zn L27,show (w.1:Int)<(l.length:Int) by omega,yD,qix]
  ·have hIJ':¬(w.1:Int)=(w.2.1:Int):=by omega
   simp only[STD,hb,cm,rd,zH,L12',c1,c2,hIJ',qix]
end Go.Eng

