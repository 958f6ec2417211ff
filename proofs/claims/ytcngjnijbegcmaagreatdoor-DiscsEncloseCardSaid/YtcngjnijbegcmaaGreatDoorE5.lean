/- Texts of the proof, merged: what the code computes, and plain laws. No statement stands here. -/
import Derived.Shelf.Strings.SlTrimAscii
import Derived.Shelf.Strings.Search2
import Derived.Shelf.Small.Strs
import Derived.Shelf.Strconv.Itoa3
import Derived.Shelf.Strconv.Atoi
import Derived.Shelf.Strings.BuilderK
import Derived.Shelf.LaysM
import Derived.Test.YtcngjnijbegcmaaGreatDoorProg
import Derived.WalkKit
import Derived.BigCall
import Derived.Deep.RegionWith
import Derived.Laws.Externs
import Derived.Lib.Builder
import Derived.Lib.AppendStr
import Derived.Shelf.SlicesG.Clone
import Derived.WalkSpells
import Derived.KernelRfl
import Derived.Test.YtcngjnijbegcmaaGreatDoorE4
namespace Go.Eng
def su:Nat->(Nat->Rat)->Rat
 | 0,_=>0
 | n+1,f=>su n f+f n
theorem qo:∀{n:Nat} {f g:Nat->Rat},(∀i,i<n->f i=g i)->su n f=su n g
 | 0,_,_,_=>rfl
 | n+1,f,g,h=>by simp only[su];rw[qo (fun i hi=>h i (by omega)),h n (by omega)]
theorem q5F:∀(n:Nat) (f g:Nat->Rat),su n (fun i=>f i+g i)=su n f+su n g
 | 0,_,_=>by show (0:Rat)=0+0;grind
 | n+1,f,g=>by simp only[su];rw[q5F n f g];grind
theorem wJ:∀(n:Nat) (a:Rat) (f:Nat->Rat),su n (fun i=>a*f i)=a*su n f
 | 0,a,_=>by simp[su]
 | n+1,a,f=>by simp only[su];rw[wJ n a f];grind
theorem q8K(n:Nat)(f g:Nat->Rat):su n (fun i=>f i-g i)=su n f-su n g:=by have h:=q5F n f (fun i=>(-1)*g i);rw[wJ] at h;rw[qo (g:=fun i=>f i+(-1)*g i) (fun i _=>by grind),h];grind
theorem q6u:∀(n:Nat),su n (fun _=>0)=0
 | 0=>rfl
 | n+1=>by simp only[su];rw[q6u n];grind
theorem qGm:∀{n:Nat} {f:Nat->Rat},(∀i,i<n->0<=f i)->0<=su n f
 | 0,_,_=>qMF
 | n+1,f,h=>by
  have a:=qGm (n:=n) (f:=f) (fun i hi=>h i (by omega));have b:=h n (by omega);simp only[su];grind
theorem qyi:∀(m n:Nat) (f:Nat->Nat->Rat),su m (fun i=>su n (f i))=su n (fun j=>su m (fun i=>f i j))
 | 0,n,f=>by simp only[su];rw[q6u]
 | m+1,n,f=>by simp only[su];rw[qyi m n f,q5F]
theorem q8y:∀{n k:Nat} (f:Nat->Rat),k<n->(∀i,i<n->i≠k->f i=0)->su n f=f k
 | 0,k,f,h,_=>by omega
 | n+1,k,f,h,hz=>by
  simp only[su];by_cases hk:k=n
  ·subst hk;rw[qo (g:=fun _=>0) (fun i hi=>hz i (by omega) (by omega)),q6u];grind
  ·rw[q8y f (by omega:k<n) (fun i hi hne=>hz i (by omega) hne),hz n (by omega) (by omega)];grind
theorem qt1:∀{n:Nat} {f:Nat->Rat},su n f≠0->∃i,i<n/\f i≠0
 | 0,_,h=>absurd rfl h
 | n+1,f,h=>by
  by_cases hn:f n=0
  ·obtain⟨i,hi,h'⟩:=qt1 (n:=n) (f:=f) (by simp only[su] at h;rw[hn] at h;grind);exact⟨i,by omega,h'⟩
  ·exact⟨n,by omega,hn⟩
def qo9(m n:Nat)(M:Nat->Nat->Rat)(b x:Nat->Rat):Prop:=∀i,i<m->su n (fun j=>M i j*x j)=b i
def qIy(m n:Nat)(M:Nat->Nat->Rat)(b y:Nat->Rat):Prop:=(∀j,j<n->su m (fun i=>y i*M i j)=0)/\su m (fun i=>y i*b i)≠0
theorem qv8(m:Nat):∀(n:Nat) (M:Nat->Nat->Rat) (b:Nat->Rat),(∃x,qo9 m n M b x)\/∃y,qIy m n M b y
 | 0,M,b=>by
  by_cases h:∀i,i<m->b i=0
  ·exact .inl ⟨fun _=>0,fun i hi=>(h i hi).symm⟩
  ·right;obtain⟨k,hk⟩:=qNM.1 h;obtain⟨hk,hb⟩:=qNp.1 hk;refine⟨fun i=>if i=k then 1 else 0,fun j hj=>by omega,?_⟩;rw[q8y _ hk (fun i _ hne=>by simp[hne])];simpa using hb
 | n+1,M,b=>by
  by_cases h:∀i,i<m->M i n=0
  ·rcases qv8 m n M b with⟨x,hx⟩|⟨y,h1,h2⟩
   ·refine .inl ⟨fun j=>if j=n then 0 else x j,fun i hi=>?_⟩;simp only[su];rw[<-hx i hi,h i hi,qo (g:=fun j=>M i j*x j) (fun j hj=>by rw[if_neg (by omega)])];grind
   ·refine .inr ⟨y,fun j hj=>?_,h2⟩;by_cases hjn:j=n
    ·subst hjn;rw[qo (g:=fun _=>0) (fun i hi=>by rw[h i hi];grind),q6u]
    ·exact h1 j (by omega)
  ·obtain⟨k,hk⟩:=qNM.1 h;obtain⟨hk,ha⟩:=qNp.1 hk;have inv:M k n*(M k n)⁻¹=1:=qNB _ ha;rcases qv8 m n (fun i j=>M i j-M i n*(M k n)⁻¹*M k j) (fun i=>b i-M i n*(M k n)⁻¹*b k) with⟨x,hx⟩|⟨y,h1,h2⟩
   ·refine .inl ⟨fun j=>if j=n then (M k n)⁻¹*(b k-su n (fun j=>M k j*x j)) else x j,fun i hi=>?_⟩;have e:=hx i hi;simp only[su,if_true];rw[qo (g:=fun j=>M i j*x j) (fun j hj=>by rw[if_neg (by omega)])];have e2:su n (fun j=>(M i j-M i n*(M k n)⁻¹*M k j)*x j)=su n (fun j=>M i j*x j)-M i n*(M k n)⁻¹*su n (fun j=>M k j*x j):=by rw[<-wJ,<-q8K];exact qo fun j _=>by grind
    rw[e2] at e;grind
   ·refine .inr ⟨fun i=>y i-(if i=k then su m (fun i=>y i*M i n)*(M k n)⁻¹ else 0),fun j hj=>?_,?_⟩
    ·have e1:su m (fun i=>(y i-(if i=k then su m (fun i=>y i*M i n)*(M k n)⁻¹ else 0))*M i j)=su m (fun i=>y i*M i j)-su m (fun i=>y i*M i n)*(M k n)⁻¹*M k j:=by have s:=q8y (n:=m) (k:=k) (fun i=>(if i=k then su m (fun i=>y i*M i n)*(M k n)⁻¹ else 0)*M i j) hk (fun i _ hne=>by simp[hne]);simp only[if_true] at s;rw[<-s,<-q8K];exact qo fun i _=>by grind
     rw[e1];by_cases hjn:j=n
     ·subst hjn;grind
     ·have:=h1 j (by omega);have e2:su m (fun i=>y i*(M i j-M i n*(M k n)⁻¹*M k j))=su m (fun i=>y i*M i j)-su m (fun i=>y i*M i n)*((M k n)⁻¹*M k j):=by rw[show su m (fun i=>y i*M i n)*((M k n)⁻¹*M k j)=((M k n)⁻¹*M k j)*su m (fun i=>y i*M i n) from by grind,<-wJ,<-q8K];exact qo fun i _=>by grind
      rw[e2] at this;grind
    ·have e1:su m (fun i=>(y i-(if i=k then su m (fun i=>y i*M i n)*(M k n)⁻¹ else 0))*b i)=su m (fun i=>y i*b i)-su m (fun i=>y i*M i n)*(M k n)⁻¹*b k:=by have s:=q8y (n:=m) (k:=k) (fun i=>(if i=k then su m (fun i=>y i*M i n)*(M k n)⁻¹ else 0)*b i) hk (fun i _ hne=>by simp[hne]);simp only[if_true] at s;rw[<-s,<-q8K];exact qo fun i _=>by grind
     rw[e1];have e2:su m (fun i=>y i*(b i-M i n*(M k n)⁻¹*b k))=su m (fun i=>y i*b i)-su m (fun i=>y i*M i n)*((M k n)⁻¹*b k):=by rw[show su m (fun i=>y i*M i n)*((M k n)⁻¹*b k)=((M k n)⁻¹*b k)*su m (fun i=>y i*M i n) from by grind,<-wJ,<-q8K];exact qo fun i _=>by grind
     rw[e2] at h2;intro h0;apply h2;grind
variable {n:Nat}
structure V3 where
 x:Rat
 y:Rat
 z:Rat
def qaG(a b:V3):Rat:=a.x*b.x+a.y*b.y+a.z*b.z
def d2(a b:V3):Rat:=(a.x-b.x)*(a.x-b.x)+(a.y-b.y)*(a.y-b.y)+(a.z-b.z)*(a.z-b.z)
theorem qwE (a b:V3):d2 a b=qaG a a-2*qaG a b+qaG b b:=by unfold d2 qaG;grind
theorem qei (a:Rat):0<=a*a:=by
 rcases Rat.le_total (a:=0) (b:=a) with h|h
 ·exact qLJ h h
 ·have:=qLJ (show 0<=-a by grind) (show 0<=-a by grind);grind
theorem qxE (a b:V3):0<=d2 a b:=by have h1:=qei (a.x-b.x);have h2:=qei (a.y-b.y);have h3:=qei (a.z-b.z);unfold d2;grind
theorem quu {a:Rat}(h:a*a<=0):a=0:=by
 have h1:=qei a;have h2:a*a=0:=by grind
 rcases qMT.1 h2 with h|h<;>exact h
theorem qC1 {a b:V3}(h:d2 a b<=0):a=b:=by have h1:=qei (a.x-b.x);have h2:=qei (a.y-b.y);have h3:=qei (a.z-b.z);unfold d2 at h;have e1:=quu (a:=a.x-b.x) (by grind);have e2:=quu (a:=a.y-b.y) (by grind);have e3:=quu (a:=a.z-b.z) (by grind);cases a;cases b;simp only[V3.mk.injEq];refine⟨?_,?_,?_⟩<;>simp only at e1 e2 e3<;>grind
def cen(n:Nat)(w:Nat->Rat)(p:Nat->V3):V3:=⟨su n fun i=>w i*(p i).x,su n fun i=>w i*(p i).y,su n fun i=>w i*(p i).z⟩
theorem qz5 (n:Nat)(w:Nat->Rat)(p:Nat->V3)(c:V3):su n (fun i=>w i*qaG c (p i))=qaG c (cen n w p):=by unfold qaG cen;simp only;rw[<-wJ,<-wJ,<-wJ,<-q5F,<-q5F];exact qo fun i _=>by grind
theorem qIu (n:Nat)(w:Nat->Rat)(p:Nat->V3)(c:V3):su n (fun i=>w i*d2 c (p i))=qaG c c*su n w-2*qaG c (cen n w p)+su n (fun i=>w i*qaG (p i) (p i)):=by rw[<-qz5,<-wJ,<-wJ,<-q8K,<-q5F];exact qo fun i _=>by rw[qwE];grind
def en(n:Nat)(p:Nat->V3)(w:Nat->Rat):Rat:=su n fun i=>w i*d2 (cen n w p) (p i)
theorem qtj {w:Nat->Rat}(p:Nat->V3)(h:su n w=1)(c:V3):su n (fun i=>w i*d2 c (p i))=en n p w+d2 c (cen n w p):=by unfold en;rw[qIu,qIu,h,qwE];grind
structure Wt (n:Nat) (w:Nat->Rat):Prop where
 nn:∀i,i<n->0<=w i
 one:su n w=1
def qyA(n:Nat)(p:Nat->V3)(w:Nat->Rat)(s:Rat):Prop:=Wt n w/\∀i,i<n->w i≠0->d2 (cen n w p) (p i)=s
theorem qiE {w f:Nat->Rat}{s:Rat}(h1:su n w=1)(h:∀i,i<n->w i≠0->f i=s):su n (fun i=>w i*f i)=s:=by
 rw[qo (g:=fun i=>s*w i) (fun i hi=>by
  by_cases hw:w i=0
  ·rw[hw];grind
  ·rw[h i hi hw];grind),wJ,h1];grind
theorem qyA.en {p:Nat->V3}{w:Nat->Rat}{s:Rat}(h:qyA n p w s):en n p w=s:=qiE h.1.one h.2
def cnt:Nat->(Nat->Rat)->Nat
 | 0,_=>0
 | n+1,w=>cnt n w+if w n=0 then 0 else 1
theorem qGu:∀{n:Nat} {w v:Nat->Rat},(∀i,i<n->w i=0->v i=0)->cnt n v<=cnt n w
 | 0,_,_,_=>qLs _
 | n+1,w,v,h=>by
  have a:=qGu (n:=n) (w:=w) (v:=v) fun i hi=>h i (by omega);have b:=h n (by omega);simp only[cnt];by_cases hw:w n=0
  ·rw[if_pos hw,if_pos (b hw)];omega
  ·rw[if_neg hw];split<;>omega
theorem qzb:∀{n:Nat} {w v:Nat->Rat} {k:Nat},(∀i,i<n->w i=0->v i=0)->k<n->w k≠0->v k=0->cnt n v<cnt n w
 | 0,_,_,_,_,hk,_,_=>by omega
 | n+1,w,v,k,h,hk,hw,hv=>by
  simp only[cnt];by_cases e:k=n
  ·subst e;have a:=qGu (n:=k) (w:=w) (v:=v) fun i hi=>h i (by omega);rw[if_neg hw,if_pos hv];omega
  ·have a:=qzb (n:=n) (w:=w) (v:=v) (k:=k) (fun i hi=>h i (by omega)) (by omega) hw hv;have b:=h n (by omega);by_cases hwn:w n=0
   ·rw[if_pos hwn,if_pos (b hwn)];omega
   ·rw[if_neg hwn];split<;>omega
theorem qwW:∀(n:Nat) (w v:Nat->Rat),(∀i,i<n->v i<0->0<w i)->(∃k,k<n/\v k<0)->∃t,0<t/\∃k,k<n/\v k<0/\w k+t*v k=0/\∀i,i<n->v i<0->0<=w i+t*v i
 | 0,_,_,_,⟨k,hk,_⟩=>by omega
 | n+1,w,v,h,⟨k,hk,hv⟩=>by
  have own:v n<0->0<w n*(-(v n))⁻¹/\w n+(w n*(-(v n))⁻¹)*v n=0:=fun hn=>by
   have h1:0 < -(v n):=by grind
   have h2:-(v n)*(-(v n))⁻¹=1:=qNB _ (by grind);exact⟨qLU (h n (by omega) hn) (Rat.inv_pos.2 h1),by grind⟩
  by_cases hex:∃k,k<n/\v k<0
  ·obtain⟨t,t0,k,hk,hv,hz,hall⟩:=qwW n w v (fun i hi=>h i (by omega)) hex;by_cases hn:v n<0/\w n+t*v n<0
   ·obtain⟨o1,o2⟩:=own hn.1;refine⟨w n*(-(v n))⁻¹,o1,n,by omega,hn.1,o2,fun i hi hvi=>?_⟩;by_cases e:i=n
    ·subst e;rw[o2];exact qMF
    ·have a:=hall i (by omega) hvi;have lt:w n*(-(v n))⁻¹<t:=by apply qM7;intro hh;have:=qLJ (show 0<=w n*(-(v n))⁻¹-t by grind) (show 0<=-(v n) by grind);grind
     have:=qLJ (show 0<=t-w n*(-(v n))⁻¹ by grind) (show 0<=-(v i) by grind);grind
   ·refine⟨t,t0,k,by omega,hv,hz,fun i hi hvi=>?_⟩;by_cases e:i=n
    ·subst e;apply qM7;intro hh;exact hn ⟨hvi,by grind⟩
    ·exact hall i (by omega) hvi
  ·have e:k=n:=by apply qM7;intro hh;exact hex ⟨k,by omega,hv⟩
   subst e;obtain⟨o1,o2⟩:=own hv;refine⟨_,o1,k,by omega,hv,o2,fun i hi hvi=>?_⟩;have:i=k:=by apply qM7;intro hh;exact hex ⟨i,by omega,hvi⟩
   subst this;rw[o2];exact qMF
theorem qDw {w v:Nat->Rat}(hw:Wt n w)(h0:su n v=0)(hz:∀i,i<n->w i=0->v i=0)(hk:∃k,k<n/\v k<0) :∃t,0<t/\Wt n (fun i=>w i+t*v i)/\cnt n (fun i=>w i+t*v i)<cnt n w/\∀i,i<n->w i=0->w i+t*v i=0:=by
 obtain⟨t,t0,k,hk,hv,he,hall⟩:=qwW n w v (fun i hi hv=>by
  have a:=hw.nn i hi;have b:w i≠0:=fun e=>by rw[hz i hi e] at hv;exact absurd hv (by grind)
  grind) hk
 have zz:∀i,i<n->w i=0->w i+t*v i=0:=fun i hi e=>by rw[e,hz i hi e];grind
 refine⟨t,t0,⟨fun i hi=>?_,?_⟩,qzb zz hk (fun e=>?_) he,zz⟩
 ·by_cases hvi:v i<0
  ·exact hall i hi hvi
  ·have:=qLJ (show 0<=t by grind) (show 0<=v i by grind);have:=hw.nn i hi;grind
 ·rw[q5F,wJ,h0,hw.one];grind
 ·rw[hz k hk e] at hv;exact absurd hv (by grind)
theorem qmT:∀{n:Nat} {f:Nat->Rat},(∀i,i<n->0<=f i)->su n f=0->∀i,i<n->f i=0
 | 0,_,_,_,i,hi=>by omega
 | n+1,f,h,hs,i,hi=>by
  have a:=qGm (n:=n) (f:=f) (fun i hi=>h i (by omega));have b:=h n (by omega);simp only[su] at hs;by_cases e:i=n
  ·subst e;grind
  ·exact qmT (n:=n) (f:=f) (fun i hi=>h i (by omega)) (by grind) i (by omega)
theorem qpp (n:Nat)(w v:Nat->Rat)(t:Rat)(p:Nat->V3):cen n (fun i=>w i+t*v i) p=⟨(cen n w p).x+t*(cen n v p).x,(cen n w p).y+t*(cen n v p).y,(cen n w p).z+t*(cen n v p).z⟩:=by unfold cen;simp only[V3.mk.injEq];refine⟨?_,?_,?_⟩<;>rw[<-wJ,<-q5F]<;>exact qo fun i _=>by grind
end Go.Eng

namespace Go.Eng
variable {n:Nat}{p:Nat->V3}
theorem qHN {v:Nat->Rat}{S:Nat->Prop}(hv:∀i,i<n->¬S i->v i=0){r:Rat}(h0:su n v=0)(h:∀j,j<n->S j->2*qaG (cen n v p) (p j)+r=0):cen n v p=⟨0,0,0⟩:=by
 have e:su n (fun j=>v j*(2*qaG (cen n v p) (p j)+r))=0:=by
  rw[qo (g:=fun _=>0) (fun j hj=>by
   by_cases hs:S j
   ·rw[h j hj hs];grind
   ·rw[hv j hj hs];grind),q6u]
 have e2:su n (fun j=>v j*(2*qaG (cen n v p) (p j)+r))=2*qaG (cen n v p) (cen n v p)+r*su n v:=by rw[<-qz5,<-wJ,<-wJ,<-q5F];exact qo fun i _=>by grind
 rw[e2,h0] at e;have:d2 (cen n v p) ⟨0,0,0⟩<=0:=by rw[qwE];unfold qaG at *;simp only at *;grind
 exact qC1 this
theorem qCa (n:Nat)(p:Nat->V3)(w:Nat->Rat)(h1:su n w=1) :(∃x s,su n x=1/\(∀i,i<n->w i=0->x i=0)/\∀i,i<n->w i≠0->d2 (cen n x p) (p i)=s) \/∃v,(∀i,i<n->w i=0->v i=0)/\su n v=0/\cen n v p=⟨0,0,0⟩/\0<su n (fun i=>v i*qaG (p i) (p i)):=by
 rcases qv8 (n+1) (n+1) (fun i j=>if i=n then (if j=n then 0 else 1) else if w i=0 then (if j=i then 1 else 0) else if j=n then 1 else 2*qaG (p i) (p j))
  (fun i=>if i=n then 1 else if w i=0 then 0 else qaG (p i) (p i)) with⟨x,hx⟩|⟨y,h2,h3⟩
 ·left;have xz:∀i,i<n->w i=0->x i=0:=fun i hi hw=>by have:=hx i (by omega);simp only[show ¬i=n by omega,if_false,hw,if_true] at this;rw[q8y (k:=i) _ (by omega) (fun j _ hne=>by rw[if_neg hne];grind)] at this;simpa using this
  have x1:su n x=1:=by have:=hx n (by omega);simp only[if_true,su] at this;rw[qo (g:=x) (fun j hj=>by rw[if_neg (by omega)];grind)] at this;grind
  refine⟨x,qaG (cen n x p) (cen n x p)+x n,x1,xz,fun i hi hw=>?_⟩;have:=hx i (by omega);simp only[show ¬i=n by omega,if_false,hw,su,if_true] at this;rw[qo (g:=fun j=>2*(x j*qaG (p i) (p j))) (fun j hj=>by rw[if_neg (by omega)];grind),wJ,qz5] at this;rw[qwE];have sym:qaG (cen n x p) (p i)=qaG (p i) (cen n x p):=by unfold qaG;grind
  rw[sym];grind
 ·right;obtain⟨m,hm⟩:∃m:Nat->Rat,m=fun i=>if w i=0 then 0 else y i:=⟨_,rfl⟩
  have mz:∀i,i<n->w i=0->m i=0:=fun i _ hw=>by rw[hm];simp[hw]
  have m0:su n m=0:=by
   have:=h2 n (by omega);simp only[su,if_true] at this;rw[qo (g:=m) (fun i hi=>by
    rw[hm];by_cases hw:w i=0
    ·simp only[show ¬i=n by omega,show ¬n=i by omega,if_false,hw,if_true];grind
    ·simp only[show ¬i=n by omega,if_false,hw];grind)] at this
   grind
  have md:∀j,j<n->w j≠0->2*qaG (cen n m p) (p j)+y n=0:=fun j hj hw=>by
   have:=h2 j (by omega);simp only[su,if_true,show ¬j=n by omega,if_false] at this;rw[qo (g:=fun i=>2*(m i*qaG (p j) (p i))) (fun i hi=>by
    rw[hm];by_cases hw':w i=0
    ·have hne:¬j=i:=fun e=>hw (e▸hw');simp only[show ¬i=n by omega,if_false,hw',if_true,hne];grind
    ·simp only[show ¬i=n by omega,if_false,hw'];unfold qaG;grind),wJ,qz5] at this
   have sym:qaG (cen n m p) (p j)=qaG (p j) (cen n m p):=by unfold qaG;grind
   rw[sym];grind
  have mc:cen n m p=⟨0,0,0⟩:=qHN (S:=fun i=>w i≠0) (r:=y n) (fun i hi hs=>mz i hi (Classical.not_not.1 hs)) m0 md;have yn:y n=0:=by obtain⟨j,hj,hw⟩:=qt1 (n:=n) (f:=w) (by rw[h1];decide);have:=md j hj hw;rw[mc] at this;unfold qaG at this;grind
  have mk:su n (fun i=>m i*qaG (p i) (p i))≠0:=by
   intro e;apply h3;simp only[su,if_true,yn];rw[qo (g:=fun i=>m i*qaG (p i) (p i)) (fun i hi=>by
    rw[hm];by_cases hw:w i=0
    ·simp only[show ¬i=n by omega,if_false,hw,if_true];grind
    ·simp only[show ¬i=n by omega,if_false,hw]),e]
   grind
  by_cases pos:0<su n (fun i=>m i*qaG (p i) (p i))
  ·exact⟨m,mz,m0,mc,pos⟩
  ·refine⟨fun i=>(-1)*m i,fun i hi hw=>by show (-1)*m i=0;rw[mz i hi hw];grind,by rw[wJ,m0];grind,?_,?_⟩
   ·have:cen n (fun i=>(-1)*m i) p=⟨(-1)*(cen n m p).x,(-1)*(cen n m p).y,(-1)*(cen n m p).z⟩:=by unfold cen;simp only[V3.mk.injEq];refine⟨?_,?_,?_⟩<;>rw[<-wJ]<;>exact qo fun i _=>by grind
    rw[this,mc];simp only[V3.mk.injEq];refine⟨?_,?_,?_⟩<;>grind
   ·rw[qo (g:=fun i=>(-1)*(m i*qaG (p i) (p i))) (fun i _=>by grind),wJ];grind
theorem qIR (n:Nat)(w:Nat->Rat)(p:Nat->V3)(h:su n w=1):en n p w=su n (fun i=>w i*qaG (p i) (p i))-qaG (cen n w p) (cen n w p):=by unfold en;rw[qIu,h];grind
theorem qGO (n:Nat)(p:Nat->V3):∀(c:Nat) (w:Nat->Rat),Wt n w->cnt n w<=c->∃w' s,qyA n p w' s/\en n p w<=s/\∀i,i<n->w i=0->w' i=0:=by
 intro c;induction c with
 | zero=>
  intro w hw hc;obtain⟨j,hj,hne⟩:=qt1 (n:=n) (f:=w) (by rw[hw.one];decide);have:=qzb (n:=n) (w:=w) (v:=fun _=>0) (k:=j) (fun _ _ _=>rfl) hj hne rfl;omega
 | succ c ih=>
  intro w hw hc;have again:∀v:Nat->Rat,su n v=0->(∀i,i<n->w i=0->v i=0)->(∃k,k<n/\v k<0)->(∀t:Rat,0<t->Wt n (fun i=>w i+t*v i)->en n p w<=en n p (fun i=>w i+t*v i)) ->
    ∃w' s,qyA n p w' s/\en n p w<=s/\∀i,i<n->w i=0->w' i=0:=by
   intro v v0 vz hk he;obtain⟨t,t0,a1,a2,a3⟩:=qDw hw v0 vz hk;obtain⟨w',s,g1,g2,g3⟩:=ih _ a1 (by omega);exact⟨w',s,g1,Rat.le_trans (he t t0 a1) g2,fun i hi hz=>g3 i hi (a3 i hi hz)⟩
  rcases qCa n p w hw.one with⟨x,s,x1,xz,xs⟩|⟨v,vz,v0,vc,vp⟩
  ·have sw:su n (fun i=>w i*d2 (cen n x p) (p i))=s:=qiE hw.one xs;have e1:=qtj p hw.one (cen n x p);rw[sw] at e1;have dn:=qxE (cen n x p) (cen n w p);by_cases hx:∀i,i<n->0<=x i
   ·refine⟨x,s,⟨⟨hx,x1⟩,fun i hi hne=>xs i hi fun e=>hne (xz i hi e)⟩,by grind,xz⟩
   ·obtain⟨k,hk⟩:=qNM.1 hx;obtain⟨hk,hneg⟩:=qNp.1 hk;refine again (fun i=>x i-w i) (by rw[q8K,x1,hw.one];grind) (fun i hi e=>by rw[xz i hi e,e];grind) ⟨k,hk,by have:=hw.nn k hk;grind⟩ fun t t0 ht=>?_;have t1:t<=1:=by have a:=ht.nn k hk;have b:=hw.nn k hk;apply qM7;intro hh;have c1:=qLJ (show 0<=t-1 by grind) b;have c2:=qLU t0 (show 0 < -(x k) by grind);grind
    have sw':su n (fun i=>(w i+t*(x i-w i))*d2 (cen n x p) (p i))=s:=qiE (w:=fun i=>w i+t*(x i-w i)) ht.one fun i hi hne=>xs i hi fun e=>hne (by rw[e,xz i hi e];grind);have e2:=qtj p ht.one (cen n x p);rw[sw'] at e2;have cm:=qpp n w (fun i=>x i-w i) t p;have cx:cen n (fun i=>x i-w i) p=⟨(cen n x p).x-(cen n w p).x,(cen n x p).y-(cen n w p).y,(cen n x p).z-(cen n w p).z⟩:=by unfold cen;simp only[V3.mk.injEq];refine⟨?_,?_,?_⟩<;>rw[<-q8K]<;>exact qo fun i _=>by grind
    have dd:d2 (cen n x p) (cen n (fun i=>w i+t*(x i-w i)) p)=(1-t)*(1-t)*d2 (cen n x p) (cen n w p):=by rw[cm,cx];unfold d2;grind
    rw[dd] at e2;have f1:=qLJ (show 0<=t by grind) (show 0<=2-t by grind);have f2:=qLJ f1 dn;grind
  ·refine again v v0 vz ?_ fun t t0 ht=>?_
   ·apply qM7;intro hh;have all:∀i,i<n->0<=v i:=fun i hi=>by apply qM7;intro h';exact hh ⟨i,hi,by grind⟩
    have z:=qmT all v0;rw[qo (g:=fun _=>0) (fun i hi=>by rw[z i hi];grind),q6u] at vp;exact absurd vp (by decide)
   ·rw[qIR n w p hw.one,qIR n _ p ht.one,qpp,vc];have:su n (fun i=>(w i+t*v i)*qaG (p i) (p i))=su n (fun i=>w i*qaG (p i) (p i))+t*su n (fun i=>v i*qaG (p i) (p i)):=by rw[<-wJ,<-q5F];exact qo fun i _=>by grind
    rw[this];have f:=qLU t0 vp;unfold qaG at *;simp only;grind
structure Least (n:Nat) (p:Nat->V3) (w:Nat->Rat) (s:Rat):Prop where
 good:qyA n p w s
 all:∀i,i<n->d2 (cen n w p) (p i)<=s
theorem qCD {w v:Nat->Rat}{s t:Rat}(hw:qyA n p w s)(hv:qyA n p v t)(h:∀i,i<n->(w i=0↔v i=0)):s=t:=by have a:su n (fun i=>w i*d2 (cen n v p) (p i))=t:=qiE hw.1.one fun i hi hne=>hv.2 i hi fun e=>hne ((h i hi).2 e);have b:su n (fun i=>v i*d2 (cen n w p) (p i))=s:=qiE hv.1.one fun i hi hne=>hw.2 i hi fun e=>hne ((h i hi).1 e);rw[qtj p hw.1.one,hw.en] at a;rw[qtj p hv.1.one,hv.en] at b;have:=qxE (cen n v p) (cen n w p);have:=qxE (cen n w p) (cen n v p);grind
theorem qFp {w:Nat->Rat}{s:Rat}(hw:Least n p w s){c:V3}{r:Rat}(h:∀i,i<n->d2 c (p i)<=r):s+d2 c (cen n w p)<=r:=by
 have a:=qtj p hw.good.1.one c;rw[hw.good.en] at a;have b:0<=su n (fun i=>w i*(r-d2 c (p i))):=qGm fun i hi=>qLJ (hw.good.1.nn i hi) (by have:=h i hi;grind);have e:su n (fun i=>w i*(r-d2 c (p i)))=r-su n (fun i=>w i*d2 c (p i)):=by rw[qo (g:=fun i=>r*w i-w i*d2 c (p i)) (fun i _=>by grind),q8K,wJ,hw.good.1.one];grind
 grind
end Go.Eng

namespace Go.Eng
def qKF:Nat->List (Nat->Bool)
 | 0=>[fun _=>false]
 | n+1=>(qKF n).flatMap fun f=>[fun i=>if i=n then true else f i,fun i=>if i=n then false else f i]
theorem qtJ:∀(n:Nat) (w:Nat->Rat),∃b∈qKF n,∀i,i<n->(b i=true↔w i≠0)
 | 0,_=>⟨_,qLY.2 rfl,fun i hi=>by omega⟩
 | n+1,w=>by
  obtain⟨b,hb,h⟩:=qtJ n w;by_cases hw:w n=0
  ·refine⟨fun i=>if i=n then false else b i,qNA.2 ⟨b,hb,by simp⟩,fun i hi=>?_⟩;by_cases e:i=n
   ·subst e;simp[hw]
   ·simp only[e,if_false];exact h i (by omega)
  ·refine⟨fun i=>if i=n then true else b i,qNA.2 ⟨b,hb,by simp⟩,fun i hi=>?_⟩;by_cases e:i=n
   ·subst e;simp[hw]
   ·simp only[e,if_false];exact h i (by omega)
theorem qtU(n:Nat)(p:Nat->V3):∀L:List (Nat->Bool),(∃w s,qyA n p w s/\∃b∈L,∀i,i<n->(b i=true↔w i≠0)) ->
  ∃w s,qyA n p w s/\∀w' s',qyA n p w' s'->(∃b∈L,∀i,i<n->(b i=true↔w' i≠0))->s'<=s
 | [],⟨_,_,_,b,hb,_⟩=>by cases hb
 | b::L,⟨w0,s0,g0,b0,hb0,h0⟩=>by
  have same:∀w s w' s',qyA n p w s->qyA n p w' s'->(∀i,i<n->(b i=true↔w i≠0))->(∀i,i<n->(b i=true↔w' i≠0))->s=s':=fun w s w' s' g g' h h'=>qCD g g' fun i hi=>by
   have a:=h i hi;have c:=h' i hi;by_cases e:b i=true
   ·exact⟨fun z=>absurd z (a.1 e),fun z=>absurd z (c.1 e)⟩
   ·exact⟨fun _=>Classical.not_not.1 fun z=>e (c.2 z),fun _=>Classical.not_not.1 fun z=>e (a.2 z)⟩
  by_cases hB:∃w s,qyA n p w s/\∀i,i<n->(b i=true↔w i≠0)
  ·obtain⟨w1,s1,g1,h1⟩:=hB;by_cases hL:∃w s,qyA n p w s/\∃b∈L,∀i,i<n->(b i=true↔w i≠0)
   ·obtain⟨w2,s2,g2,h2⟩:=qtU n p L hL;rcases Rat.le_total (a:=s1) (b:=s2) with hle|hle
    ·refine⟨w2,s2,g2,fun w' s' g' ⟨c,hc,hp⟩=>?_⟩;rcases qLx.1 hc with rfl|hc
     ·rw[<-same w1 s1 w' s' g1 g' h1 hp];exact hle
     ·exact h2 w' s' g' ⟨c,hc,hp⟩
    ·refine⟨w1,s1,g1,fun w' s' g' ⟨c,hc,hp⟩=>?_⟩;rcases qLx.1 hc with rfl|hc
     ·rw[<-same w1 s1 w' s' g1 g' h1 hp];exact qMF
     ·exact Rat.le_trans (h2 w' s' g' ⟨c,hc,hp⟩) hle
   ·refine⟨w1,s1,g1,fun w' s' g' ⟨c,hc,hp⟩=>?_⟩;rcases qLx.1 hc with rfl|hc
    ·rw[<-same w1 s1 w' s' g1 g' h1 hp];exact qMF
    ·exact absurd ⟨w',s',g',c,hc,hp⟩ hL
  ·have hL:∃w s,qyA n p w s/\∃b∈L,∀i,i<n->(b i=true↔w i≠0):=by
    rcases qLx.1 hb0 with rfl|hb0
    ·exact absurd ⟨w0,s0,g0,h0⟩ hB
    ·exact⟨w0,s0,g0,b0,hb0,h0⟩
   obtain⟨w2,s2,g2,h2⟩:=qtU n p L hL;refine⟨w2,s2,g2,fun w' s' g' ⟨c,hc,hp⟩=>?_⟩;rcases qLx.1 hc with rfl|hc
   ·exact absurd ⟨w',s',g',hp⟩ hB
   ·exact h2 w' s' g' ⟨c,hc,hp⟩
theorem qFd{n k:Nat}(p:Nat->V3)(hk:k<n):cen n (fun i=>if i=k then 1 else 0) p=p k:=by unfold cen;rw[q8y (k:=k) _ hk (fun i _ h=>by simp[h]),q8y (k:=k) _ hk (fun i _ h=>by simp[h]),q8y (k:=k) _ hk (fun i _ h=>by simp[h])];simp only[if_true];rcases hp:p k with⟨x,y,z⟩;simp only[V3.mk.injEq];refine⟨?_,?_,?_⟩<;>grind
theorem qCb{n:Nat}(p:Nat->V3)(hn:0<n):∃w s,Least n p w s:=by
 have unit:∀k,k<n->su n (fun i=>if i=k then (1:Rat) else 0)=1:=fun k hk=>by rw[q8y (k:=k) _ hk (fun i _ h=>by rw[if_neg h])];simp
 have w0:Wt n (fun i=>if i=0 then (1:Rat) else 0):=⟨fun i _=>by
  show (0:Rat)<=if i=0 then 1 else 0
  split<;>decide,unit 0 hn⟩
 obtain⟨w1,s1,g1,_⟩:=qGO n p _ _ w0 (qLs _);obtain⟨b,hb,h⟩:=qtJ n w1;obtain⟨w,s,g,hmax⟩:=qtU n p (qKF n) ⟨w1,s1,g1,b,hb,h⟩;refine⟨w,s,g,fun k hk=>?_⟩;apply qM7;intro hh;have hD:s<d2 (cen n w p) (p k):=by grind
 obtain⟨D,eD⟩:∃D,D=d2 (cen n w p) (p k):=⟨_,rfl⟩;rw[<-eD] at hD;have s0:0<=s:=by obtain⟨j,hj,hne⟩:=qt1 (n:=n) (f:=w) (by rw[g.1.one];decide);rw[<-g.2 j hj hne];exact qxE _ _
 have Dp:0<D:=by grind
 have inv:(2*D)*(2*D)⁻¹=1:=qNB _ (by grind);have ip:0<(2*D)⁻¹:=Rat.inv_pos.2 (by grind);obtain⟨t,et⟩:∃t,t=(D-s)*(2*D)⁻¹:=⟨_,rfl⟩;have t0:0<t:=by rw[et];exact qLU (by grind) ip
 have tD:t*D*2=D-s:=by rw[et];grind
 have t1:t<=1:=by apply qM7;intro h1;have:=qLU (show 0<t-1 by grind) Dp;grind
 have W:Wt n (fun i=>w i+t*((if i=k then 1 else 0)-w i)):=by
  refine⟨fun i hi=>?_,?_⟩
  ·have a:=qLJ (show 0<=1-t by grind) (g.1.nn i hi);by_cases e:i=k
   ·simp only[e,if_true];rw[e] at a;grind
   ·simp only[e,if_false];grind
  ·rw[q5F,wJ,q8K,unit k hk,g.1.one];grind
 have e1:=qtj p W.one (cen n w p);have lhs:su n (fun i=>(w i+t*((if i=k then 1 else 0)-w i))*d2 (cen n w p) (p i))=s+t*(D-s):=by
  have a:=qiE (f:=fun i=>d2 (cen n w p) (p i)) g.1.one g.2;have c:su n (fun i=>(if i=k then 1 else 0)*d2 (cen n w p) (p i))=D:=by rw[q8y (k:=k) _ hk (fun i _ h=>by rw[if_neg h];grind),eD];simp
  rw[qo (g:=fun i=>w i*d2 (cen n w p) (p i)+t*((if i=k then 1 else 0)*d2 (cen n w p) (p i)-w i*d2 (cen n w p) (p i))) (fun i _=>by grind),q5F,wJ,q8K,a,c]
 have cm:=qpp n w (fun i=>(if i=k then 1 else 0)-w i) t p;have cx:cen n (fun i=>(if i=k then 1 else 0)-w i) p=⟨(p k).x-(cen n w p).x,(p k).y-(cen n w p).y,(p k).z-(cen n w p).z⟩:=by have u:=qFd p hk;have ux:=congrArg V3.x u;have uy:=congrArg V3.y u;have uz:=congrArg V3.z u;rw[<-ux,<-uy,<-uz];unfold cen;simp only[V3.mk.injEq];refine⟨?_,?_,?_⟩<;>rw[<-q8K]<;>exact qo fun i _=>by grind
 have dd:d2 (cen n w p) (cen n (fun i=>w i+t*((if i=k then 1 else 0)-w i)) p)=t*t*D:=by rw[cm,cx,eD];unfold d2;grind
 rw[lhs,dd] at e1;obtain⟨w',s',g',h',_⟩:=qGO n p _ _ W (qLs _);obtain⟨b',hb',hp'⟩:=qtJ n w';have:=hmax w' s' g' ⟨b',hb',hp'⟩;have gain:=qLU t0 (show 0<D-s by grind);have:t*t*D*2=t*(D-s):=by rw[<-tD];grind
 grind
def qHq(n:Nat)(p:Nat->V3)(w:Nat->Rat):Prop:=∀v:Nat->Rat,(∀i,i<n->w i=0->v i=0)->su n v=0->cen n v p=⟨0,0,0⟩->∀i,i<n->v i=0
theorem qxU{n:Nat}{p:Nat->V3}:∀(c:Nat) {w:Nat->Rat} {s:Rat},Least n p w s->cnt n w<=c->∃w',Least n p w' s/\qHq n p w':=by
 intro c;induction c with
 | zero=>
  intro w s hw hc;obtain⟨j,hj,hne⟩:=qt1 (n:=n) (f:=w) (by rw[hw.good.1.one];decide);have:=qzb (n:=n) (w:=w) (v:=fun _=>0) (k:=j) (fun _ _ _=>rfl) hj hne rfl;omega
 | succ c ih=>
  intro w s hw hc;by_cases hi:qHq n p w
  ·exact⟨w,hw,hi⟩
  ·unfold qHq at hi;obtain⟨v,hv⟩:=qNM.1 hi;obtain⟨vz,hv⟩:=qNp.1 hv;obtain⟨v0,hv⟩:=qNp.1 hv;obtain⟨vc,hv⟩:=qNp.1 hv;have neg:∃k,k<n/\v k<0:=by apply qM7;intro hh;exact hv (qmT (fun i hi=>by apply qM7;intro h';exact hh ⟨i,hi,by grind⟩) v0)
   obtain⟨t,t0,a1,a2,a3⟩:=qDw hw.good.1 v0 vz neg;have cs:cen n (fun i=>w i+t*v i) p=cen n w p:=by rw[qpp,vc];rcases hcw:cen n w p with⟨x,y,z⟩;simp only[V3.mk.injEq];refine⟨?_,?_,?_⟩<;>grind
   refine ih (w:=fun i=>w i+t*v i) (s:=s) ⟨⟨a1,fun i hi hne=>?_⟩,fun i hi=>?_⟩ (by omega)
   ·rw[cs];exact hw.good.2 i hi fun e=>hne (a3 i hi e)
   ·rw[cs];exact hw.all i hi
variable {p:Nat->V3}
theorem kernel:∀(m n:Nat) (M:Nat->Nat->Rat),m<n->∃x:Nat->Rat,(∃j,j<n/\x j≠0)/\∀i,i<m->su n (fun j=>M i j*x j)=0
 | 0,n,_,h=>⟨fun _=>1,⟨0,h,by decide⟩,fun i hi=>by omega⟩
 | m+1,0,_,h=>by omega
 | m+1,n+1,M,h=>by
  by_cases hz:∀i,i<m+1->M i n=0
  ·refine⟨fun j=>if j=n then 1 else 0,⟨n,by omega,by simp⟩,fun i hi=>?_⟩;rw[q8y (k:=n) _ (by omega) (fun j _ hne=>by simp[hne])];simp[hz i hi]
  ·obtain⟨k,hk⟩:=qNM.1 hz;obtain⟨hk,ha⟩:=qNp.1 hk;have inv:M k n*(M k n)⁻¹=1:=qNB _ ha;obtain⟨x,⟨j,hj,hx⟩,he⟩:=kernel m n (fun i j=>M (if i=k then m else i) j-M (if i=k then m else i) n*(M k n)⁻¹*M k j) (by omega);refine⟨fun j=>if j=n then -((M k n)⁻¹*su n (fun j=>M k j*x j)) else x j,⟨j,by omega,by simpa[show j≠n by omega] using hx⟩,fun i hi=>?_⟩;simp only[su,if_true];rw[qo (g:=fun j=>M i j*x j) (fun j hj=>by rw[if_neg (by omega)])];by_cases hik:i=k
   ·subst hik;grind
   ·have e:∃i',i'<m/\(if i'=k then m else i')=i:=by
     by_cases him:i=m
     ·exact⟨k,by omega,by simp[him]⟩
     ·exact⟨i,by omega,by simp[hik]⟩
    obtain⟨i',hi',e⟩:=e;have q:=he i' hi';simp only[e] at q;rw[qo (g:=fun j=>M i j*x j-M i n*(M k n)⁻¹*(M k j*x j)) (fun j _=>by grind),q8K,wJ] at q;grind
theorem qtO {n q:Nat}{L:Nat->Nat}(hL:∀j,j<q->L j<n)(u f:Nat->Rat):su n (fun i=>su q (fun j=>if L j=i then u j else 0)*f i)=su q (fun j=>u j*f (L j)):=by rw[qo (g:=fun i=>su q (fun j=>(if L j=i then u j else 0)*f i)) (fun i _=>by rw[show su q (fun j=>if L j=i then u j else 0)*f i=f i*su q (fun j=>if L j=i then u j else 0) from by grind,<-wJ];exact qo fun j _=>by grind),qyi];refine qo fun j hj=>?_;rw[q8y (k:=L j) _ (hL j hj) (fun i _ hne=>by simp[show ¬L j=i from fun e=>hne e.symm])];simp
theorem quF {n q:Nat}{L:Nat->Nat}(hL:∀j,j<q->L j<n)(u:Nat->Rat):su n (fun i=>su q (fun j=>if L j=i then u j else 0))=su q u:=by have:=qtO hL u (fun _=>1);rw[qo (g:=fun i=>su q (fun j=>if L j=i then u j else 0)) (fun i _=>by grind)] at this;rw[this];exact qo fun j _=>by grind
theorem qJA {q:Nat}{L:Nat->Nat}(inj:∀j k,j<q->k<q->L j=L k->j=k)(u:Nat->Rat){k:Nat}(hk:k<q):su q (fun j=>if L j=L k then u j else 0)=u k:=by rw[q8y (k:=k) _ hk (fun j hj hne=>by rw[if_neg fun e=>hne (inj j k hj hk e)])];simp
theorem qpo {n q:Nat}{L:Nat->Nat}(hL:∀j,j<q->L j<n)(u:Nat->Rat)(p:Nat->V3):cen n (fun i=>su q (fun j=>if L j=i then u j else 0)) p=cen q u (fun j=>p (L j)):=by unfold cen;rw[qtO hL,qtO hL,qtO hL]
def qL4(q:Nat)(p:Nat->V3)(L:Nat->Nat):Prop:=∀u:Nat->Rat,su q u=0->cen q u (fun j=>p (L j))=⟨0,0,0⟩->∀j,j<q->u j=0
theorem qG1 {q:Nat}{L:Nat->Nat}(h:qL4 q p L):q<=4:=by
 apply qM7;intro hq;obtain⟨u,⟨j,hj,hne⟩,he⟩:=kernel 4 q (fun i j=>if i=0 then 1 else if i=1 then (p (L j)).x else if i=2 then (p (L j)).y else (p (L j)).z) (by omega);refine hne (h u ?_ ?_ j hj)
 ·have:=he 0 (by omega);simp only[if_true] at this;rw[<-this];exact qo fun i _=>by grind
 ·have e1:=he 1 (by omega);have e2:=he 2 (by omega);have e3:=he 3 (by omega);simp only[show ¬(1=0) by omega,show ¬(2=0) by omega,show ¬(3=0) by omega,show ¬(2=1) by omega,show ¬(3=1) by omega,show ¬(3=2) by omega,if_true,if_false] at e1 e2 e3;unfold cen;simp only[V3.mk.injEq];refine⟨?_,?_,?_⟩
  ·rw[<-e1];exact qo fun i _=>by grind
  ·rw[<-e2];exact qo fun i _=>by grind
  ·rw[<-e3];exact qo fun i _=>by grind
theorem qEA {q:Nat}{L:Nat->Nat}(h:qL4 q p L)(hz:∀j,j<q->(p (L j)).z=0):q<=3:=by
 apply qM7;intro hq;obtain⟨u,⟨j,hj,hne⟩,he⟩:=kernel 3 q (fun i j=>if i=0 then 1 else if i=1 then (p (L j)).x else (p (L j)).y) (by omega);refine hne (h u ?_ ?_ j hj)
 ·have:=he 0 (by omega);simp only[if_true] at this;rw[<-this];exact qo fun i _=>by grind
 ·have e1:=he 1 (by omega);have e2:=he 2 (by omega);simp only[show ¬(1=0) by omega,show ¬(2=0) by omega,show ¬(2=1) by omega,if_true,if_false] at e1 e2;unfold cen;simp only[V3.mk.injEq];refine⟨?_,?_,?_⟩
  ·rw[<-e1];exact qo fun i _=>by grind
  ·rw[<-e2];exact qo fun i _=>by grind
  ·rw[qo (g:=fun _=>0) (fun i hi=>by rw[hz i hi];grind),q6u]
def Asc(q:Nat)(L:Nat->Nat):Prop:=∀j k,j<k->k<q->L j<L k
theorem Asc.inj {q:Nat}{L:Nat->Nat}(h:Asc q L):∀j k,j<q->k<q->L j=L k->j=k:=fun j k hj hk e=>by
 rcases Nat.lt_trichotomy j k with hh|hh|hh
 ·have:=h j k hh hk;omega
 ·exact hh
 ·have:=h k j hh hj;omega
theorem qoG:∀(n:Nat) (w:Nat->Rat),∃(q:Nat) (L:Nat->Nat),q<=n/\Asc q L/\(∀j,j<q->L j<n/\w (L j)≠0)/\∀i,i<n->w i≠0->∃j,j<q/\L j=i
 | 0,_=>⟨0,fun _=>0,by omega,fun j k _ hk=>by omega,fun j hj=>by omega,fun i hi=>by omega⟩
 | n+1,w=>by
  obtain⟨q,L,h0,h1,h2,h3⟩:=qoG n w;by_cases hw:w n=0
  ·refine⟨q,L,by omega,h1,fun j hj=>⟨by have:=(h2 j hj).1;omega,(h2 j hj).2⟩,fun i hi hne=>?_⟩;by_cases e:i=n
   ·subst e;exact absurd hw hne
   ·exact h3 i (by omega) hne
  ·refine⟨q+1,fun j=>if j=q then n else L j,by omega,fun j k hjk hk=>?_,fun j hj=>?_,fun i hi hne=>?_⟩
   ·simp only[show ¬j=q by omega,if_false];by_cases e:k=q
    ·simp only[e,if_true];exact(h2 j (by omega)).1
    ·simp only[e,if_false];exact h1 j k hjk (by omega)
   ·by_cases e:j=q
    ·simp only[e,if_true];exact⟨by omega,hw⟩
    ·simp only[e,if_false];have:=h2 j (by omega);exact⟨by omega,this.2⟩
   ·by_cases e:i=n
    ·exact⟨q,by omega,by simp[e]⟩
    ·obtain⟨j,hj,hL⟩:=h3 i (by omega) hne;exact⟨j,by omega,by simp only[show ¬j=q by omega,if_false];exact hL⟩
structure Sup (n:Nat) (p:Nat->V3) (q:Nat) (L:Nat->Nat) (u:Nat->Rat) (s:Rat):Prop where
 lt:∀j,j<q->L j<n
 asc:Asc q L
 ind:qL4 q p L
 one:su q u=1
 eq:∀j,j<q->d2 (cen q u fun j=>p (L j)) (p (L j))=s
 nn:∀j,j<q->0<=u j
 all:∀i,i<n->d2 (cen q u fun j=>p (L j)) (p i)<=s
theorem Sup.least {n q:Nat}{L:Nat->Nat}{u:Nat->Rat}{s:Rat}(h:Sup n p q L u s):Least n p (fun i=>su q (fun j=>if L j=i then u j else 0)) s:=by
 have c:=qpo h.lt u p;refine⟨⟨⟨fun i _=>qGm fun j hj=>?_,by rw[quF h.lt];exact h.one⟩,fun i hi hne=>?_⟩,fun i hi=>by rw[c];exact h.all i hi⟩
 ·show (0:Rat)<=if L j=i then u j else 0
  split
  ·exact h.nn j hj
  ·exact qMF
 ·rw[c];obtain⟨j,hj,hz⟩:=qt1 hne;by_cases e:L j=i
  ·rw[<-e];exact h.eq j hj
  ·exact absurd (if_neg e) hz
theorem qKb {n:Nat}(p:Nat->V3)(hn:0<n):∃q L u s,Sup n p q L u s/\0<q:=by
 obtain⟨w0,s,h0⟩:=qCb p hn;obtain⟨w,hw,hi⟩:=qxU _ h0 (qLs _);obtain⟨q,L,_,h1,h2,h3⟩:=qoG n w;have e:∀i,i<n->su q (fun j=>if L j=i then w (L j) else 0)=w i:=fun i hi=>by
  by_cases hz:w i=0
  ·rw[qo (g:=fun _=>0) (fun j hj=>by
    by_cases e:L j=i
    ·rw[e,hz];simp
    ·rw[if_neg e]),q6u,hz]
  ·obtain⟨k,hk,hL⟩:=h3 i hi hz;rw[<-hL,qJA h1.inj (fun j=>w (L j)) hk]
 have lt:∀j,j<q->L j<n:=fun j hj=>(h2 j hj).1;have c:cen q (fun j=>w (L j)) (fun j=>p (L j))=cen n w p:=by rw[<-qpo lt (fun j=>w (L j)) p];unfold cen;simp only[V3.mk.injEq];refine⟨?_,?_,?_⟩<;>exact qo fun i hi=>by rw[e i hi]
 have one:su q (fun j=>w (L j))=1:=by rw[<-quF lt (fun j=>w (L j)),qo e,hw.good.1.one]
 refine⟨q,L,fun j=>w (L j),s,⟨lt,h1,fun u hu hc j hj=>?_,one,fun j hj=>by rw[c];exact hw.good.2 _ (lt j hj) (h2 j hj).2,fun j hj=>hw.good.1.nn _ (lt j hj),fun i hi=>by rw[c];exact hw.all i hi⟩,?_⟩
 ·have:=hi (fun i=>su q (fun j=>if L j=i then u j else 0)) (fun i _ hz=>by rw[qo (g:=fun _=>0) (fun j hj=>by rw[if_neg (fun e:L j=_=>(h2 j hj).2 (by rw[e];exact hz))]),q6u]) (by rw[quF lt,hu]) (by rw[qpo lt,hc]) (L j) (lt j hj);rw[qJA h1.inj u hj] at this;exact this
 ·apply Nat.pos_of_ne_zero;intro hq;subst hq;have z:(0:Rat)=1:=one;exact absurd z (by decide)
end Go.Eng

namespace Go.Eng
variable {n:Nat}{p:Nat->V3}
theorem Sup.cen_eq {q:Nat}{L:Nat->Nat}{u:Nat->Rat}{s:Rat}(h:Sup n p q L u s):cen n (fun i=>su q (fun j=>if L j=i then u j else 0)) p=cen q u fun j=>p (L j):=qpo h.lt u p
theorem qH3 {q:Nat}{L:Nat->Nat}{u:Nat->Rat}{s:Rat}(h:Sup n p q L u s){c:V3}{r:Rat}(hc:∀i,i<n->d2 c (p i)<=r):s+d2 c (cen q u fun j=>p (L j))<=r:=by have:=qFp h.least hc;rw[h.cen_eq] at this;exact this
theorem qK2 {q:Nat}{L:Nat->Nat}{u:Nat->Rat}{s:Rat}(h:Sup n p q L u s)(hq:0<q):0<=s:=by rw[<-h.eq 0 hq];exact qxE _ _
theorem qFf {n m:Nat}{f:Nat->Nat}(hf:∀i,i<m->f i<n){q q':Nat}{L L':Nat->Nat}{u u':Nat->Rat}{s s':Rat}(h:Sup n p q L u s)(h':Sup m (fun i=>p (f i)) q' L' u' s'):s'<=s:=by have a:=qH3 h' (c:=cen q u fun j=>p (L j)) (r:=s) fun i hi=>h.all (f i) (hf i hi);have:=qxE (cen q u fun j=>p (L j)) (cen q' u' fun j=>p (f (L' j)));grind
def wts(t:Nat->Rat)(k:Nat):Nat->Rat:=fun j=>if j=0 then 1-su k t else t (j-1)
theorem qcP:∀(k:Nat) (f:Nat->Rat),su (k+1) f=f 0+su k (fun j=>f (j+1))
 | 0,f=>by simp only[su];grind
 | k+1,f=>by
  rw[su,qcP k f];simp only[su];grind
theorem qJB (t:Nat->Rat)(k:Nat):su (k+1) (wts t k)=1:=by rw[qcP];unfold wts;rw[qo (g:=t) (fun j _=>by simp)];simp only[if_true];grind
def qvp(c:Nat->V3)(i k:Nat):Rat:=2*qaG ⟨(c (i+1)).x-(c 0).x,(c (i+1)).y-(c 0).y,(c (i+1)).z-(c 0).z⟩ ⟨(c (k+1)).x-(c 0).x,(c (k+1)).y-(c 0).y,(c (k+1)).z-(c 0).z⟩
theorem qIi (t:Nat->Rat)(k:Nat)(c:Nat->V3):cen (k+1) (wts t k) c=⟨(c 0).x+su k (fun j=>t j*((c (j+1)).x-(c 0).x)),(c 0).y+su k (fun j=>t j*((c (j+1)).y-(c 0).y)),(c 0).z+su k (fun j=>t j*((c (j+1)).z-(c 0).z))⟩:=by
 have key:∀f:Nat->Rat,su (k+1) (fun j=>wts t k j*f j)=f 0+su k (fun j=>t j*(f (j+1)-f 0)):=fun f=>by
  rw[qcP,qo (g:=fun j=>t j*f (j+1)) (fun j _=>by unfold wts;simp)];have e:su k (fun j=>t j*(f (j+1)-f 0))=su k (fun j=>t j*f (j+1))-f 0*su k t:=by rw[<-wJ,<-q8K];exact qo fun j _=>by grind
  rw[e];unfold wts;simp only[if_true];grind
 unfold cen;rw[key fun j=>(c j).x,key fun j=>(c j).y,key fun j=>(c j).z]
theorem qAe (t:Nat->Rat)(k:Nat)(c:Nat->V3)(i:Nat):su k (fun j=>qvp c i j*t j)=d2 (c 0) (c (i+1))+d2 (cen (k+1) (wts t k) c) (c 0)-d2 (cen (k+1) (wts t k) c) (c (i+1)):=by
 rw[qIi];have e:su k (fun j=>qvp c i j*t j)=2*(((c (i+1)).x-(c 0).x)*su k (fun j=>t j*((c (j+1)).x-(c 0).x))+((c (i+1)).y-(c 0).y)*su k (fun j=>t j*((c (j+1)).y-(c 0).y))+((c (i+1)).z-(c 0).z)*su k (fun j=>t j*((c (j+1)).z-(c 0).z))):=by rw[<-wJ,<-wJ,<-wJ,<-q5F,<-q5F,<-wJ];exact qo fun j _=>by unfold qvp qaG;grind
 rw[e];unfold d2;simp only;grind
theorem qzd (t:Nat->Rat)(k:Nat)(c:Nat->V3):(∀i,i<k->su k (fun j=>qvp c i j*t j)=d2 (c 0) (c (i+1)))↔∀j,j<k+1->d2 (cen (k+1) (wts t k) c) (c j)=d2 (cen (k+1) (wts t k) c) (c 0):=by
 constructor
 ·intro h j hj;cases j with
  | zero=>rfl
  | succ i=>
   have:=h i (by omega);rw[qAe] at this;grind
 ·intro h i hi;have:=h (i+1) (by omega);rw[qAe,this];grind
end Go.Eng

namespace Go.Eng
def swI(a b i:Nat):Nat:=if i=a then b else if i=b then a else i
theorem qvR{a b i k:Nat}(ha:a<k)(hb:b<k)(hi:i<k):swI a b i<k:=by unfold swI;split<;>(try split)<;>omega
theorem qEv(a b i:Nat):swI a b (swI a b i)=i:=by
 unfold swI;by_cases h1:i=a
 ·subst h1;by_cases h2:b=i
  ·simp[h2]
  ·simp[h2]
 ·by_cases h2:i=b
  ·subst h2;simp[h1]
  ·simp[h1,h2]
def gs(c i0:Nat)(M:Nat->Nat->Rat):Nat->Nat->Rat:=fun i j=>if i=c then M i0 j*(M i0 c)⁻¹ else M (swI c i0 i) j-M (swI c i0 i) c*(M i0 j*(M i0 c)⁻¹)
def gsb(c i0:Nat)(M:Nat->Nat->Rat)(b:Nat->Rat):Nat->Rat:=fun i=>if i=c then b i0*(M i0 c)⁻¹ else b (swI c i0 i)-M (swI c i0 i) c*(b i0*(M i0 c)⁻¹)
theorem qE7(k c i0:Nat)(M:Nat->Nat->Rat)(x:Nat->Rat)(i:Nat):su k (fun j=>gs c i0 M i j*x j)=gsb c i0 M (fun i=>su k fun j=>M i j*x j) i:=by
 unfold gs gsb;by_cases h:i=c
 ·simp only[h,if_true];rw[qo (g:=fun j=>(M i0 c)⁻¹*(M i0 j*x j)) (fun j _=>by grind),wJ];grind
 ·simp only[h,if_false];rw[qo (g:=fun j=>M (swI c i0 i) j*x j-(M (swI c i0 i) c*(M i0 c)⁻¹)*(M i0 j*x j)) (fun j _=>by grind),q8K,wJ];grind
theorem qGH{k c i0:Nat}{M:Nat->Nat->Rat}{b x:Nat->Rat}(hc:c<k)(hi0:i0<k)(hp:M i0 c≠0):qo9 k k (gs c i0 M) (gsb c i0 M b) x↔qo9 k k M b x:=by
 have inv:M i0 c*(M i0 c)⁻¹=1:=qNB _ hp;constructor
 ·intro h;have h0:su k (fun j=>M i0 j*x j)=b i0:=by have:=h c hc;rw[qE7] at this;unfold gsb at this;simp only[if_true] at this;grind
  intro i hi;by_cases e:i=i0
  ·rw[e];exact h0
  ·have:=h (swI c i0 i) (qvR hc hi0 hi);rw[qE7] at this;unfold gsb at this;have ne:swI c i0 i≠c:=by intro z;have:=qEv c i0 i;rw[z] at this;unfold swI at this;simp at this;exact e this.symm
   simp only[ne,if_false,qEv] at this;rw[h0] at this;grind
 ·intro h i hi;rw[qE7];unfold gsb;have h0:=h i0 hi0;by_cases e:i=c
  ·simp only[e,if_true];rw[h0]
  ·simp only[e,if_false];rw[h0,h _ (qvR hc hi0 hi)]
def qsQ(k c:Nat)(M:Nat->Nat->Rat):Prop:=∀i j,i<k->j<c->M i j=if i=j then 1 else 0
theorem qEa{k c i0:Nat}{M:Nat->Nat->Rat}(h:qsQ k c M)(hc:c<k)(hci:c<=i0)(hi0:i0<k)(hp:M i0 c≠0):qsQ k (c+1) (gs c i0 M):=by
 have inv:M i0 c*(M i0 c)⁻¹=1:=qNB _ hp;intro i j hi hj;unfold gs;by_cases e:j=c
 ·subst e;by_cases ei:i=j
  ·simp only[ei,if_true];exact inv
  ·simp only[ei,if_false];grind
 ·have hj':j<c:=by omega
  have z0:M i0 j=0:=by rw[h i0 j hi0 hj',if_neg (by omega)]
  by_cases ei:i=c
  ·simp only[ei,if_true];rw[z0,if_neg (by omega)];grind
  ·simp only[ei,if_false];rw[z0,h _ j (qvR hc hi0 hi) hj'];unfold swI;by_cases e0:i=i0
   ·subst e0;simp only[ei,if_false,if_true];rw[if_neg (show ¬c=j by omega),if_neg (show ¬i=j by omega)];grind
   ·simp only[ei,e0,if_false];grind
def qdX(k:Nat)(pv:Nat->(Nat->Nat->Rat)->Option Nat):Nat->Nat->(Nat->Nat->Rat)->Option (Nat->Nat->Rat)
 | 0,_,M=>some M
 | m+1,c,M=>match pv c M with
  | none=>none
  | some i0=>qdX k pv m (c+1) (gs c i0 M)
structure Pivots (k:Nat) (pv:Nat->(Nat->Nat->Rat)->Option Nat):Prop where
 some:∀c M i,c<k->pv c M=some i->c<=i/\i<k/\M i c≠0
 none:∀c M i,pv c M=none->c<=i->i<k->M i c=0
theorem qmX{k:Nat}{pv:Nat->(Nat->Nat->Rat)->Option Nat}(hpv:Pivots k pv):∀(m c:Nat) (M N:Nat->Nat->Rat),c+m=k->qsQ k c M->qdX k pv m c M=some N ->
  qsQ k k N/\∀r x,qo9 k k N (fun i=>N i r) x↔qo9 k k M (fun i=>M i r) x
 | 0,c,M,N,hc,hu,h=>by
  simp only[qdX,qLq] at h;subst h;have:c=k:=by omega
  subst this;exact⟨hu,fun _ _=>Iff.rfl⟩
 | m+1,c,M,N,hc,hu,h=>by
  simp only[qdX] at h;cases hp:pv c M with
  | none=>rw[hp] at h;cases h
  | some i0=>
   rw[hp] at h;obtain⟨p1,p2,p3⟩:=hpv.some c M i0 (by omega) hp;obtain⟨q1,q2⟩:=qmX hpv m (c+1) _ N (by omega) (qEa hu (by omega) p1 p2 p3) h;refine⟨q1,fun r x=>(q2 r x).trans ?_⟩;exact qGH (b:=fun i=>M i r) (by omega) p2 p3
theorem qsY{k:Nat}{pv:Nat->(Nat->Nat->Rat)->Option Nat}(hpv:Pivots k pv):∀(m c:Nat) (M:Nat->Nat->Rat),c+m=k->qsQ k c M->qdX k pv m c M=none ->
  ∃x:Nat->Rat,(∃j,j<k/\x j≠0)/\qo9 k k M (fun _=>0) x
 | 0,c,M,hc,hu,h=>by simp only[qdX] at h;cases h
 | m+1,c,M,hc,hu,h=>by
  simp only[qdX] at h;cases hp:pv c M with
  | none=>
   refine⟨fun j=>(if j<c then -(M j c) else 0)+(if j=c then 1 else 0),⟨c,by omega,by show (if c<c then -(M c c) else 0)+(if c=c then 1 else 0)≠(0:Rat);rw[if_neg (by omega),if_pos rfl];intro z;grind⟩,fun i hi=>?_⟩;show su k (fun j=>M i j*((if j<c then -(M j c) else 0)+(if j=c then 1 else 0)))=0;rw[qo (g:=fun j=>M i j*(if j<c then -(M j c) else 0)+M i j*(if j=c then 1 else 0)) (fun j _=>by grind),q5F];have e2:su k (fun j=>M i j*(if j=c then 1 else 0))=M i c:=by rw[q8y (k:=c) _ (by omega) (fun j _ hne=>by simp[hne])];simp
   rw[e2];by_cases h3:i<c
   ·rw[q8y (k:=i) _ hi (fun j hj hne=>by
     by_cases hj':j<c
     ·rw[hu i j hi hj',if_neg (fun z=>hne z.symm)];grind
     ·rw[if_neg hj'];grind),if_pos h3,hu i i hi h3,if_pos rfl];grind
   ·rw[qo (g:=fun _=>0) (fun j hj=>by
     by_cases hj':j<c
     ·rw[hu i j hi hj',if_neg (by omega)];grind
     ·rw[if_neg hj'];grind),q6u,hpv.none c M i hp (by omega) hi];grind
  | some i0=>
   rw[hp] at h;obtain⟨p1,p2,p3⟩:=hpv.some c M i0 (by omega) hp;obtain⟨x,hx,hs⟩:=qsY hpv m (c+1) _ (by omega) (qEa hu (by omega) p1 p2 p3) h;refine⟨x,hx,(qGH (b:=fun _=>0) (by omega) p2 p3).1 ?_⟩;intro i hi;rw[hs i hi];unfold gsb;split<;>grind
theorem qkF{k:Nat}{N:Nat->Nat->Rat}(h:qsQ k k N)(b x:Nat->Rat):qo9 k k N b x↔∀i,i<k->x i=b i:=by
 have e:∀i,i<k->su k (fun j=>N i j*x j)=x i:=fun i hi=>by rw[q8y (k:=i) _ hi (fun j hj hne=>by rw[h i j hi hj,if_neg (fun z=>hne z.symm)];grind),h i i hi hi,if_pos rfl];grind
 constructor
 ·intro hs i hi;rw[<-e i hi];exact hs i hi
 ·intro hs i hi;rw[e i hi];exact hs i hi
variable {k:Nat}
def Ind(q:Nat)(c:Nat->V3):Prop:=∀u:Nat->Rat,su q u=0->cen q u c=⟨0,0,0⟩->∀j,j<q->u j=0
def dif(c:Nat->V3)(t:Nat->Rat)(k:Nat):V3:=⟨su k fun j=>t j*((c (j+1)).x-(c 0).x),su k fun j=>t j*((c (j+1)).y-(c 0).y),su k fun j=>t j*((c (j+1)).z-(c 0).z)⟩
theorem qzX (c:Nat->V3)(t:Nat->Rat)(k i:Nat):su k (fun j=>qvp c i j*t j)=2*(((c (i+1)).x-(c 0).x)*(dif c t k).x+((c (i+1)).y-(c 0).y)*(dif c t k).y+((c (i+1)).z-(c 0).z)*(dif c t k).z):=by unfold dif;simp only;rw[<-wJ,<-wJ,<-wJ,<-q5F,<-q5F,<-wJ];exact qo fun j _=>by unfold qvp qaG;grind
theorem qCU (c:Nat->V3)(u:Nat->Rat)(k:Nat)(h:su (k+1) u=0):cen (k+1) u c=dif c (fun j=>u (j+1)) k:=by
 have key:∀f:Nat->Rat,su (k+1) (fun j=>u j*f j)=su k (fun j=>u (j+1)*(f (j+1)-f 0)):=fun f=>by
  have e:su k (fun j=>u (j+1)*(f (j+1)-f 0))=su k (fun j=>u (j+1)*f (j+1))-f 0*su k (fun j=>u (j+1)):=by rw[<-wJ,<-q8K];exact qo fun j _=>by grind
  rw[qcP] at h;rw[qcP,e];grind
 unfold cen dif;rw[key fun j=>(c j).x,key fun j=>(c j).y,key fun j=>(c j).z]
theorem qnb {c:Nat->V3}:Ind (k+1) c↔∀t:Nat->Rat,(∀i,i<k->su k (fun j=>qvp c i j*t j)=0)->∀j,j<k->t j=0:=by
 constructor
 ·intro h t ht j hj;obtain⟨u,hu⟩:∃u:Nat->Rat,u=fun j=>if j=0 then -(su k t) else t (j-1):=⟨_,rfl⟩
  have us:(fun j=>u (j+1))=t:=by funext j;rw[hu];simp
  have u0:su (k+1) u=0:=by rw[qcP,us,hu];simp;try grind
  have dz:dif c t k=⟨0,0,0⟩:=by
   have e:su k (fun i=>t i*su k (fun j=>qvp c i j*t j))=0:=by rw[qo (g:=fun _=>0) (fun i hi=>by rw[ht i hi];grind),q6u]
   have e2:su k (fun i=>t i*su k (fun j=>qvp c i j*t j))=2*qaG (dif c t k) (dif c t k):=by rw[qo (g:=fun i=>2*((dif c t k).x*(t i*((c (i+1)).x-(c 0).x))+(dif c t k).y*(t i*((c (i+1)).y-(c 0).y))+(dif c t k).z*(t i*((c (i+1)).z-(c 0).z)))) (fun i _=>by rw[qzX];grind),wJ,q5F,q5F,wJ,wJ,wJ];unfold qaG dif;grind
   rw[e2] at e;have:d2 (dif c t k) ⟨0,0,0⟩<=0:=by rw[qwE];unfold qaG at *;simp only at *;grind
   exact qC1 this
  have:=h u u0 (by rw[qCU c u k u0,us,dz]) (j+1) (by omega);rw[hu] at this;simpa using this
 ·intro h u u0 hc j hj;have d:dif c (fun j=>u (j+1)) k=⟨0,0,0⟩:=by rw[<-qCU c u k u0,hc]
  have z:=h (fun j=>u (j+1)) fun i _=>by rw[qzX,d];grind
  cases j with
  | zero=>
   rw[qcP,qo (g:=fun _=>0) (fun j hj=>z j hj),q6u] at u0;grind
  | succ j=>exact z j (by omega)
structure Bl (k:Nat) (c:Nat->V3) (t:Nat->Rat):Prop where
 ind:Ind (k+1) c
 eq:∀i,i<k->su k (fun j=>qvp c i j*t j)=d2 (c 0) (c (i+1))
theorem qI9 {c:Nat->V3}{t t':Nat->Rat}(h:Bl k c t)(h':Bl k c t'):∀j,j<k->t j=t' j:=fun j hj=>by have:=qnb.1 h.ind (fun j=>t j-t' j) (fun i hi=>by rw[qo (g:=fun j=>qvp c i j*t j-qvp c i j*t' j) (fun j _=>by grind),q8K,h.eq i hi,h'.eq i hi];grind) j hj;grind
theorem qFo {n:Nat}{p:Nat->V3}{L:Nat->Nat}{u:Nat->Rat}{s:Rat}(h:Sup n p (k+1) L u s):Bl k (fun j=>p (L j)) (fun j=>u (j+1))/\∀j,j<k+1->u j=wts (fun j=>u (j+1)) k j:=by
 have e:∀j,j<k+1->u j=wts (fun j=>u (j+1)) k j:=fun j hj=>by
  have:=h.one;rw[qcP] at this;unfold wts;cases j with
  | zero=>simp only[if_true];grind
  | succ j=>simp
 refine⟨⟨h.ind,(qzd _ k _).2 fun j hj=>?_⟩,e⟩;have c:cen (k+1) (wts (fun j=>u (j+1)) k) (fun j=>p (L j))=cen (k+1) u fun j=>p (L j):=by unfold cen;simp only[V3.mk.injEq];refine⟨?_,?_,?_⟩<;>exact qo fun i hi=>by rw[<-e i hi]
 rw[c,h.eq j hj,h.eq 0 (by omega)]
theorem qF0 {n:Nat}{p:Nat->V3}{L:Nat->Nat}{t:Nat->Rat}(h:Bl k (fun j=>p (L j)) t)(lt:∀j,j<k+1->L j<n)(asc:Asc (k+1) L)(nn:∀j,j<k+1->0<=wts t k j)(all:∀i,i<n->d2 (cen (k+1) (wts t k) fun j=>p (L j)) (p i)<=d2 (cen (k+1) (wts t k) fun j=>p (L j)) (p (L 0))) :Sup n p (k+1) L (wts t k) (d2 (cen (k+1) (wts t k) fun j=>p (L j)) (p (L 0))):=⟨lt,asc,h.ind,qJB t k,(qzd t k _).1 h.eq,nn,all⟩
end Go.Eng

namespace Go.Eng
variable {n:Nat}
def nxL(l:List Nat):Nat:=match l.getLast? with
 | none=>0
 | some a=>a+1
def exL(n:Nat)(l:List Nat):List (List Nat):=(List.range' (nxL l) (n-nxL l)).map fun i=>l++[i]
def lsN(n:Nat):Nat->List (List Nat)
 | 0=>[[]]
 | k+1=>(lsN n k).flatMap (exL n)
theorem qE2 (l:List Nat)(i:Nat):nxL (l++[i])=i+1:=by unfold nxL;rw[List.getLast?_concat]
theorem qGD {l:List Nat}(h:∀a,a∈l->a<n):nxL l<=n:=by
 unfold nxL;cases e:l.getLast? with
 | none=>exact qMY _
 | some a=>exact h a (List.mem_of_getLast? e)
theorem qIU {l:List Nat}(h:l.Pairwise (·<·)):∀a,a∈l->a<nxL l:=by
 intro a ha;rcases List.eq_nil_or_concat l with e|⟨l',b,e⟩
 ·subst e;cases ha
 ·rw[List.concat_eq_append] at e;subst e;rw[qE2];rcases qLV.1 ha with q|q
  ·have:=(List.pairwise_append.1 h).2.2 a q b (qLY.2 rfl);omega
  ·rw[qLY.1 q];omega
theorem qE1 {l L:List Nat}:L∈exL n l↔∃i,nxL l<=i/\i<n/\L=l++[i]:=by
 unfold exL;rw[qMi];constructor
 ·rintro ⟨i,hi,e⟩;rw[List.mem_range'] at hi;obtain⟨j,h1,h2⟩:=hi;exact⟨i,by omega,by omega,e.symm⟩
 ·rintro ⟨i,h1,h2,e⟩;exact⟨i,by rw[List.mem_range'];exact⟨i-nxL l,by omega,by omega⟩,e.symm⟩
theorem qry{n:Nat}:∀{k:Nat} {L:List Nat},L∈lsN n k↔L.length=k/\(∀a,a∈L->a<n)/\L.Pairwise (·<·)
 | 0,L=>by
  unfold lsN;rw[qLY];constructor
  ·intro e;subst e;exact⟨rfl,(fun a h=>by cases h),List.Pairwise.nil⟩
  ·intro h;exact qNd h.1
 | k+1,L=>by
  unfold lsN;rw[qNA];constructor
  ·rintro ⟨l,hl,hL⟩;obtain⟨h1,h2,h3⟩:=qry.1 hl;obtain⟨i,i1,i2,e⟩:=qE1.1 hL;subst e;refine⟨by rw[qLR,h1];rfl,fun a ha=>?_,List.pairwise_append.2 ⟨h3,List.pairwise_singleton _ _,fun a ha b hb=>?_⟩⟩
   ·rcases qLV.1 ha with q|q
    ·exact h2 a q
    ·rw[qLY.1 q];exact i2
   ·rw[qLY.1 hb];have:=qIU h3 a ha;omega
  ·rintro ⟨h1,h2,h3⟩;rcases List.eq_nil_or_concat L with e|⟨l,i,e⟩
   ·subst e;cases h1
   ·rw[List.concat_eq_append] at e;subst e;have hp:=List.pairwise_append.1 h3;refine⟨l,qry.2 ⟨by rw[qLR] at h1;exact Nat.succ.inj h1,fun a ha=>h2 a (qMq _ ha),hp.1⟩,qE1.2 ⟨i,?_,h2 i (qMf _ (qLY.2 rfl)),rfl⟩⟩;refine qGD fun a ha=>hp.2.2 a ha i (qLY.2 rfl)
theorem qE9 (n:Nat)(l:List Nat):(exL n l).length<=n:=by unfold exL;rw[qLF,List.length_range'];omega
theorem qum{α β:Type}(f:α->List β)(n:Nat)(h:∀a,(f a).length<=n):∀l:List α,(l.flatMap f).length<=l.length*n
 | []=>by simp
 | a::l=>by
  rw[List.flatMap_cons,qLR,qM5,Nat.succ_mul];have:=qum f n h l;have:=h a;omega
theorem qEE(n:Nat):∀k,(lsN n k).length<=n^k
 | 0=>by unfold lsN;simp
 | k+1=>by
  unfold lsN;refine qLu (qum _ n (qE9 n) _) ?_;rw[qN0];exact qLT _ (qEE n k)
def qhX(P:List Nat->Bool)(n:Nat):Nat->Nat->Option (List Nat)
 | _,0=>none
 | k,m+1=>match (lsN n k).find? P with
  | some L=>some L
  | none=>qhX P n (k+1) m
theorem qrF{P:List Nat->Bool}{n:Nat}:∀{m k:Nat} {L:List Nat},qhX P n k m=some L->P L=true/\∃j,k<=j/\j<k+m/\L∈lsN n j
 | 0,k,L,h=>by cases h
 | m+1,k,L,h=>by
  unfold qhX at h;split at h
  ·next L' e=>cases h;exact⟨qMM e,k,qLs _,by omega,qMm e⟩
  ·obtain⟨h1,j,h2,h3,h4⟩:=qrF h;exact⟨h1,j,by omega,by omega,h4⟩
theorem qrk{P:List Nat->Bool}{n:Nat}:∀{m k:Nat},qhX P n k m=none->∀j,k<=j->j<k+m->∀L,L∈lsN n j->P L=false
 | 0,k,_,j,h1,h2,_,_=>by omega
 | m+1,k,h,j,h1,h2,L,hL=>by
  unfold qhX at h;split at h
  ·cases h
  ·next e=>
   by_cases q:j=k
   ·subst q;exact(Bool.not_eq_true _).mp (List.find?_eq_none.1 e L hL)
   ·exact qrk h j (by omega) (by omega) L hL
theorem qFV {q:Nat}{f:Nat->Nat}(h:Asc q f):((List.range q).map f).Pairwise (·<·):=by rw[List.pairwise_iff_getElem];intro i j hi hj hij;rw[qLF,qMa] at hi hj;rw[List.getElem_map,List.getElem_map,List.getElem_range,List.getElem_range];exact h i j hij hj
theorem qFR {L:List Nat}(h:L.Pairwise (·<·))(d:Nat):Asc L.length (fun j=>L.getD j d):=fun i j hij hj=>by show L.getD i d<L.getD j d;rw[qLr,qLr,qLz hj,qLz (by omega)];exact List.pairwise_iff_getElem.1 h i j (by omega) hj hij
theorem qBd {q:Nat}{f:Nat->Nat}{d j:Nat}(h:j<q):((List.range q).map f).getD j d=f j:=by rw[qLr,qLC,qMp h];rfl
theorem qIj {q:Nat}{u:Nat->Rat}{c c':Nat->V3}(h:∀j,j<q->c j=c' j):cen q u c=cen q u c':=by unfold cen;simp only[V3.mk.injEq];refine⟨?_,?_,?_⟩<;>exact qo fun i hi=>by rw[h i hi]
theorem Sup.congr {p:Nat->V3}{q:Nat}{f g:Nat->Nat}{u:Nat->Rat}{s:Rat}(h:Sup n p q f u s)(e:∀j,j<q->f j=g j):Sup n p q g u s:=by
 have ec:∀v:Nat->Rat,(cen q v fun j=>p (g j))=cen q v fun j=>p (f j):=fun v=>qIj fun j hj=>by rw[e j hj]
 refine⟨fun j hj=>by rw[<-e j hj];exact h.lt j hj,fun j k hjk hk=>by rw[<-e j (by omega),<-e k hk];exact h.asc j k hjk hk,fun v h1 h2=>h.ind v h1 (by rw[<-ec];exact h2),h.one,fun j hj=>?_,h.nn,fun i hi=>?_⟩
 ·rw[ec,<-e j hj];exact h.eq j hj
 ·rw[ec];exact h.all i hi
theorem qFG (p:Nat->V3)(hn:0<n)(d:Nat):∃L:List Nat,∃u s,0<L.length/\L.length<=4/\((∀i,i<n->(p i).z=0)->L.length<=3)/\(∀a,a∈L->a<n)/\L.Pairwise (·<·)/\Sup n p L.length (fun j=>L.getD j d) u s:=by
 obtain⟨q,f,u,s,h,hq⟩:=qKb p hn;refine⟨(List.range q).map f,u,s,by rw[qLF,qMa];exact hq,by rw[qLF,qMa];exact qG1 h.ind,fun hz=>by rw[qLF,qMa];exact qEA h.ind fun j hj=>hz _ (h.lt j hj),fun a ha=>?_,qFV h.asc,?_⟩
 ·obtain⟨j,hj,e⟩:=qMi.1 ha;rw[<-e];exact h.lt j (qMK.1 hj)
 ·rw[qLF,qMa];exact h.congr fun j hj=>(qBd hj).symm
end Go.Eng

namespace Go.Eng
open Go.Shelf Go.RowKit Go.Proofs Go.Sort
variable {P:Program}{gl:List (Nat×AV)}
theorem qoA (w:World)(q:Nat)(os:Array Obj):Below w.heap.size w (grow (w.drewN q) os):=
 ⟨rfl,rfl,rfl,by simp[grow],fun i hi=>by show ((w.drewN q).heap++os)[i]?=_;rw[Array.getElem?_append_left (by show i<w.heap.size;omega)];rfl⟩
theorem qvz (w:World)(e:TypeId)(s:ByteArray):Below w.heap.size w (Lib.bytesWorld w e s):=⟨rfl,rfl,rfl,by rw[Lib.bytesWorld_size];omega,fun k hk=>Lib.bytesWorld_at_old w e s k (by omega)⟩
def qwA:List PV->TR
 | [.s s,.s [c]]=>.leaf (0,[.i (Lib.indexByte s c)])
 | _=>.fail
theorem qym {ρ:Ren}(L:Lays.n219 P ρ)(he:qcs P (ρ.f 219)) :qQ P gl (ρ.f 219) (q9 { args:=[.str,.str],h:=[] } [{ res:=.int .i64,h:=[] }] qwA):=
 qiP he rfl fun B X ps j qs vargs hs hg hh ha hk hT=>by
  obtain⟨s,t,rfl⟩:=qud hk;unfold qwA at hT;split at hT
  ·rename_i s' c hps;simp only[qMX,PV.s.injEq,and_true] at hps;obtain⟨rfl,rfl⟩:=hps;cases hT;have:=qrJ ha;subst this;refine⟨rfl,rfl,rfl,(Any.stringslite_Index_one L ⟨s.toArray⟩ c X.w).mono fun e w' ⟨h1,h2⟩=>?_⟩;subst h2;exact⟨_,h1,Below.refl _ _,.int _ _⟩
  ·cases hT
def qpw:List PV->TR
 | [.s s,.s t]=>.leaf (0,[.i (Lib.compareBytes s t)])
 | _=>.fail
theorem qtW {ρ:Ren}(L:Lays.n106 P ρ)(he:qcs P (ρ.f 106)) :qQ P gl (ρ.f 106) (q9 { args:=[.str,.str],h:=[] } [{ res:=.int .i64,h:=[] }] qpw):=
 qiP he rfl fun B X ps j qs vargs hs hg hh ha hk hT=>by obtain⟨s,t,rfl⟩:=qud hk;cases hT;have:=qrJ ha;subst this;refine⟨rfl,rfl,rfl,(Any.strings_Compare L ⟨s.toArray⟩ ⟨t.toArray⟩ X.w).mono fun e w' ⟨h1,h2⟩=>?_⟩;subst h2;exact⟨_,h1,Below.refl _ _,.int _ _⟩
def qC7:List PV->TR
 | [.s s,.s t]=>if s.length<=9223372036854775807/\t.length<4294967281/\t.all (fun b=>decide (b.toNat<128))=true then .leaf (0,[.s (Lib.trimS s t)]) else .fail
 | _=>.fail
theorem qAs {ρ:Ren}(L:Lays.n160 P ρ)(he:qcs P (ρ.f 160))(h116:(P.info? (ρ.t 116)).map (fun i=>(i.zero,i.size))=some (some (.agg (Array.replicate 256 (.bool false))),256)) :qQ P gl (ρ.f 160) (q9 { args:=[.str,.str],h:=[] } [{ res:=.str,h:=[] }] qC7):=
 qiP he rfl fun B X ps j qs vargs hs hg hh ha hk hT=>by
  obtain⟨s,t,rfl⟩:=qud hk;simp only[qC7] at hT;split at hT
  ·rename_i hc;cases hT;have:=qrJ ha;subst this;refine⟨rfl,rfl,rfl,(Any.strings_Trim_laid L h116 ⟨s.toArray⟩ ⟨t.toArray⟩ X.w (by simpa[ByteArray.size] using hc.1) (by simpa[ByteArray.size] using hc.2.1) (fun j b hj=>?_)).mono fun e w' ⟨h1,h2⟩=>⟨_,h1,h2,.str _⟩⟩;have h3:=hc.2.2;rw[qLZ] at h3;simpa using h3 b (qMJ hj)
  ·cases hT
def qGV:R:=[Lib.pow10Tab.map U.i]
def qEh:List PV->TR
 | [.i n]=>if -9223372036854775808<=n/\n<=9223372036854775807 then .leaf (0,[.s (Lib.itoa n)]) else .fail
 | _=>.fail
theorem qq5 {X:Ctx}{g:Nat}{k:IntKind}{zs:List Int}{name:String}(hn:P.globalNamed name=some g)(hz:zs≠[])(h:qFS X (g,.eptr (zs.map fun _=>.int k) [zs.map U.i] 0 0)):Lib.TabIs P X.w name k zs:=by
 obtain⟨h1,h2,h3⟩:=h;simp only at h1 h2 h3;have hcell:∀j (hj:j<zs.length),X.w.cell? ⟨g,j,none⟩=some (.int k zs[j]):=by
  intro j hj;generalize hv:(Value.pointer (some ⟨g,0,none⟩))=vv at h1;cases h1 with
  | eptr _ _ _ _ a hsp h0 hl hr=>
   simp only[Value.pointer.injEq,qLq,Addr.mk.injEq] at hv;obtain⟨v1,v2,_⟩:=hv;obtain⟨hM,v,e1,e2⟩:=hr 0 j (by simpa using hj) (by simp);have ho:a.off=0:=by omega
   have e1':X.w.cell? ⟨g,j,none⟩=some v:=by rw[Nat.zero_mul,qM8,ho,qMe,<-v1] at e1;exact e1
   rw[e1'];have e2':RepU X.w X.M (.int k) (U.i zs[j]) v:=by simpa[wD,qLr,hj] using e2
   cases e2';rfl
 unfold Lib.TabIs World.var?;rw[hn];simp only[qLW];have h0:=hcell 0 (qMQ.2 hz);unfold World.cell? at h0;simp only at h0;split at h0
 ·rename_i cs T fr hheap;rw[hheap];simp only;congr 1;have hsz:cs.size<=zs.length:=by
   have h4:X.w.cell? ⟨g,zs.length,none⟩=none:=by simpa[AV.span] using h3
   unfold World.cell? at h4;simp only[hheap] at h4;simpa using h4
  apply Array.ext
  ·simp;rcases qLy cs.size zs.length with hlt|hge
   ·have:=hcell cs.size hlt;unfold World.cell? at this;simp[hheap] at this
   ·omega
  ·intro j hj hj2;have hjz:j<zs.length:=by omega
   have:=hcell j hjz;unfold World.cell? at this;simp only[hheap] at this;simp[hj] at this;simp[this]
 ·cases h0
theorem qBe {ρ:Ren}(L:LaysM.n171 P ρ)(he:qcs P (ρ.f 171)){g:Nat}(hn:P.globalNamed "internal/strconv.uint64pow10" = some g)(hg:(g,AV.eptr (Lib.pow10Tab.map fun _=>.int .u64) qGV 0 0)∈gl) :qQ P gl (ρ.f 171) (q9 { args:=[.int .i64],h:=[] } [{ res:=.str,h:=[] }] qEh):=
 qiP he rfl fun B X ps j qs vargs hs hgl hh ha hk hT=>by
  obtain⟨n,rfl⟩:=qHC hk;simp only[qEh] at hT;split at hT
  ·rename_i hc;cases hT;have:=qA1 ha;subst this;refine⟨rfl,rfl,rfl,(Any.strconv_Itoa L n hc.1 hc.2 X.w (qq5 hn (by decide) (hgl _ hg).2)).mono fun e w' ⟨h1,k,os,h2⟩=>⟨_,h1,?_,.str _⟩⟩;subst h2;exact qoA _ _ _
  ·cases hT
def qE6:List PV->TR
 | [.s s]=>if s.length<=18 then (match Lib.atoi s with|some n=>.leaf (0,[.i n])|none=>.fail) else .fail
 | _=>.fail
theorem qAg {ρ:Ren}(L:Lays.n172 P ρ)(he:qcs P (ρ.f 172)) :qQ P gl (ρ.f 172) (q9 { args:=[.str],h:=[] } [{ res:=.tuple [.int .i64,.any],h:=[] }] qE6):=
 qiP he rfl fun B X ps j qs vargs hs hg hh ha hk hT=>by
  obtain⟨s,rfl⟩:=qHB hk;simp only[qE6] at hT;split at hT
  ·rename_i hc;split at hT
   ·rename_i n hn;cases hT;have:=qAd ha;subst this;refine⟨rfl,rfl,rfl,(Any.strconv_Atoi L ⟨s.toArray⟩ n (by simpa[ByteArray.size] using hc) (by simpa using hn) X.w).mono fun e w' ⟨h1,t,h2⟩=>⟨_,h1,?_,.tuple _ _ (.cons (.int _ _) (.cons (.undef _) .nil))⟩⟩;subst h2;exact qvz _ _ _
   ·cases hT
  ·cases hT
def qDT(s:qLp):List UInt8:=qeI (qcE [48,48,48,48,48,48,48,48,48] (qw s) 9) s
def qmq(w:R):Nat->List UInt8
 | 0=>[]
 | i+1=>qDT (Lib.itoa (cI w i 0))++qmq w i
def qCm(b:Bool)(n:Int)(w:R):List UInt8:=if n=0 then [48] else (if b then [45] else [])++Lib.itoa (cI w (n-1) 0)++qmq w (n-1).toNat
def quS(n:Int)(w:R):Bool:=decide (0<=n)&&decide (n<=232)&&(List.range n.toNat).all fun i=>decide (0<=cI w i 0/\cI w i 0<1000000000)
def qEo:List PV->TR
 | [.b b,.i n,.r w]=>if quS n w then .leaf (0,[.s (qCm b n w),.b b,.i n,.r w]) else .fail
 | _=>.fail
end Go.Eng

namespace Go.Proofs
open Go.Shelf
open Tryz
def lays219_ren:Go.Shelf.Ren:=⟨fun|219=>164|217=>201|225=>202|224=>203|267=>204|266=>225|314=>226|n=>n,fun|9=>9|3=>3|4=>4|5=>5|46=>249|146=>263|51=>262|n=>n,fun|1=>0|n=>n⟩
theorem lays219:Go.Proofs.Lays.n219 prog lays219_ren:={
 mixed:=by kernel_rfl
 f217:=func201.trans (congrArg some (by kernel_rfl))
 f219:=func164.trans (congrArg some (by kernel_rfl))
 f224:=func203.trans (congrArg some (by kernel_rfl))
 f225:=func202.trans (congrArg some (by kernel_rfl))
 f266:=func225.trans (congrArg some (by kernel_rfl))
 f267:=func204.trans (congrArg some (by kernel_rfl))
 f314:=func226.trans (congrArg some (by kernel_rfl))
 t3:=underlying3
 a3:=isAgg3
 z3:=sizeOf3
 v3:=zeroValue3
 t4:=underlying4
 a4:=isAgg4
 z4:=sizeOf4
 v4:=zeroValue4
 t5:=underlying5
 a5:=isAgg5
 z5:=sizeOf5
 v5:=zeroValue5
 t9:=underlying9
 a9:=isAgg9
 z9:=sizeOf9
 v9:=zeroValue9
 t46:=underlying249
 a46:=isAgg249
 z46:=sizeOf249
 v46:=zeroValue249
 t51:=underlying262
 a51:=isAgg262
 z51:=sizeOf262
 v51:=zeroValue262
 t146:=underlying263
 a146:=isAgg263
 z146:=sizeOf263
 v146:=zeroValue263
 g1:=by kernel_rfl }
def lays106_ren:Go.Shelf.Ren:=⟨fun|106=>121|213=>165|265=>205|n=>n,fun|9=>9|3=>3|n=>n,fun|n=>n⟩
theorem lays106:Go.Proofs.Lays.n106 prog lays106_ren:={
 mixed:=by kernel_rfl
 f106:=func121.trans (congrArg some (by kernel_rfl))
 f213:=func165.trans (congrArg some (by kernel_rfl))
 f265:=func205.trans (congrArg some (by kernel_rfl))
 t3:=underlying3
 a3:=isAgg3
 z3:=sizeOf3
 v3:=zeroValue3
 t9:=underlying9
 a9:=isAgg9
 z9:=sizeOf9
 v9:=zeroValue9 }
def lays160_ren:Go.Shelf.Ren:=⟨fun|160=>108|232=>145|231=>144|227=>146|234=>148|233=>147|236=>150|235=>149|228=>188|271=>191|151=>190|197=>189|120=>213|152=>212|260=>211|137=>231|119=>232|224=>203|225=>202|217=>201|266=>225|n=>n,fun|9=>9|4=>4|3=>3|5=>5|117=>195|116=>194|0=>0|124=>198|21=>21|105=>239|46=>249|119=>267|139=>270|138=>269|n=>n,fun|3=>1|4=>2|n=>n⟩
theorem lays160:Go.Proofs.Lays.n160 prog lays160_ren:={
 mixed:=by kernel_rfl
 f119:=func232.trans (congrArg some (by kernel_rfl))
 f120:=func213.trans (congrArg some (by kernel_rfl))
 f137:=func231.trans (congrArg some (by kernel_rfl))
 f151:=func190.trans (congrArg some (by kernel_rfl))
 f152:=func212.trans (congrArg some (by kernel_rfl))
 f160:=func108.trans (congrArg some (by kernel_rfl))
 f197:=func189.trans (congrArg some (by kernel_rfl))
 f217:=func201.trans (congrArg some (by kernel_rfl))
 f224:=func203.trans (congrArg some (by kernel_rfl))
 f225:=func202.trans (congrArg some (by kernel_rfl))
 f227:=func146.trans (congrArg some (by kernel_rfl))
 f228:=func188.trans (congrArg some (by kernel_rfl))
 f231:=func144.trans (congrArg some (by kernel_rfl))
 f232:=func145.trans (congrArg some (by kernel_rfl))
 f233:=func147.trans (congrArg some (by kernel_rfl))
 f234:=func148.trans (congrArg some (by kernel_rfl))
 f235:=func149.trans (congrArg some (by kernel_rfl))
 f236:=func150.trans (congrArg some (by kernel_rfl))
 f260:=func211.trans (congrArg some (by kernel_rfl))
 f266:=func225.trans (congrArg some (by kernel_rfl))
 f271:=func191.trans (congrArg some (by kernel_rfl))
 t0:=underlying0
 a0:=isAgg0
 z0:=sizeOf0
 v0:=zeroValue0
 t3:=underlying3
 a3:=isAgg3
 z3:=sizeOf3
 v3:=zeroValue3
 t4:=underlying4
 a4:=isAgg4
 z4:=sizeOf4
 v4:=zeroValue4
 t5:=underlying5
 a5:=isAgg5
 z5:=sizeOf5
 v5:=zeroValue5
 t9:=underlying9
 a9:=isAgg9
 z9:=sizeOf9
 v9:=zeroValue9
 t21:=underlying21
 a21:=isAgg21
 z21:=sizeOf21
 v21:=zeroValue21
 t46:=underlying249
 a46:=isAgg249
 z46:=sizeOf249
 v46:=zeroValue249
 t105:=underlying239
 a105:=isAgg239
 z105:=sizeOf239
 v105:=zeroValue239
 t116:=underlying194
 a116:=isAgg194
 z116:=sizeOf194
 t117:=underlying195
 a117:=isAgg195
 z117:=sizeOf195
 v117:=zeroValue195
 t119:=underlying267
 a119:=isAgg267
 z119:=sizeOf267
 t124:=underlying198
 a124:=isAgg198
 z124:=sizeOf198
 v124:=zeroValue198
 t138:=underlying269
 a138:=isAgg269
 z138:=sizeOf269
 v138:=zeroValue269
 t139:=underlying270
 a139:=isAgg270
 z139:=sizeOf270
 v139:=zeroValue270
 g3:=by kernel_rfl
 g4:=by kernel_rfl }
def lays172_ren:Go.Shelf.Ren:=⟨fun|172=>151|244=>192|245=>193|247=>214|279=>215|280=>216|281=>217|282=>218|287=>233|316=>234|171=>153|205=>235|321=>242|322=>243|243=>194|246=>219|283=>236|284=>237|285=>238|286=>239|129=>245|317=>244|318=>246|319=>247|320=>248|337=>249|338=>250|n=>n,fun|9=>9|3=>3|75=>200|76=>201|4=>4|5=>5|167=>253|37=>123|0=>0|85=>254|2=>2|168=>256|53=>272|175=>273|46=>249|210=>276|127=>244|145=>289|143=>287|21=>21|171=>278|173=>281|212=>291|51=>262|20=>20|213=>292|232=>295|233=>296|80=>212|n=>n,fun|15=>3|16=>4|17=>5|18=>6|19=>7|n=>n⟩
theorem lays172:Go.Proofs.Lays.n172 prog lays172_ren:={
 mixed:=by kernel_rfl
 f129:=func245.trans (congrArg some (by kernel_rfl))
 f171:=func153.trans (congrArg some (by kernel_rfl))
 f172:=func151.trans (congrArg some (by kernel_rfl))
 f205:=func235.trans (congrArg some (by kernel_rfl))
 f243:=func194.trans (congrArg some (by kernel_rfl))
 f244:=func192.trans (congrArg some (by kernel_rfl))
 f245:=func193.trans (congrArg some (by kernel_rfl))
 f246:=func219.trans (congrArg some (by kernel_rfl))
 f247:=func214.trans (congrArg some (by kernel_rfl))
 f279:=func215.trans (congrArg some (by kernel_rfl))
 f280:=func216.trans (congrArg some (by kernel_rfl))
 f281:=func217.trans (congrArg some (by kernel_rfl))
 f282:=func218.trans (congrArg some (by kernel_rfl))
 f283:=func236.trans (congrArg some (by kernel_rfl))
 f284:=func237.trans (congrArg some (by kernel_rfl))
 f285:=func238.trans (congrArg some (by kernel_rfl))
 f286:=func239.trans (congrArg some (by kernel_rfl))
 f287:=func233.trans (congrArg some (by kernel_rfl))
 f316:=func234.trans (congrArg some (by kernel_rfl))
 f317:=func244.trans (congrArg some (by kernel_rfl))
 f318:=func246.trans (congrArg some (by kernel_rfl))
 f319:=func247.trans (congrArg some (by kernel_rfl))
 f320:=func248.trans (congrArg some (by kernel_rfl))
 f321:=func242.trans (congrArg some (by kernel_rfl))
 f322:=func243.trans (congrArg some (by kernel_rfl))
 f337:=func249.trans (congrArg some (by kernel_rfl))
 f338:=func250.trans (congrArg some (by kernel_rfl))
 t0:=underlying0
 a0:=isAgg0
 z0:=sizeOf0
 v0:=zeroValue0
 t2:=underlying2
 a2:=isAgg2
 z2:=sizeOf2
 v2:=zeroValue2
 t3:=underlying3
 a3:=isAgg3
 z3:=sizeOf3
 v3:=zeroValue3
 t4:=underlying4
 a4:=isAgg4
 z4:=sizeOf4
 v4:=zeroValue4
 t5:=underlying5
 a5:=isAgg5
 z5:=sizeOf5
 v5:=zeroValue5
 t9:=underlying9
 a9:=isAgg9
 z9:=sizeOf9
 v9:=zeroValue9
 t20:=underlying20
 a20:=isAgg20
 z20:=sizeOf20
 v20:=zeroValue20
 t21:=underlying21
 a21:=isAgg21
 z21:=sizeOf21
 v21:=zeroValue21
 t37:=underlying123
 a37:=isAgg123
 z37:=sizeOf123
 v37:=zeroValue123
 t46:=underlying249
 a46:=isAgg249
 z46:=sizeOf249
 v46:=zeroValue249
 t51:=underlying262
 a51:=isAgg262
 z51:=sizeOf262
 v51:=zeroValue262
 t53:=underlying272
 a53:=isAgg272
 z53:=sizeOf272
 v53:=zeroValue272
 t75:=underlying200
 a75:=isAgg200
 z75:=sizeOf200
 v75:=zeroValue200
 t76:=underlying201
 a76:=isAgg201
 z76:=sizeOf201
 v76:=zeroValue201
 t85:=underlying254
 a85:=isAgg254
 z85:=sizeOf254
 v85:=zeroValue254
 t127:=underlying244
 a127:=isAgg244
 z127:=sizeOf244
 v127:=zeroValue244
 t143:=underlying287
 a143:=isAgg287
 z143:=sizeOf287
 v143:=zeroValue287
 t145:=underlying289
 a145:=isAgg289
 z145:=sizeOf289
 v145:=zeroValue289
 t167:=underlying253
 a167:=isAgg253
 z167:=sizeOf253
 v167:=zeroValue253
 t168:=underlying256
 a168:=isAgg256
 z168:=sizeOf256
 v168:=zeroValue256
 t171:=underlying278
 a171:=isAgg278
 z171:=sizeOf278
 v171:=zeroValue278
 t173:=underlying281
 a173:=isAgg281
 z173:=sizeOf281
 v173:=zeroValue281
 t175:=underlying273
 a175:=isAgg273
 z175:=sizeOf273
 v175:=zeroValue273
 t210:=underlying276
 a210:=isAgg276
 z210:=sizeOf276
 v210:=zeroValue276
 t212:=underlying291
 a212:=isAgg291
 z212:=sizeOf291
 v212:=zeroValue291
 t213:=underlying292
 a213:=isAgg292
 z213:=sizeOf292
 t232:=underlying295
 a232:=isAgg295
 z232:=sizeOf295
 v232:=zeroValue295
 t233:=underlying296
 a233:=isAgg296
 z233:=sizeOf296
 v233:=zeroValue296
 g15:=by kernel_rfl
 g16:=by kernel_rfl
 g17:=by kernel_rfl
 g18:=by kernel_rfl
 g19:=by kernel_rfl }
def lays169_ren:Go.Shelf.Ren:=⟨fun|169=>159|n=>n,fun|70=>208|9=>9|0=>0|72=>210|37=>123|127=>244|3=>3|5=>5|n=>n,fun|n=>n⟩
theorem lays169:Go.Proofs.Lays.n169 prog lays169_ren:={
 mixed:=by kernel_rfl
 f169:=func159.trans (congrArg some (by kernel_rfl))
 t0:=underlying0
 a0:=isAgg0
 z0:=sizeOf0
 v0:=zeroValue0
 t3:=underlying3
 a3:=isAgg3
 z3:=sizeOf3
 v3:=zeroValue3
 t9:=underlying9
 a9:=isAgg9
 z9:=sizeOf9
 v9:=zeroValue9
 t37:=underlying123
 a37:=isAgg123
 z37:=sizeOf123
 v37:=zeroValue123
 t70:=underlying208
 a70:=isAgg208
 z70:=sizeOf208
 v70:=zeroValue208
 t72:=underlying210
 a72:=isAgg210
 z72:=sizeOf210
 v72:=zeroValue210
 t127:=underlying244
 a127:=isAgg244
 z127:=sizeOf244
 v127:=zeroValue244 }
def laysM171_ren:Go.Shelf.Ren:=⟨fun|171=>153|243=>194|246=>219|283=>236|284=>237|285=>238|286=>239|129=>245|317=>244|318=>246|319=>247|320=>248|337=>249|338=>250|n=>n,fun|3=>3|9=>9|2=>2|4=>4|171=>278|0=>0|53=>272|37=>123|5=>5|173=>281|212=>291|51=>262|20=>20|213=>292|46=>249|232=>295|233=>296|n=>n,fun|17=>5|18=>6|19=>7|n=>n⟩
theorem laysM171:Go.Proofs.LaysM.n171 prog laysM171_ren:={
 mixed:=by kernel_rfl
 f129:=func245.trans (congrArg some (by kernel_rfl))
 f171:=func153.trans (congrArg some (by kernel_rfl))
 f243:=func194.trans (congrArg some (by kernel_rfl))
 f246:=func219.trans (congrArg some (by kernel_rfl))
 f283:=func236.trans (congrArg some (by kernel_rfl))
 f284:=func237.trans (congrArg some (by kernel_rfl))
 f285:=func238.trans (congrArg some (by kernel_rfl))
 f286:=func239.trans (congrArg some (by kernel_rfl))
 f317:=func244.trans (congrArg some (by kernel_rfl))
 f318:=func246.trans (congrArg some (by kernel_rfl))
 f319:=func247.trans (congrArg some (by kernel_rfl))
 f320:=func248.trans (congrArg some (by kernel_rfl))
 f337:=func249.trans (congrArg some (by kernel_rfl))
 f338:=func250.trans (congrArg some (by kernel_rfl))
 t0:=underlying0
 a0:=isAgg0
 z0:=sizeOf0
 v0:=zeroValue0
 t2:=underlying2
 a2:=isAgg2
 z2:=sizeOf2
 v2:=zeroValue2
 t3:=underlying3
 a3:=isAgg3
 z3:=sizeOf3
 v3:=zeroValue3
 t4:=underlying4
 a4:=isAgg4
 z4:=sizeOf4
 v4:=zeroValue4
 t5:=underlying5
 a5:=isAgg5
 z5:=sizeOf5
 v5:=zeroValue5
 t9:=underlying9
 a9:=isAgg9
 z9:=sizeOf9
 v9:=zeroValue9
 t20:=underlying20
 a20:=isAgg20
 z20:=sizeOf20
 v20:=zeroValue20
 t37:=underlying123
 a37:=isAgg123
 z37:=sizeOf123
 v37:=zeroValue123
 t46:=underlying249
 a46:=isAgg249
 z46:=sizeOf249
 v46:=zeroValue249
 t51:=underlying262
 a51:=isAgg262
 z51:=sizeOf262
 v51:=zeroValue262
 t53:=underlying272
 a53:=isAgg272
 z53:=sizeOf272
 v53:=zeroValue272
 t171:=underlying278
 a171:=isAgg278
 z171:=sizeOf278
 v171:=zeroValue278
 t173:=underlying281
 a173:=isAgg281
 z173:=sizeOf281
 v173:=zeroValue281
 t212:=underlying291
 a212:=isAgg291
 z212:=sizeOf291
 v212:=zeroValue291
 t213:=underlying292
 a213:=isAgg292
 z213:=sizeOf292
 t232:=underlying295
 a232:=isAgg295
 z232:=sizeOf295
 v232:=zeroValue295
 t233:=underlying296
 a233:=isAgg296
 z233:=sizeOf296
 v233:=zeroValue296
 g17:=by kernel_rfl
 g18:=by kernel_rfl
 g19:=by kernel_rfl
 i0:=by kernel_rfl
 i2:=by kernel_rfl
 i3:=by kernel_rfl
 i4:=by kernel_rfl
 i5:=by kernel_rfl
 i9:=by kernel_rfl
 i20:=by kernel_rfl
 i37:=by kernel_rfl
 i46:=by kernel_rfl
 i51:=by kernel_rfl
 i53:=by kernel_rfl
 i171:=by kernel_rfl
 i173:=by kernel_rfl
 i212:=by kernel_rfl
 i232:=by kernel_rfl
 i233:=by kernel_rfl
 m17:=by kernel_rfl
 m18:=by kernel_rfl
 m19:=by kernel_rfl }
end Go.Proofs

namespace Go.Eng
open Go.Shelf Go.RowKit Go.Proofs
open Tryz
set_option maxHeartbeats 2000000 in
set_option maxRecDepth 100000 in
theorem qEV(b:Nat)(w:World)(h0:w.cell? ⟨b,0,none⟩=some (.pointer (some ⟨b,0,none⟩))) :Calls prog 196 #[.pointer (some ⟨b,0,none⟩)] w fun e w'=>e=.returned (.tuple #[])/\w'=w:=by
 obtain⟨j,hj,_⟩:=qNg.1 (show (prog.info? 210).map (·.size)=some 2 by kernel_rfl)
 go_enter func196,ntmps196
 go_wp2
 rw[Lib.run_neq_ptr_same w ⟨b,0,none⟩ underlying208 hj]
 go_wp2
 go_end0
 exact⟨rfl,rfl⟩
set_option maxHeartbeats 2000000 in
set_option maxRecDepth 100000 in
theorem qEz(b:Nat)(w:World)(h0:w.cell? ⟨b,0,none⟩=some (.pointer none))(hsh:w.shape? b=some (210,2))(hfz:w.frozen? ⟨b,0,none⟩=false) :Calls prog 196 #[.pointer (some ⟨b,0,none⟩)] w fun e w'=>e=.returned (.tuple #[])/\w'=w.setCell ⟨b,0,none⟩ (.pointer (some ⟨b,0,none⟩)):=by
 obtain⟨j,hj,hjs⟩:=qNg.1 (show (prog.info? 210).map (·.size)=some 2 by kernel_rfl)
 go_enter func196,ntmps196
 go_wp2
 rw[Lib.run_to_unsafe w ⟨b,0,none⟩ underlying208 underlying260 hj (by rw[hjs];decide) hsh (Nat.zero_lt_succ 1)];simp only[Result.andThen];rw[Oper.upon_value]
 go_wp2
 rw[run_callFunc_extern func220 (by kernel_rfl) (by kernel_rfl) (by kernel_rfl) (e:=Extern.AbiNoEscape.same) (by kernel_rfl)];rw[Lib.run_noEscape];simp only[Result.andThen];rw[Oper.upon_value]
 go_wp2
 rw[Lib.run_from_unsafe w ⟨b,0,none⟩ underlying260 underlying208 hj hsh (by kernel_rfl)];simp only[Result.andThen];rw[Oper.upon_value]
 go_wp2
 go_end0
 exact⟨rfl,rfl⟩
abbrev BtB(B b:Nat)(bs:List Value)(w:World):Prop:=Lib.IsBuilder 210 5 B b bs w
set_option maxHeartbeats 2000000 in
set_option maxRecDepth 100000 in
theorem qwO(B b:Nat)(bs:List Value)(w:World)(h:BtB B b bs w) :Calls prog 196 #[.pointer (some ⟨b,0,none⟩)] w fun e w'=>e=.returned (.tuple #[])/\Lib.BuilderAt 210 5 B b (.pointer (some ⟨b,0,none⟩)) bs w'/\Below B w w':=by
 rcases h with h|h
 ·refine(qEz b w h.cell0 h.shape h.frozen0).mono ?_;rintro e w' ⟨rfl,rfl⟩;exact⟨rfl,h.used _,(Below.refl B w).setCell (p:=⟨b,0,none⟩) h.1 _⟩
 ·refine(qEV b w h.cell0).mono ?_;rintro e w' ⟨rfl,rfl⟩;exact⟨rfl,h,Below.refl B _⟩
set_option maxHeartbeats 2000000 in
set_option maxRecDepth 100000 in
theorem qET(B b:Nat)(bs:List Value)(c:Int)(w:World)(h:BtB B b bs w)(hlen:bs.length+1<=140737488355328)(hBw:B<=w.heap.size) :Calls prog 157 #[.pointer (some ⟨b,0,none⟩),.int .u8 c] w fun e w'=>e=.returned .nilIface/\BtB B b (bs++[.int .u8 c]) w'/\Below B w w':=by
 obtain⟨i0,hi,hz0,hz1,hz2⟩:=info_parts (show (prog.info? 5).map (fun i=>(i.zero,i.size,i.bytes))=some (some (.int .u8 0),1,1) by kernel_rfl)
 go_enter func157,ntmps157
 go_wp2_with (go_at_call 196;refine(qwO B b bs _ h).mono ?_)
 rintro e w1 ⟨rfl,h1,hb1⟩;obtain⟨hB,v,hbk,hown,hne⟩:=h1;have c0:w1.cell? ⟨b,0,none⟩=some (.pointer (some ⟨b,0,none⟩)):=by rw[Lib.cell_of_heap hbk];rfl
 have c1:w1.cell? ⟨b,1,none⟩=some v:=by rw[Lib.cell_of_heap hbk];rfl
 have hsz1:=hb1.size
 go_wp2_with (at_builtin;refine wpList_append_own _ rfl _ _ 123 rfl B 5 i0 (.int .u8 0) 1 1 underlying123 hi hz0 hz1 hz2 rfl (by decide) _ _ _ rfl (hown.alloc _) ⟨w1.heap.size,0,none⟩ 1 1 [.int .u8 c] rfl rfl ?c1 ?c2 ?c3 ?c4 ?c5 ?_)
 case c1=>
  intro j u hj
  match j,hj with
  | 0,hj=>simp at hj;subst hj;simp[Addr.add]
 case c2=>intro u hu;simp at hu;subst hu;rfl
 case c3=>unfold maxLen;omega
 case c4=>omega
 case c5=>simp;omega
 intro v' w2 hown' hgrow _;have hlt:b<w1.heap.size:=by
  rcases qLy b w1.heap.size with h'|h'
  ·exact h'
  ·simp[Array.getElem?_eq_none h'] at hbk
 have hb2:w2.heap[b]?=some (.cells #[.pointer (some ⟨b,0,none⟩),v] 210 (0,0)):=by rw[hgrow.block b (by simp;omega) (fun e=>hne e.symm),Lib.alloc_old w1 _ b hlt];exact hbk
 have d0:w2.cell? ⟨b,0,none⟩=some (.pointer (some ⟨b,0,none⟩)):=by rw[Lib.cell_of_heap hb2];rfl
 have d1:w2.cell? ⟨b,1,none⟩=some v:=by rw[Lib.cell_of_heap hb2];rfl
 have f1:w2.frozen? ⟨b,1,none⟩=false:=Lib.frozen_of_heap hb2 1;obtain⟨ao,n',cap,rfl⟩:∃ao n' cap,v'=.slice ao n' cap:=by
  rcases hown'.2 with⟨hv,_⟩|⟨g,cap,cur,hv,_⟩
  ·exact⟨_,_,_,hv⟩
  ·exact⟨_,_,_,hv⟩
 go_wp2
 go_ret
 refine⟨rfl,.inr ?_,?_⟩
 ·exact Lib.BuilderAt.put (T:=210) (e:=5) hB hb2 (bs':=bs++[.int .u8 c]) (by simpa using hown') (by decide)
 ·exact((hb1.alloc (by omega) _).grown hgrow (by simp;omega) (fun k hk=>(hown.lt k hk).1)).setCell (p:=⟨b,1,none⟩) hB _
set_option maxHeartbeats 2000000 in
set_option maxRecDepth 100000 in
theorem qEL(B b:Nat)(bs:List Value)(s:ByteArray)(w:World)(h:BtB B b bs w)(hlen:bs.length+s.size<=140737488355328)(hBw:B<=w.heap.size) :Calls prog 158 #[.pointer (some ⟨b,0,none⟩),.string s] w fun e w'=>e=.returned (.tuple #[.int .i64 s.size,.nilIface])/\BtB B b (bs++Lib.strCells s) w'/\Below B w w':=by
 obtain⟨i0,hi,hz0,hz1,hz2⟩:=info_parts (show (prog.info? 5).map (fun i=>(i.zero,i.size,i.bytes))=some (some (.int .u8 0),1,1) by kernel_rfl)
 go_enter func158,ntmps158
 go_wp2_with (go_at_call 196;refine(qwO B b bs _ h).mono ?_)
 rintro e w1 ⟨rfl,h1,hb1⟩;obtain⟨hB,v,hbk,hown,hne⟩:=h1;have c0:w1.cell? ⟨b,0,none⟩=some (.pointer (some ⟨b,0,none⟩)):=by rw[Lib.cell_of_heap hbk];rfl
 have c1:w1.cell? ⟨b,1,none⟩=some v:=by rw[Lib.cell_of_heap hbk];rfl
 have hsz1:=hb1.size
 go_wp2_with (at_builtin;refine Lib.wpList_append_own_string _ rfl _ _ 123 9 rfl B 5 i0 underlying123 underlying9 hi hz0 hz1 hz2 _ _ _ rfl hown s rfl ?c3 ?c4 ?c5 ?_)
 case c3=>unfold maxLen;omega
 case c4=>omega
 case c5=>omega
 intro v' w2 hown' hgrow _;have hlt:b<w1.heap.size:=by
  rcases qLy b w1.heap.size with h'|h'
  ·exact h'
  ·simp[Array.getElem?_eq_none h'] at hbk
 have hb2:w2.heap[b]?=some (.cells #[.pointer (some ⟨b,0,none⟩),v] 210 (0,0)):=by rw[hgrow.block b hlt (fun e=>hne e.symm)];exact hbk
 have d0:w2.cell? ⟨b,0,none⟩=some (.pointer (some ⟨b,0,none⟩)):=by rw[Lib.cell_of_heap hb2];rfl
 have d1:w2.cell? ⟨b,1,none⟩=some v:=by rw[Lib.cell_of_heap hb2];rfl
 have f1:w2.frozen? ⟨b,1,none⟩=false:=Lib.frozen_of_heap hb2 1;obtain⟨ao,n',cap,rfl⟩:∃ao n' cap,v'=.slice ao n' cap:=by
  rcases hown'.2 with⟨hv,_⟩|⟨g,cap,cur,hv,_⟩
  ·exact⟨_,_,_,hv⟩
  ·exact⟨_,_,_,hv⟩
 go_wp2
 go_ret2
 refine⟨rfl,.inr ?_,?_⟩
 ·exact Lib.BuilderAt.put (T:=210) (e:=5) hB hb2 (bs':=bs++Lib.strCells s) (by simpa[Lib.strCells_length] using hown') (by decide)
 ·exact(hb1.grown hgrow (by omega) (fun k hk=>(hown.lt k hk).1)).setCell (p:=⟨b,1,none⟩) hB _
theorem qEk:Builder.Extra prog lays169_ren where
 sizeBuilder:=by kernel_rfl
 liesBuilder:=by kernel_rfl
 t5:=underlying5
 a5:=isAgg5
 z5:=sizeOf5
 v5:=zeroValue5
 infoByte:=by kernel_rfl
 cellsByte:=by kernel_rfl
 sizeByte:=by kernel_rfl
 neB5:=by decide
set_option maxHeartbeats 2000000 in
set_option maxRecDepth 100000 in
theorem qB4(B b:Nat)(l:qLp)(w:World)(h:BtB B b (Lib.byteCells l) w)(h0:l≠[]) :Calls prog 159 #[.pointer (some ⟨b,0,none⟩)] w fun e w'=>e=.returned (.string ⟨l.toArray⟩)/\Below B w w':=Any.Builder_String lays169 qEk B b l w h h0
def qlt(f:Nat->Int):Nat->List UInt8
 | 0=>[]
 | i+1=>qDT (Lib.itoa (f i))++qlt f i
def qA5(b:Bool)(n:Nat)(f:Nat->Int):List UInt8:=if n=0 then [48] else (if b then [45] else [])++Lib.itoa (f (n-1))++qlt f (n-1)
theorem qzO (n:Int)(h:-9223372036854775808<=n/\n<=9223372036854775807)(w:World)(ht:Lib.TabIs prog w "internal/strconv.uint64pow10" .u64 Lib.pow10Tab) :Calls prog 153 #[.int .i64 n] w fun e w'=>e=.returned (.string ⟨(Lib.itoa n).toArray⟩)/\Below w.heap.size w w':=(Any.strconv_Itoa laysM171 n h.1 h.2 w ht).mono fun e w' ⟨h1,k,os,h2⟩=>⟨h1,by subst h2;exact qoA _ _ _⟩
theorem qq9{P:Program}{w w':World}{name:String}{k:IntKind}{zs:List Int}(h:Lib.TabIs P w name k zs)(hb:Below w.heap.size w w'):Lib.TabIs P w' name k zs:=by
 unfold Lib.TabIs World.var? at *;cases hg:P.globalNamed name with
 | none=>rw[hg] at h;cases h
 | some g=>
  rw[hg] at h;simp only[qLW] at h ⊢;by_cases hlt:g<w.heap.size
  ·rw[hb.block g hlt];exact h
  ·rw[Array.getElem?_eq_none (by omega)] at h;cases h
theorem qix{w w':World}(hb:Below w.heap.size w w'){n:Nat}(hn:n<w.heap.size)(o:Nat):w'.cell? ⟨n,o,none⟩=w.cell? ⟨n,o,none⟩:=qMu (hb.block n hn)
theorem qwr{B b:Nat}{bs:List Value}{w w':World}(h:BtB B b bs w)(hb:Below w.heap.size w w'):BtB B b bs w':=by
 have key:∀p,Lib.BuilderAt 210 5 B b p bs w->Lib.BuilderAt 210 5 B b p bs w':=by
  intro p h;have hlt:=h.lt;obtain⟨hB,v,hbk,⟨hl,hown⟩,hne⟩:=h;refine⟨hB,v,(hb.block b hlt).trans hbk,⟨hl,?_⟩,hne⟩;rcases hown with h|⟨g,cap,cur,h1,h2,h3,h4⟩
  ·exact .inl h
  ·exact .inr ⟨g,cap,cur,h1,h2,(hb.block g (qLw.1 h3).1).trans h3,h4⟩
 exact h.elim (fun x=>.inl (key _ x)) (fun x=>.inr (key _ x))
theorem qFI{B b:Nat}{bs:List Value}{w:World}(h:BtB B b bs w):BtB B b bs w.drew:=h.elim (fun x=>.inl x.drew) (fun x=>.inr x.drew)
theorem qDz:∀(k n:Nat),n<10^(k+1)->(Lib.decDigits n).length<=k+1
 | 0,n,h=>by rw[Lib.decDigits,dif_pos (by omega)];simp
 | k+1,n,h=>by
  rw[Lib.decDigits];split
  ·simp
  ·have:=qDz k (n/10) (by rw[qN0] at h;omega);simp;omega
theorem qGi{pre l:qLp}{k:Nat}(hp:pre.length<=k)(hl:l.length<=9)(hk:k<=100000:=by omega):(Lib.byteCells pre).length+(⟨l.toArray⟩:ByteArray).size<=140737488355328:=by
 rw[Lib.byteCells_length];have:(⟨l.toArray⟩:ByteArray).size=l.length:=by simp[ByteArray.size]
 omega
theorem qzy{x:Int}(h:0<=x/\x<1000000000):(Lib.itoa x).length<=9:=by unfold Lib.itoa;rw[if_neg (by omega)];exact qDz 8 _ (by omega)
theorem qAa{l:qLp}(h:l.length<=9):(qDT l).length=9:=by unfold qDT qeI qcE qw;simp;omega
theorem qE4{l:qLp}(h:l.length<=9):(⟨#[48,48,48,48,48,48,48,48,48]⟩:ByteArray).extract l.length 9++⟨l.toArray⟩=⟨(qDT l).toArray⟩:=by
 have key:∀k:Nat,k<=9->(⟨#[48,48,48,48,48,48,48,48,48]⟩:ByteArray).extract k 9=⟨(qcE [48,48,48,48,48,48,48,48,48] (k:Int) 9).toArray⟩:=by
  intro k hk;have:k=0\/k=1\/k=2\/k=3\/k=4\/k=5\/k=6\/k=7\/k=8\/k=9:=by omega
  rcases this with rfl|rfl|rfl|rfl|rfl|rfl|rfl|rfl|rfl|rfl<;>rfl
 rw[key _ h];unfold qDT qeI qw;apply ByteArray.ext;simp
theorem qDo(l:qLp):Lib.strCells ⟨l.toArray⟩=Lib.byteCells l:=rfl
theorem qFE(x:Int):0<(Lib.itoa x).length:=by
 unfold Lib.itoa;split
 ·simp
 ·rw[Lib.decDigits];split<;>simp
set_option maxHeartbeats 4000000 in
set_option maxRecDepth 1000000 in
theorem qFi(n0:Nat)(b:Bool)(n:Nat)(f:Nat->Int)(w:World)(hlt:n0<w.heap.size)(h0:w.cell? ⟨n0,0,none⟩=some (.bool b))(h1:w.cell? ⟨n0,1,none⟩=some (.int .i64 (n:Int)))(hw:∀i,i<232->w.cell? ⟨n0,2+i,none⟩=some (.int .i64 (f i)))(hn:n<=232) (hf:∀i,i<n->0<=f i/\f i<1000000000) (ht:Lib.TabIs prog w "internal/strconv.uint64pow10" .u64 Lib.pow10Tab) :Calls prog 112 #[.pointer (some ⟨n0,0,none⟩)] w fun e w'=>e=.returned (.string ⟨(qA5 b n f).toArray⟩)/\Below w.heap.size w w':=by
 rcases qMz n with rfl|hpos
 ·go_enter func112,ntmps112
  go_wp2
  go_ret
  exact⟨rfl,Below.refl _ _⟩
 obtain⟨m,rfl⟩:∃m,n=m+1:=⟨n-1,by omega⟩;have hne:(((m+1:Nat):Int)==0)=false:=by simp;omega
 have w1:IntKind.i64.wrap (((m+1:Nat):Int)-1)=(m:Int):=by unfold IntKind.wrap;simp[IntKind.signed,IntKind.bits];omega
 have w1':IntKind.i64.wrap (m:Int)=(m:Int):=by unfold IntKind.wrap;simp[IntKind.signed,IntKind.bits];omega
 have hi:0<=(m:Int)/\(m:Int)<232:=by omega
 have hwm:=hw m (by omega);have w2:IntKind.i64.wrap (((m+1:Nat):Int)-2)=(m:Int)-1:=by unfold IntKind.wrap;simp[IntKind.signed,IntKind.bits];omega
 have hitm:=qzy (hf m (by omega));cases b
 case' false=>
  go_enter func112,ntmps112
  go_wp2
  have hB0:=Lib.fresh_isBuilder 210 5 w;have hb0:=(Below.refl w.heap.size w).alloc (qLs _) (.cells #[.pointer none,.slice none 0 0] 210);generalize w.alloc (.cells #[.pointer none,.slice none 0 0] 210)=W0 at *;obtain⟨pre,hpre⟩:∃pre:List UInt8,pre=if false=true then [45] else []:=⟨_,rfl⟩
  replace hB0:BtB w.heap.size w.heap.size (Lib.byteCells pre) W0:=by subst hpre;exact hB0
 case' true=>
  go_enter func112,ntmps112
  go_wp2_with (go_at_call 157;refine(qET w.heap.size w.heap.size [] 45 _ (Lib.fresh_isBuilder 210 5 w) (by simp) (by simp)).mono ?_)
  rintro e W0 ⟨rfl,hB0,hb0⟩;replace hb0:=((Below.refl w.heap.size w).alloc (qLs _) (.cells #[.pointer none,.slice none 0 0] 210)).trans hb0;obtain⟨pre,hpre⟩:∃pre:List UInt8,pre=if true=true then [45] else []:=⟨_,rfl⟩
  replace hB0:BtB w.heap.size w.heap.size (Lib.byteCells pre) W0:=by subst hpre;exact hB0
  go_wp2
 all_goals
  have hp1:pre.length<=1:=by subst hpre;split<;>simp
  have hs0:=hb0.size;have d1:=(qix hb0 hlt 1).trans h1;have dm:=(qix hb0 hlt (2+m)).trans hwm
  go_region_with (first
   | (go_at_call 153;refine(qzO (f m) (by have:=hf m (by omega);omega) _ (qq9 ht hb0.drew)).mono ?_;rintro e W1 ⟨rfl,b1⟩)
   | (go_at_call 158;refine(qEL w.heap.size w.heap.size _ _ _ (qwr (qFI hB0) b1) (qGi hp1 hitm) (qLu hs0 b1.size)).mono ?_;rintro e W2 ⟨rfl,hB2,b2⟩))
  have b02:Below w.heap.size w W2:=(hb0.drew.trans (b1.mono hs0)).trans b2;have e1:=(qix b02 hlt 1).trans h1;replace hB2:BtB w.heap.size w.heap.size (Lib.byteCells (pre++Lib.itoa (f m))) W2:=by rw[Lib.byteCells_append];exact hB2
  go_wp2
  go_loopw [4] (fun vi wr=>∃(k:Nat) (acc:qLp),vi=.int .i64 ((k:Int)-1)/\k<=m/\BtB w.heap.size w.heap.size (Lib.byteCells acc) wr/\Below w.heap.size w wr/\acc++qlt f k=pre++Lib.itoa (f m)++qlt f m/\acc.length<=10+9*(m-k)) (fun vi _=>(intOf vi+1).toNat)
  case atStart=>exact⟨m,_,by congr 1<;>omega,qLs _,hB2,b02,rfl,by simp;omega⟩
  case round=>
   obtain⟨k,acc,rfl,hkm,hI,hbw,hacc,hal⟩:=hrel;have hbs:=hbw.size;rcases qMz k with rfl|hk0
   ·go_wp2_with (go_at_call 159;refine(qB4 w.heap.size w.heap.size acc _ hI ?hne).mono ?_)
    case hne=>intro h0;subst h0;have:=congrArg List.length hacc;have h9:=qFE (f m);simp[qlt] at this;omega
    rintro e W3 ⟨rfl,b3⟩
    go_wp2
    go_ret
    refine⟨?_,hbw.trans b3⟩;simp only[qlt,qMC] at hacc;rw[hacc,hpre];simp[qA5]
   ·obtain⟨q,rfl⟩:∃q,k=q+1:=⟨k-1,by omega⟩;have x1:(((q+1:Nat):Int)-1)=(q:Int):=by omega
    have x2:(0:Int)<=(q:Int)/\(q:Int)<232:=by omega
    have x3:(q:Int).toNat=q:=qLD q;have dq:=(qix hbw hlt (2+q)).trans (hw q (by omega));have hq9:=qzy (hf q (by omega));rw[x1]
    go_wp2_with (go_at_call 153;refine(qzO (f q) (by have:=hf q (by omega);omega) _ (qq9 ht hbw)).mono ?_)
    rintro e W3 ⟨rfl,b3⟩;clear w1 w1' w2 hi hwm hne h1 hf hw ht;have hl9:((⟨(Lib.itoa (f q)).toArray⟩:ByteArray).size:Int)<=9:=by simp[ByteArray.size];omega
    go_wp2_with (go_at_call 158;refine(qEL w.heap.size w.heap.size (Lib.byteCells acc) _ _ (qwr hI b3) ?hl (qLu hbs b3.size)).mono ?_)
    case hl=>rw[qE4 hq9,Lib.byteCells_length];have:=qAa hq9;simp[ByteArray.size];omega
    rintro e W4 ⟨rfl,hB4,b4⟩;rw[qE4 hq9,qDo,<-Lib.byteCells_append] at hB4
    go_wp2
    go_roundw
    case rel=>
     refine⟨q,_,by congr 1<;>omega,by omega,hB4,(hbw.trans (b3.mono hbs)).trans b4,?_,?_⟩
     ·rw[<-hacc];simp[qlt]
     ·have:=qAa hq9;simp;omega
    case measure=>simp[intOf]
theorem qzZ(w:R):∀i,qmq w i=qlt (fun i=>cI w i 0) i
 | 0=>rfl
 | i+1=>by unfold qmq qlt;rw[qzZ w i]
theorem qFA(b:Bool)(n:Nat)(w:R):qCm b (n:Int) w=qA5 b n (fun i=>cI w i 0):=by
 unfold qCm qA5;by_cases h:n=0
 ·subst h;rfl
 ·rw[if_neg (by omega),if_neg h,qzZ];have e:((n:Int)-1)=((n-1:Nat):Int):=by omega
  rw[e,qLD]
theorem qDc{ps:List PV}(h:ps.map PV.kind=[.b,.i,.r]):∃b n w,ps=[.b b,.i n,.r w]:=by
 match ps,h with
 | [.b b,.i n,.r w],_=>exact⟨b,n,w,rfl⟩
theorem qAI{gl:List (Nat×AV)}(hg:(5,AV.eptr (Lib.pow10Tab.map fun _=>.int .u64) qGV 0 0)∈gl) :qQ prog gl 112 (q9 { args:=[.ptr 0 0],h:=[.big [.bool,.int .i64] .i64 232] } [{ res:=.str,h:=[.big [.bool,.int .i64] .i64 232] }] qEo):=
 qiP (uB func112 (by kernel_rfl) (by kernel_rfl)) rfl fun B X ps j qs vargs hs hgl hh ha hk hT=>by
  obtain⟨b,n,r,rfl⟩:=qDc hk;simp only[qEo] at hT;split at hT
  ·rename_i hc;cases hT;unfold quS at hc;simp only[qLN,decide_eq_true_eq,qLZ,qMK] at hc;obtain⟨⟨c1,c2⟩,c3⟩:=hc;obtain⟨m,rfl⟩:∃m:Nat,n=(m:Int):=⟨n.toNat,by omega⟩;have hb0:X.h[0]?=some (.big [.bool b,.int .i64 (m:Int)] .i64 232 r):=by rw[hh];rfl
   obtain⟨n0,c,T,vs,hσ,hheap,hrep,hcl,hrl⟩:=hs.blk 0 _ hb0;have hvs:vs=[.bool b,.int .i64 (m:Int)]:=by
    cases hrep with
    | cons h t=>cases h;rw[qA1 t]
   subst hvs;have hva:vargs=[.pointer (some ⟨n0,0,none⟩)]:=by
    cases ha with
    | cons h t=>
     cases t;cases h with
     | ptr _ _ n1 hb hσ2=>
      have:n1=n0:=qMd (hσ2.symm.trans hσ);rw[this]
   subst hva;have hlt:n0<X.w.heap.size:=(qLw.1 hheap).1;have hcell:∀o,X.w.cell? ⟨n0,o,none⟩=c[o]?:=fun o=>by unfold World.cell?;simp only[hheap];rfl
   have g0:X.w.cell? ⟨n0,0,none⟩=some (.bool b):=by rw[hcell,<-qNC,hcl];rfl
   have g1:X.w.cell? ⟨n0,1,none⟩=some (.int .i64 (m:Int)):=by rw[hcell,<-qNC,hcl];rfl
   have gw:∀i,i<232->X.w.cell? ⟨n0,2+i,none⟩=some (.int .i64 (cI r (i:Int) 0)):=fun i hi=>by rw[hcell];exact qv7 (vs:=[.bool b,.int .i64 (m:Int)]) hcl (by omega)
   refine⟨rfl,rfl,rfl,?_⟩;have hT:=qq5 (k:=.u64) (zs:=Lib.pow10Tab) (show prog.globalNamed "internal/strconv.uint64pow10" = some 5 by kernel_rfl) (by decide) (hgl _ hg).2;refine(qFi n0 b m (fun i=>cI r (i:Int) 0) X.w hlt g0 g1 gw (by omega) (fun i hi=>c3 i (by omega)) hT).mono fun e w' ⟨k1,k2⟩=>⟨_,k1,k2,?_⟩;rw[<-qFA];exact .str _
  ·cases hT
end Go.Eng

namespace Go.Eng
open Go.Shelf Go.RowKit Go.Lib Go.Proofs
def qzY:FIn:=⟨[(.imm [(.int .i64)])],[]⟩
def qw7(e:TypeId):List FOut:=[⟨(.vec 0),[.vec e [(.int .i64)]],none⟩]
def qBN:List PV->TR
 | [.r x]=>.br (ile (qm x) 17592186044416) (.leaf (0,[.r x])) .fail
 | _=>.fail
theorem qBm{args:List AV}{h:List Blk}{ps:List PV}(hp:qzY.take args h=some ps):∃l,(args=[.imm [.int .i64] l]\/(args=[.nils]/\l=[]))/\h=[]/\ps=[.r l]:=by
 unfold FIn.take qzY at hp;obtain⟨x,y,g1,g2,rfl⟩:=q1a hp;have hh:h=[]/\y=[]:=by
  cases h with
  | nil=>simp only[BP.takeL] at g2;cases g2;exact⟨rfl,rfl⟩
  | cons b t=>simp only[BP.takeL] at g2;cases g2
 obtain⟨rfl,rfl⟩:=hh;cases args with
 | nil=>simp only[AP.takeL] at g1;cases g1
 | cons a t=>
  simp only[AP.takeL] at g1;obtain⟨x1,x2,q1,q2,rfl⟩:=q1a g1;cases t with
  | cons b t=>simp only[AP.takeL] at q2;cases q2
  | nil=>
   simp only[AP.takeL] at q2;cases q2;cases a with
   | imm sh l=>
    simp only[AP.take] at q1;split at q1
    ·rename_i he;cases q1;obtain rfl:=Sh.beqL_eq _ _ he;exact⟨l,.inl rfl,rfl,rfl⟩
    ·cases q1
   | nils=>
    simp only[AP.take] at q1;cases q1;exact⟨[],.inr ⟨rfl,rfl⟩,rfl,rfl⟩
   | _=>exact absurd q1 (by simp[AP.take])
theorem qtc(e:TypeId){T:List PV->TR}{x y:R}(h:(T [.r x]).run=some (0,[.r y])){r:AV×List Blk}:(qC3 (T [.r x]) (qw7 e) 0).run=some r↔r=(.vec 0,[.vec e [.int .i64] y]):=by
 have h1:(qC3 (T [.r x]) (qw7 e) 0).run=some ((.vec 0,[.vec e [.int .i64] (gR (T [.r x]) 0)]):AV×List Blk):=rfl;have h2:gR (T [.r x]) 0=y:=by unfold gR pR;rw[h];rfl
 rw[h1,h2];constructor
 ·intro q;cases q;rfl
 ·intro q;rw[q]
theorem qBx{P:Program}{ρ:Ren}(L:SlLaysN.n41 P ρ){gl:List (Nat×AV)}{T:List PV->TR}(h0:qQ P gl (ρ.f 41) (q9 qzY (qw7 (ρ.t 23)) T))(hT:∀x,0<qm x->qm x<=17592186044416->(T [.r x]).run=some (0,[.r x])):qQ P gl (ρ.f 41) (q9 qzY (qw7 (ρ.t 23)) qBN):=by
 refine⟨h0.1,fun B X args vargs r hs hen hgl ha hr=>?_⟩;obtain⟨ps,j,qs,h1,h2,h3⟩:=qlZ hr;obtain⟨l,hargs,hX,rfl⟩:=qBm h1;have h2':Tree.run (Tree.br (ile (qm l) 17592186044416) (.leaf ((0,[PV.r l]):Nat×List PV)) .fail)=some (j,qs):=h2;have g1:ile (qm l) 17592186044416=true:=by
  cases hb:ile (qm l) 17592186044416 with
  | true=>rfl
  | false=>rw[hb] at h2';cases h2'
 have hle:qm l<=17592186044416:=of_decide_eq_true g1;have hrr:=(qtc (ρ.t 23) (T:=qBN) (x:=l) (y:=l) (by show Tree.run (.br (ile (qm l) 17592186044416) (.leaf (0,[PV.r l])) .fail)=_;rw[show ile (qm l) 17592186044416=true from g1];rfl)).1 h3;by_cases hpos:0<qm l
 ·refine h0.2 B X _ vargs r hs hen hgl ha ?_;have hrun:=hT l hpos hle;have hok:okR (T [.r l])=true:=by unfold okR;rw[hrun];rfl
  unfold q9;rw[h1];show Tree.run (.br (okR (T [.r l])) (qC3 (T [.r l]) (qw7 (ρ.t 23)) 0) .fail)=_;rw[hok];exact(qtc (ρ.t 23) hrun).2 hrr
 ·have hl:l=[]:=qNd (by unfold qm at hpos;omega);subst hl;subst hrr;have hv:∃v,vargs=[v]/\qfC X.w X.M [.int .i64] [] v:=by
   rcases hargs with rfl|⟨rfl,_⟩
   ·cases ha with
    | cons hv ht=>
     cases ht;cases hv with
     | imm _ _ v himm=>exact⟨_,rfl,himm⟩
   ·cases ha with
    | cons hv ht=>
     cases ht;cases hv;exact⟨_,rfl,.inl ⟨rfl,rfl⟩⟩
  obtain⟨v,rfl,himm⟩:=hv
  ·rcases himm with⟨rfl,_⟩|⟨a,cap,rfl,_⟩
   ·refine(AnyG.slices_Clone_int_nil L 0 0 X.w).mono fun x w' ⟨e1,e2⟩=>?_;subst e2;have hpw:=PushW.same X;refine⟨.slice none 0 0,X.pushW (.vec (ρ.t 23) [.int .i64] []) none X.w,e1,rfl,?_,by show X.h++_=_;rw[hX];rfl,hs.push hpw (.inl ⟨by simp[Ctx.pushW],rfl⟩),rfl⟩;have e0:(0:Nat)=X.h.length:=by rw[hX];rfl
    show Rep _ (.vec 0) _;rw[e0];exact .vec _ _ _ _ (by simp[Ctx.pushW]) fun sh' m' _=>by unfold qvs;simp[Ctx.pushW,hX]
   ·refine(AnyG.slices_Clone_int_zero L a cap X.w).mono fun x w' ⟨v,e1,e2,e3,e4⟩=>?_;rcases e2.2 with⟨q,_⟩|⟨g,c2,cur,q1,q2,q3,q4,q5,q6,q7⟩
    ·exact absurd q e3
    ·have hpw:PushW X (some g) w':=⟨fun m hm=>e4.block m hm,e4.size,e4.os,e4.tape,e4.output,fun m h=>by cases h;exact q2⟩;have hk:jJ (X.pushW (.vec (ρ.t 23) [.int .i64] []) (some g) w') X.h.length (.vec (ρ.t 23) [.int .i64] []):=
      .inr ⟨g,cur,by simp[Ctx.pushW],q3,fun r j hj hr=>absurd hr (qNw r)⟩
     refine⟨v,X.pushW (.vec (ρ.t 23) [.int .i64] []) (some g) w',e1,rfl,?_,by show X.h++_=_;rw[hX];rfl,hs.push hpw hk,rfl⟩;have e0:(0:Nat)=X.h.length:=by rw[hX];rfl
     show Rep _ (.vec 0) _;rw[e0,q1];exact qq2 (l:=[]) (qMY _) q5 q3 (by rw[q6];rfl)
theorem qGe{T:List PV->TR}(h:∀x:R,T [.r x]=.br (ilt 0 (qm x)) (.br (ile ((qm [])+(qm x)) 17592186044416) (.leaf (0,[(.r (kN [] x))])) .fail) .fail)(x:R)(h1:0<qm x)(h2:qm x<=17592186044416) :(T [.r x]).run=some (0,[.r x]):=by have e1:ilt 0 (qm x)=true:=decide_eq_true h1;have e2:ile ((qm [])+(qm x)) 17592186044416=true:=decide_eq_true (by have:qm ([]:R)=0:=rfl;rw[this,Int.zero_add];exact h2);rw[h,e1,e2];rfl
end Go.Eng

namespace Go.Eng
open Go.RowKit
variable {P:Program}{a:Act}{o:Oper}{v:Value}{w:World}{w':World}
theorem qDS {K:Act->World->Prop}{Q:Exit->Act->World->Prop}{E:Prop}(hg:o.guard=none){y:Nat->Option Bool}(h:Oper.wp P o a w K Q) :if Region.wanted o y=true then Oper.wp P o a w K Q else E:=by
 have hw:Region.wanted o y=true:=by simp[Region.wanted,hg]
 rw[if_pos hw];exact h
theorem qqa {ops:Array Oper}{K:Act->World->Prop}{Q:Exit->Act->World->Prop}{E:Prop}(hg:o.guard=none) (s x:Operand) (t:TypeId) (ho:o.op=.call { callee:=.builtin .append,args:=#[s,x],argTypes:=#[t,t] })(base:Nat) (e:TypeId) (i:TypeInfo) (z:Value) (size bytes:Nat) (ht:P.underlying t=some (.slice e)) (hi:P.info? e=some i) (hz:i.zero=some z)(hsize:i.size=size) (hby:i.bytes=bytes) (hzs:z.cells.size=size) (hsz:0<size)(v:Value) (n:Nat) (xs:List Value) (hs:a.eval s=v) (hown:w.ownsRow base e size v n xs)(ad:Addr) (m c:Nat) (news:List Value) (hx:a.eval x=.slice (some ad) m c) (hl:news.length=m*size) (hnews:∀j u,news[j]?=some u->w.cell? (ad.add j)=some u) (h1:∀u∈news,u.oneCell'=true)(h63:n+m<=maxLen) (hbytes:(n+m)*bytes<=140737488355328) (hbase:base<=w.heap.size)(h:∀v' w',w'.ownsRow base e size v' (n+m) (xs++news)->w.grownBy w' v.ownBlock->(v'=.slice none 0 0↔v=.slice none 0 0/\m=0)->K (a.put o.dst v') w') :if Region.wanted o (yielded ops a.tmps)=true then Oper.wp P o a w K Q else E:=by
 have hw:Region.wanted o (yielded ops a.tmps)=true:=by simp[Region.wanted,hg]
 rw[if_pos hw];exact wp_append_own w s x t ho base e i z size bytes ht hi hz hsize hby hzs hsz v n xs hs hown ad m c news hx hl hnews h1 h63 hbytes hbase h
theorem qzc {K:Act->World->Prop}{Q:Exit->Act->World->Prop}(f:FuncId)(caps:Array Value)(hen:qcs P f)(x:Operand)(az:Array Operand)(ts:Array TypeId)(ho:o.op=.call { callee:=.value x,args:=az,argTypes:=ts }) (hx:a.eval x=.func (.func f) #[] caps) (args:Array Value) (has:az.map a.eval++caps=args) {R:Ending->World->Prop} (hc:Calls P f args w R)(h:∀e w',R e w'->∃v,e=.returned v/\K (a.put o.dst v) w'):Oper.wp P o a w K Q:=by
 have hr:(execOp a.eval o).run P w=.ok (.enter f args) w:=by subst has;unfold execOp;simp only[ho,resolve,Deferred.ofValue,invoke,qLv,qM1,qLA,hx,Array.empty_append];exact hen _ _
 unfold Oper.wp;rw[hr,Oper.upon_enter];exact hc.mono fun e w' hR=>by obtain⟨v,rfl,hK⟩:=h e w' hR;exact hK
theorem qCN {ops:Array Oper}{K:Act->World->Prop}{Q:Exit->Act->World->Prop}{E:Prop}(hg:o.guard=none)(f:FuncId)(caps:Array Value)(hen:qcs P f)(x:Operand)(az:Array Operand)(ts:Array TypeId)(ho:o.op=.call { callee:=.value x,args:=az,argTypes:=ts }) (hx:a.eval x=.func (.func f) #[] caps) (args:Array Value) (has:az.map a.eval++caps=args) {R:Ending->World->Prop} (hc:Calls P f args w R)(h:∀e w',R e w'->∃v,e=.returned v/\K (a.put o.dst v) w'):if Region.wanted o (yielded ops a.tmps)=true then Oper.wp P o a w K Q else E:=by
 have hw:Region.wanted o (yielded ops a.tmps)=true:=by simp[Region.wanted,hg]
 rw[if_pos hw];exact qzc f caps hen x az ts ho hx args has hc h
theorem qCG {ad:Addr}{u:Value}(h:w'.cell? ad=some u):∀(j:Nat) (v:Value),[u][j]?=some v->w'.cell? (ad.add j)=some v:=by
 intro j v hj
 match j,hj with
 | 0,hj=>simp at hj;subst hj;simpa[Addr.add] using h
theorem quh (w:World)(u:Value)(e:TypeId):(w.alloc (.cells #[u] e)).cell? ⟨w.heap.size,0,none⟩=some u:=by rw[cell_of_row (w.alloc (.cells #[u] e)) w.heap.size 0 #[u] e (0,0) (heap_alloc_new w _)];rfl
theorem q62 {B:Nat}{e:TypeId}{z n:Nat}{xs:List Value}(h:w.ownsRow B e z v n xs):∃ao n' cap,v=.slice ao n' cap:=by
 rcases h.2 with⟨hv,_⟩|⟨g,cap,cur,hv,_⟩
 ·exact⟨_,_,_,hv⟩
 ·exact⟨_,_,_,hv⟩
theorem qz2 {l:List Bs}:∀u∈l.map q0s,u.oneCell'=true:=fun u hu=>by obtain⟨x,_,rfl⟩:=qMi.1 hu;rfl
structure MSt (B m q:Nat) (tM tE:TypeId) (w0 w:World) (r c:Nat) (v:Value) (xs:List Bs):Prop where
 bm:B<=m
 st:w.heap[m]?=some (.cells #[qmE r,qmE c,v] tM (0,0))
 res:w.heap[q]?=some (.cells #[qmE 0,qmE 0,.slice none 0 0] tM (0,0))
 mq:m≠q
 own:w.ownsRow B tE 1 v xs.length (xs.map q0s)
 ne:tM≠tE
 below:Below B w0 w
section
variable {B m q:Nat} {tM tE:TypeId} {w0 w:World} {r c:Nat} {v:Value} {xs:List Bs}
theorem MSt.lt (h:MSt B m q tM tE w0 w r c v xs):m<w.heap.size:=(qLw.1 h.st).1
theorem MSt.cell (h:MSt B m q tM tE w0 w r c v xs):w.cell? ⟨m,0,none⟩=some (qmE r)/\w.cell? ⟨m,1,none⟩=some (qmE c)/\w.cell? ⟨m,2,none⟩=some v:=by refine⟨?_,?_,?_⟩<;>rw[cell_of_row w m _ _ tM (0,0) h.st]<;>rfl
theorem MSt.cellq (h:MSt B m q tM tE w0 w r c v xs):w.cell? ⟨q,0,none⟩=some (qmE 0)/\w.cell? ⟨q,1,none⟩=some (qmE 0)/\w.cell? ⟨q,2,none⟩=some (.slice none 0 0):=by refine⟨?_,?_,?_⟩<;>rw[cell_of_row w q _ _ tM (0,0) h.res]<;>rfl
theorem MSt.free (h:MSt B m q tM tE w0 w r c v xs)(o:Nat):w.frozen? ⟨m,o,none⟩=false:=frozen_of_row w m o _ tM h.st
theorem MSt.freeq (h:MSt B m q tM tE w0 w r c v xs)(o:Nat):w.frozen? ⟨q,o,none⟩=false:=frozen_of_row w q o _ tM h.res
theorem MSt.grow (h:MSt B m q tM tE w0 w r c v xs)(hb:Below w.heap.size w w')(hB:B<=w.heap.size):MSt B m q tM tE w0 w' r c v xs:=⟨h.bm,by rw[hb.block m h.lt];exact h.st,by rw[hb.block q (qLw.1 h.res).1];exact h.res,h.mq,q1k h.own hb,h.ne,h.below.trans (hb.mono hB)⟩
theorem MSt.hB (h:MSt B m q tM tE w0 w r c v xs)(h0:B<=w0.heap.size):B<=w.heap.size:=qLu h0 h.below.size
theorem MSt.keep (h:MSt B m q tM tE w0 w r c v xs)(hg:w.grownBy w' v.ownBlock):w'.heap[m]?=some (.cells #[qmE r,qmE c,v] tM (0,0))/\w'.heap[q]?=some (.cells #[qmE 0,qmE 0,.slice none 0 0] tM (0,0)):=by
 have key:∀(b:Nat) (cs:Array Value),w.heap[b]?=some (Obj.cells cs tM (0,0))->w'.heap[b]?=some (Obj.cells cs tM (0,0)):=fun b cs hb=>by rw[hg.block b (qLw.1 hb).1 (fun hv=>by obtain⟨c2,hc2⟩:=zC h.own hv.symm;exact qca hb hc2 h.ne rfl)];exact hb
 exact⟨key _ _ h.st,key _ _ h.res⟩
theorem MSt.keepCell (h:MSt B m q tM tE w0 w r c v xs)(hg:w.grownBy w' v.ownBlock):w'.cell? ⟨m,2,none⟩=some v/\w'.frozen? ⟨m,2,none⟩=false:=⟨by rw[cell_of_row w' m _ _ tM (0,0) (h.keep hg).1];rfl,frozen_of_row w' m _ _ tM (h.keep hg).1⟩
theorem MSt.app (h:MSt B m q tM tE w0 w r c v xs){v':Value}{ys:List Bs}(hg:w.grownBy w' v.ownBlock)(hB:B<=w.heap.size)(ho:w'.ownsRow B tE 1 v' ys.length (ys.map q0s)) :MSt B m q tM tE w0 (w'.setCell ⟨m,2,none⟩ v') r c v' ys:=by obtain⟨hm,hq⟩:=h.keep hg;refine⟨h.bm,by rw[heap_setCell_same w' m 2 _ tM _ hm];rfl,by rw[heap_setCell_other w' ⟨m,2,none⟩ q _ h.mq.symm];exact hq,h.mq,qK ho (fun hv=>?_) _,h.ne,(h.below.grown hg hB (fun k hk=>(h.own.lt k hk).1)).setCell h.bm v'⟩;obtain⟨c1,hc1⟩:=zC ho hv;exact qca hm hc1 h.ne rfl
end
theorem MSt.fin {B m q:Nat}{tM tE:TypeId}{w0 w:World}{r c:Nat}{xs:List Bs}(h:MSt B m q tM tE w0 w r c v xs)(hq:B<=q)(x y z:Value) :Below B w0 (((w.setCell ⟨q,0,none⟩ x).setCell ⟨q,1,none⟩ y).setCell ⟨q,2,none⟩ z)/\(((w.setCell ⟨q,0,none⟩ x).setCell ⟨q,1,none⟩ y).setCell ⟨q,2,none⟩ z).ownsRow B tE 1 v xs.length (xs.map q0s):=by
 have hn:v.ownBlock≠some q:=fun hv=>by obtain⟨c1,hc1⟩:=zC h.own hv;exact qca h.res hc1 h.ne rfl
 exact⟨((h.below.setCell hq x).setCell hq y).setCell hq z,qK (qK (qK h.own hn x) hn y) hn z⟩
theorem jE (w:World)(o:Obj):(w.alloc o).heap.size=w.heap.size+1:=by show (w.heap.push o).size=_;rw[Array.size_push]
theorem qjd (w:World)(o o':Obj):((w.alloc o).alloc o').heap[w.heap.size]?=some o:=by show ((w.alloc o).heap.push o')[w.heap.size]?=_;rw[Array.getElem?_push_lt (by rw[jE];omega)];have:=heap_alloc_new w o;rw[qNf (by rw[jE];omega)] at this;exact this
theorem MSt.start (w:World)(tM tE:TypeId)(hne:tM≠tE)(r c:Nat)(o:Obj)(ho:o=.cells #[qmE 0,qmE 0,.slice none 0 0] tM)(o':Obj)(ho':o'=.cells #[qmE r,qmE c,.slice none 0 0] tM) :MSt w.heap.size (w.heap.size+1) w.heap.size tM tE w ((w.alloc o).alloc o') r c (.slice none 0 0) []:=by
 subst ho;subst ho';have h1:(w.alloc (.cells #[qmE 0,qmE 0,.slice none 0 0] tM)).heap.size=w.heap.size+1:=jE _ _;refine⟨by omega,?_,?_,by omega,World.ownsRow_nil _ _ _ _,hne,((Below.refl w.heap.size w).alloc (qLs _) _).alloc (by omega) _⟩
 ·rw[<-h1];exact heap_alloc_new _ _
 ·show ((w.alloc _).heap.push _)[w.heap.size]?=_;rw[Array.getElem?_push_lt (by omega)];have:=heap_alloc_new w (.cells #[qmE 0,qmE 0,.slice none 0 0] tM);rw[qNf (by omega)] at this;exact this
def mkL(F:Nat->Nat->Bs)(c:Nat):Nat->List Bs
 | 0=>[]
 | i+1=>mkL F c i++(List.range c).map (F i)
theorem qhc(F:Nat->Nat->Bs)(c:Nat):∀i,(mkL F c i).length=i*c
 | 0=>by simp[mkL]
 | i+1=>by rw[mkL,qLR,qhc F c i];simp[qLH]
theorem qxX(F:Nat->Nat->Bs)(c:Nat):∀(n i k:Nat),i<n->k<c->(mkL F c n)[i*c+k]?=some (F i k)
 | 0,i,k,h,_=>by omega
 | n+1,i,k,h,hk=>by
  rw[mkL];by_cases hi:i<n
  ·have:i*c+k<n*c:=by have:=qLT c (show i+1<=n by omega);rw[qLH] at this;omega
   rw[qLB (by rw[qhc];exact this)];exact qxX F c n i k hi hk
  ·have:i=n:=by omega
   subst this;rw[qLP (by rw[qhc];omega),qhc,show i*c+k-i*c=k by omega];simp[hk]
theorem Sch.addRow {B S:Nat}{tS tR tE tI:TypeId}{N C:Nat}{ek K vR vL:Value}{H:List Value}{Z:Mx}{det:Bs}{lead:List Nat}(h:Sch B S tS tR tE tI N C ek K w vR vL H Z det lead){w':World} {vR' hd:Value} {row:List Bs} (hr:w.ownsRow B tE 1 hd C (row.map q0s)) (hnew:∀(j:Nat) (a:Value) (b:Nat),H[j]?=some a->a.ownBlock=some b->hd.ownBlock≠some b) (hg:w.grownBy w' vR.ownBlock) (ho:w'.ownsRow B tR 1 vR' (N+1) (H++[hd])) :Sch B S tS tR tE tI (N+1) C ek K (w'.setCell ⟨S,1,none⟩ vR') vR' vL (H++[hd]) (Z++[row]) det lead:=by
 have hrl:row.length=C:=by have:=hr.1;rw[qLF] at this;omega
 have hb:∀b,(∃(cur:Array Value) (e:TypeId),w.heap[b]?=some (Obj.cells cur e (0,0))/\e≠tR)->w'.heap[b]?=w.heap[b]?:=fun b ⟨cur,e,hc,hne⟩=>hg.block b (qLw.1 hc).1 (fun hv=>by obtain⟨c2,hc2⟩:=zC h.outer hv.symm;exact qca hc hc2 hne rfl);have hS:w'.heap[S]?=some (.cells #[ek,vR,K,vL,q0s det] tS (0,0)):=by rw[hb S ⟨_,_,h.st,h.ne.1⟩];exact h.st
 have keep:∀{e:TypeId} {n:Nat} {a:Value} {xs:List Value},e≠tR->tS≠e->w.ownsRow B e 1 a n xs->(w'.setCell ⟨S,1,none⟩ vR').ownsRow B e 1 a n xs:=by
  intro e n a xs hne hSe hr;have h1:w'.ownsRow B e 1 a n xs:=hr.kept hg (by
   cases hv:a.ownBlock with
   | none=>exact .inl rfl
   | some b=>
    right;intro he;obtain⟨c1,hc1⟩:=zC hr hv;obtain⟨c2,hc2⟩:=zC h.outer he.symm;exact qca hc1 hc2 hne rfl)
  refine qK h1 (fun hv=>?_) _;obtain⟨c1,hc1⟩:=zC h1 hv;exact qca hS hc1 hSe rfl
 have hl:=h.hlen;have hz:=h.dim.n;have key:∀j a,(H++[hd])[j]?=some a->(j<N/\H[j]?=some a/\(Z++[row])[j]?=Z[j]?)\/(j=N/\a=hd/\(Z++[row])[j]?=some row):=by
  intro j a hj;by_cases hjn:j<N
  ·rw[qLB (by omega)] at hj;exact .inl ⟨hjn,hj,qLB (by omega)⟩
  ·have:j<(H++[hd]).length:=(qNb.1 hj).1;rw[qLR,List.length_singleton] at this;have:j=N:=by omega
   subst this;rw[qLP (by omega),show j-H.length=0 by omega] at hj;simp at hj;exact .inr ⟨rfl,hj.symm,by rw[qLP (by omega),show j-Z.length=0 by omega];rfl⟩
 refine⟨h.bs,by rw[heap_setCell_same w' S 1 _ tS _ hS];rfl,⟨by simp[hz],fun r hr'=>?_⟩,qK ho (fun hv=>?_) _,fun j a r e1 e2=>?_,keep h.ne.2.2.2.2.1.symm h.ne.2.2.1 h.own,fun i j a a' b hij e1 e2 e3=>?_,h.ne⟩
 ·rcases qLV.1 hr' with hr'|hr'
  ·exact h.dim.c r hr'
  ·rw[qLY.1 hr'];exact hrl
 ·obtain⟨c1,hc1⟩:=zC ho hv;exact qca hS hc1 h.ne.1 rfl
 ·rcases key j a e1 with⟨q1,q2,q3⟩|⟨_,q2,q3⟩
  ·rw[q3] at e2;exact keep h.ne.2.2.2.1.symm h.ne.2.1 (h.inner j a r q2 e2)
  ·rw[q3] at e2;cases e2;subst q2;exact keep h.ne.2.2.2.1.symm h.ne.2.1 hr
 ·rcases key i a e1 with⟨q1,q2,_⟩|⟨q1,q2,_⟩
  ·rcases key j a' e2 with⟨p1,p2,_⟩|⟨p1,p2,_⟩
   ·exact h.ap i j a a' b hij q2 p2 e3
   ·subst p2;exact hnew i a b q2 e3
  ·rcases key j a' e2 with⟨p1,p2,_⟩|⟨p1,p2,_⟩
   ·subst q2;intro hb';exact hnew j a' b p2 hb' e3
   ·omega
theorem q5E {B B':Nat}{e:TypeId}{z n:Nat}{xs:List Value}(h:w.ownsRow B e z v n xs)(hB:B'<=B):w.ownsRow B' e z v n xs:=by
 refine⟨h.1,?_⟩;rcases h.2 with h|⟨g,c,cur,a1,a2,a3⟩
 ·exact .inl h
 ·exact .inr ⟨g,c,cur,a1,by omega,a3⟩
theorem Sch.start {B S:Nat}{tS tR tE tI:TypeId}{C:Nat}{ek K:Value}{det:Bs}(bs:B<=S)(st:w.heap[S]?=some (.cells #[ek,.slice none 0 0,K,.slice none 0 0,q0s det] tS (0,0)))(ne:tS≠tR/\tS≠tE/\tS≠tI/\tR≠tE/\tR≠tI/\tE≠tI):Sch B S tS tR tE tI 0 C ek K w (.slice none 0 0) (.slice none 0 0) [] [] det []:=⟨bs,st,⟨rfl,fun r hr=>(by cases hr)⟩,World.ownsRow_nil _ _ _ _,fun j h r e1 _=>(by simp at e1),World.ownsRow_nil _ _ _ _,fun i j h h' b _ e1 _ _=>(by simp at e1),ne⟩
theorem Sch.heads {B S:Nat}{tS tR tE tI:TypeId}{N C:Nat}{ek K vR vL:Value}{H:List Value}{Z:Mx}{det:Bs}{lead:List Nat}(h:Sch B S tS tR tE tI N C ek K w vR vL H Z det lead){w':World} {e:TypeId} {z n:Nat} {hd:Value} {xs:List Value} (ho:w'.ownsRow w.heap.size e z hd n xs):∀(j:Nat) (a:Value) (b:Nat),H[j]?=some a->a.ownBlock=some b->hd.ownBlock≠some b:=by
 intro j a b hj ha hb;have hjN:j<N:=by have:=(qNb.1 hj).1;rw[h.hlen] at this;exact this
 obtain⟨hd',r,e1,_,e3⟩:=h.hrow hjN;rw[hj] at e1;cases e1;have:=e3.lt b ha;have:=ho.lt b hb;omega
theorem qA8 {w w':World}{B:Nat}{t tR:TypeId}{z n b:Nat}{xs:List Value}{cs:Array Value}(ho:w.ownsRow B tR z v n xs)(hb:w.heap[b]?=some (.cells cs t (0,0)))(hne:t≠tR)(hg:w.grownBy w' v.ownBlock):w'.heap[b]?=some (.cells cs t (0,0)):=by rw[hg.block b (qLw.1 hb).1 (fun hv=>by obtain⟨c2,hc2⟩:=zC ho hv.symm;exact qca hb hc2 hne rfl)];exact hb
theorem q6H {b:Nat}{x y z:Value}{t:TypeId}(h:w.heap[b]?=some (.cells #[x,y,z] t (0,0))):w.cell? ⟨b,0,none⟩=some x/\w.cell? ⟨b,1,none⟩=some y/\w.cell? ⟨b,2,none⟩=some z:=by refine⟨?_,?_,?_⟩<;>rw[cell_of_row w b _ _ t (0,0) h]<;>rfl
theorem Sch.rowCell {B S:Nat}{tS tR tE tI:TypeId}{N C:Nat}{ek K vR vL:Value}{H:List Value}{Z:Mx}{det:Bs}{lead:List Nat}(h:Sch B S tS tR tE tI N C ek K w vR vL H Z det lead)(hg:w.grownBy w' vR.ownBlock) :w'.cell? ⟨S,1,none⟩=some vR/\w'.frozen? ⟨S,1,none⟩=false:=by have hS:=qA8 h.outer h.st h.ne.1 hg;exact⟨by rw[cell_of_row w' S 1 _ tS (0,0) hS];rfl,frozen_of_row w' S 1 _ tS hS⟩
end Go.Eng

namespace Go.Eng
open Go.RowKit Go.Proofs
open Tryz
theorem qlC{n:Int}(h:-9223372036854775808<=n/\n<=9223372036854775807):wrap64 n=n:=by unfold wrap64;omega
set_option maxHeartbeats 2000000 in
set_option maxRecDepth 100000 in
theorem qKD(i k:Nat)(_:i<=1000)(hk:k<=1000)(w:World) :Calls prog 207 #[.int .i64 i,.int .i64 k] w fun e w'=>e=.returned (q0s (if i=k then [49] else [48]))/\w'=w:=by
 have hs:q0s (if i=k then [49] else [48])=if i=k then .string ⟨#[49]⟩ else .string ⟨#[48]⟩:=by split<;>rfl
 rw[hs]
 go_enter func207,ntmps207
 by_cases h:i=k
 ·subst h
  go_wp2
  go_ret
  exact⟨rfl,rfl⟩
 ·have hb:((i:Int)==(k:Int))=false:=by simp;omega
  go_wp2
  go_ret
  exact⟨rfl,rfl⟩
set_option maxHeartbeats 2000000 in
set_option maxRecDepth 100000 in
theorem qL3(b5 b1 g L cap i n:Nat)(w:World)(h5:w.cell? ⟨b5,2,none⟩=some (.slice (some ⟨g,0,none⟩) L cap))(h1:w.cell? ⟨b1,0,none⟩=some (qmE n))(hi:i<=1000)(hn:0<n)(hn2:n<=1000)(hL:(i+1)*n<=L)(hc:L<=cap) :Calls prog 176 #[.int .i64 i,.pointer (some ⟨b5,0,none⟩),.pointer (some ⟨b1,0,none⟩)] w fun e w'=>e=.returned (.slice (some ⟨g,i*n,none⟩) n (cap-i*n))/\w'=w:=by
 unfold qmE at h1;obtain⟨lo,hlo⟩:∃lo,lo=i*n:=⟨_,rfl⟩;have hm:i*n<=1000*1000:=qMk hi hn2;have hhi:(i+1)*n=lo+n:=by rw[hlo,qLH,qNa]
 have e1:wrap64 ((i:Int)*(n:Int))=(lo:Int):=by rw[hlo,qlC (by rw[<-qMj];omega)];simp
 have e2:wrap64 (((i:Int)+1)*(n:Int))=((lo+n:Nat):Int):=by
  have:((i:Int)+1)*(n:Int)=((lo+n:Nat):Int):=by rw[<-hhi];simp
  rw[this,qlC (by omega)]
 rw[hhi] at hL;rw[<-hlo];have g1:¬cap=lo:=by omega
 clear hm hhi hlo
 go_enter func176,ntmps176
 go_wp2
 go_ret
 rw[Nat.add_sub_cancel_left];exact⟨rfl,rfl⟩
set_option maxHeartbeats 4000000 in
set_option maxRecDepth 1000000 in
theorem qCd(g:Nat)(hen:qcs prog g)(caps:Array Value)(r c:Nat)(hr:r<=16)(hc:c<=16)(F:Nat->Nat->Bs)(w:World)(hF:∀i k w',i<r->k<c->Below w.heap.size w w'->Calls prog g (#[.int .i64 i,.int .i64 k]++caps) w' fun e w''=>e=.returned (q0s (F i k))/\Below w'.heap.size w' w'') :Calls prog 171 #[.int .i64 r,.int .i64 c,.func (.func g) #[] caps] w fun e w'=>∃v,e=.returned (.agg #[.int .i64 r,.int .i64 c,v])/\Below w.heap.size w w'/\w'.ownsRow w.heap.size 30 1 v (r*c) ((mkL F c r).map q0s):=by
 obtain⟨i0,hi,hz0,hz1,hz2⟩:=info_parts (show (prog.info? 30).map (fun i=>(i.zero,i.size,i.bytes))=some (some (.string ⟨#[]⟩),1,16) by kernel_rfl);obtain⟨B,hB⟩:∃B,B=w.heap.size:=⟨_,rfl⟩;have HF:=Lib.hid hF;clear hF
 go_enter func171,ntmps171
 go_wp2
 go_loopg [14] r (fun g i wr=>∃(ii:Nat) (v:Value),ii<=r/\g=r-ii/\i=.int .i64 ii/\MSt w.heap.size (w.heap.size+1) w.heap.size 174 30 w wr r c v (mkL F c ii))
 case atStart=>exact⟨0,.slice none 0 0,by omega,by omega,rfl,MSt.start w 174 30 (by decide) r c _ rfl _ rfl⟩
 case round=>
  obtain⟨ii,v,hii,rfl,rfl,hM⟩:=hrel;by_cases hlt:ii<r
  ·have HM:=Lib.hid hM;clear hM
   go_wp2
   go_loopg [18] c (fun g k wx=>∃(kk:Nat) (v:Value),kk<=c/\g=c-kk/\k=.int .i64 kk/\MSt w.heap.size (w.heap.size+1) w.heap.size 174 30 w wx r c v (mkL F c ii++(List.range kk).map (F ii)))
   case atStart=>exact⟨0,v,by omega,rfl,rfl,by simpa using HM.out⟩
   case round=>
    clear HM;obtain⟨kk,v,hkk,rfl,rfl,hM⟩:=hrel;have HM:=Lib.hid hM;by_cases hk:kk<c
    ·have c2:=hM.cell.2.2;have hW:Below w.heap.size w wr.drew:=hM.below.drew;have key:=Lib.hid (HF.out ii kk wr.drew hlt hk hW);have own:=Lib.hid hM.own;have hsz:w.heap.size<=wr.heap.size:=hM.below.size;have hl:(mkL F c ii++(List.range kk).map (F ii)).length<=1000:=by rw[qLR,qhc,qLF,qMa];have:=qMk (show ii<=16 by omega) hc;omega
     have key2:=key.out;unfold q0s at key2;clear hM HF
     go_wp2_with fail
     go_region_law (first
      | (refine qCN rfl g caps hen (.tmp 23) #[.tmp 24,.tmp 25] #[3,3] rfl (by simp[Act.eval,Act.put]) (#[.int .i64 ii,.int .i64 kk]++caps) (by simp[Act.eval,Act.put]) (by exact key2) ?_;rintro e w2 ⟨rfl,hb2⟩;have B2:Below wr.heap.size wr w2:=(Below.refl _ wr).drew.trans hb2;have BA:Below wr.heap.size wr (w2.alloc (.cells #[.string ⟨(F ii kk).toArray⟩] 30)):=B2.alloc B2.size _;have k1:=(HM.out.grow B2 hsz).cell.2.2;have k2:=(HM.out.grow BA hsz).cell.2.2;refine⟨_,rfl,?_⟩)
      | (refine qqa rfl (.tmp 22) (.tmp 27) 68 rfl w.heap.size 30 i0 (.string ⟨#[]⟩) 1 16 underlying68 hi hz0 hz1 hz2 rfl (by decide) v _ _ (by simp[Act.eval]) (q1k own.out BA) ⟨w2.heap.size,0,none⟩ 1 1 [.string ⟨(F ii kk).toArray⟩] (by simp[Act.eval]) rfl (qCG (quh w2 _ _)) (fun u hu=>by rw[qLY.1 hu];rfl) (by unfold maxLen;omega) (by omega) (qLu hsz BA.size) ?_;intro v' w3 hown' hgrow _;obtain⟨ao,n',cap',rfl⟩:=q62 hown';obtain⟨k3,k4⟩:=(HM.out.grow BA hsz).keepCell hgrow))
     all_goals
      have MA:=Lib.hid ((HM.out.grow BA hsz).app (ys:=mkL F c ii++(List.range (kk+1)).map (F ii)) hgrow (qLu hsz BA.size) (by rw[qN5,qM0,<-qM4,qLR,qM0];exact hown'));clear k1 k2 k3 k4 c2 hown' hgrow key2
      go_wp2
      go_roundg (c-(kk+1))
      case measure=>go_light;omega
      case rel=>
       go_light
       exact⟨kk+1,_,by omega,rfl,by go_num,MA.out⟩
    ·have hkE:kk=c:=by omega
     subst kk;clear hM
     go_wp2
     go_roundg (r-(ii+1))
     case measure=>go_light;omega
     case rel=>
      go_light
      exact⟨ii+1,v,by omega,rfl,by go_num,HM.out⟩
  ·have hiE:ii=r:=by omega
   subst ii;obtain⟨ao,n',cap',rfl⟩:=q62 hM.own;have c1:=hM.cell;have c2:=hM.cellq;have f20:=hM.freeq 0;have f21:=hM.freeq 1;have f22:=hM.freeq 2;have HM:=Lib.hid hM;clear hM;unfold qmE at c1 c2;obtain⟨c11,c12,c13⟩:=c1;obtain⟨c21,c22,c23⟩:=c2
   go_wp2
   refine bodyPost_ret (by simp[results,results171,go_sem, *];try rfl) rfl ?_;obtain⟨q1,q2⟩:=HM.out.fin (qLs _) (.int .i64 r) (.int .i64 c) (.slice ao n' cap');rw[qhc] at q2;exact⟨_,rfl,q1,q2⟩
end Go.Eng

namespace Go.Eng
open Go.RowKit Go.Proofs
open Tryz
set_option maxHeartbeats 2000000 in
set_option maxRecDepth 100000 in
theorem qFn(ab ao n c:Nat)(hn:0<n)(hn2:n<=1000)(row:List Bs)(hl:row.length=n)(w:World)(hc:∀(j:Nat) x,row[j]?=some x->w.cell? ⟨ab,ao+j,none⟩=some (q0s x)) :Calls prog 228 #[.slice (some ⟨ab,ao,none⟩) n c] w fun e w'=>∃v,e=.returned v/\w'.ownsRow w.heap.size 30 1 v n (row.map q0s)/\Below w.heap.size w w':=by
 obtain⟨i0,hi,hz0,hz1,hz2⟩:=info_parts (show (prog.info? 30).map (fun i=>(i.zero,i.size,i.bytes))=some (some (.string ⟨#[]⟩),1,16) by kernel_rfl);have hnil:=Lib.run_eql_slice_nil (P:=prog)
 go_enter func228,ntmps228
 have hnews:∀(j:Nat) (u:Value),(row.map q0s)[j]?=some u->(w.alloc (.cells #[] 30)).cell? ((⟨ab,ao,none⟩:Addr).add j)=some u:=fun j u hu=>by
  rw[qLC] at hu;obtain⟨x,hx,rfl⟩:=qNg.1 hu;have h1:=hc j x hx;have h2:(⟨ab,ao,none⟩:Addr).add j=⟨ab,ao+j,none⟩:=by
   unfold Addr.add;split
   ·rename_i h;subst h;rfl
   ·rfl
  rw[h2,World.cell?_alloc_lt _ _ _ (qME w _ h1)];exact h1
 clear hc
 go_wp2_with (at_builtin;refine wpList_append_own _ rfl _ _ 68 rfl w.heap.size 30 i0 (.string ⟨#[]⟩) 1 16 underlying68 hi hz0 hz1 hz2 rfl (by decide) _ 0 [] rfl (World.ownsRow_made w #[] 0 (qLs _) (by decide) rfl) ⟨ab,ao,none⟩ n c (row.map q0s) rfl (by rw[qLF,hl,qNc]) hnews qz2 (by unfold maxLen;omega) (by omega) (by rw[jE];omega) ?_)
 intro v' w2 hown' hgrow _;obtain⟨ao',n',cap',rfl⟩:=q62 hown'
 go_wp2
 go_ret
 refine⟨_,rfl,hown',((Below.refl w.heap.size w).alloc (qLs _) (.cells #[] 30)).grown hgrow (by rw[jE];omega) (fun k hk=>?_)⟩;cases hk;exact qLs _
theorem qHV(i n:Nat)(hi:i<=1000)(hn:n<=1000):wrap64 ((i:Int)*(n:Int))=((i*n:Nat):Int):=by have:=qMk hi hn;rw[<-qMj];exact qlC ⟨by omega,by omega⟩
theorem qHG(i n:Nat)(hi:i<=1000)(hn:n<=1000):wrap64 (((i:Int)+1)*(n:Int))=((i*n+n:Nat):Int):=by
 have:=qMk hi hn;have h:((i:Int)+1)*(n:Int)=((i*n+n:Nat):Int):=by rw[Int.add_mul,qM3,<-qMj,<-qNq]
 rw[h];exact qlC ⟨by omega,by omega⟩
def row0(F G:Nat->Nat->Bs)(n i:Nat):List Bs:=(List.range n).map (F i)++(List.range n).map (G i)
def qKv(B S b2 n:Nat)(vs:Value)(F G:Nat->Nat->Bs)(w0 w:World)(ii:Nat):Prop:=∃vR H,Sch B S 227 68 30 3 ii (2*n) (.int .i64 0) (.int .i64 n) w vR (.slice none 0 0) H ((List.range ii).map (row0 F G n)) [49] []/\Below B w0 w /\
 w.heap[b2]?=some (.cells #[.int .i64 n,.int .i64 n,vs] 174 (0,0))
set_option maxHeartbeats 4000000 in
set_option maxRecDepth 1000000 in
theorem qFs(n:Nat)(hn:n<=16)(F G:Nat->Nat->Bs)(vs:Value)(b5 b1:Nat)(w:World)(hv:0<n->∃ab ao cap,vs=.slice (some ⟨ab,ao,none⟩) (n*n) cap/\n*n<=cap/\∀i k,i<n->k<n->w.cell? ⟨ab,ao+(i*n+k),none⟩=some (q0s (F i k)))(ho:0<n->∃g cap,w.cell? ⟨b5,2,none⟩=some (.slice (some ⟨g,0,none⟩) (n*n) cap)/\n*n<=cap/\∀i k,i<n->k<n->w.cell? ⟨g,i*n+k,none⟩=some (q0s (G i k)))(h1:w.cell? ⟨b1,0,none⟩=some (qmE n)) :Calls prog 208 #[.agg #[.int .i64 n,.int .i64 n,vs],.func (.func 176) #[] #[.pointer (some ⟨b5,0,none⟩),.pointer (some ⟨b1,0,none⟩)]] w fun e w' => e=.returned (.pointer (some ⟨w.heap.size+1,0,none⟩))/\qKv w.heap.size (w.heap.size+1) w.heap.size n vs F G w w' n:=by
  obtain⟨i0,hi,hz0,hz1,hz2⟩:=info_parts (show (prog.info? 30).map (fun i=>(i.zero,i.size,i.bytes))=some (some (.string ⟨#[]⟩),1,16) by kernel_rfl);obtain⟨i1,hi',hy0,hy1,hy2⟩:=info_parts (show (prog.info? 68).map (fun i=>(i.zero,i.size,i.bytes))=some (some (.slice none 0 0),1,24) by kernel_rfl);have HV:=Lib.hid hv;have HO:=Lib.hid ho;clear hv ho
  go_enter func208,ntmps208
  go_wp2
  go_loopg [14] n (fun g i wr=>∃ii:Nat,ii<=n/\g=n-ii/\i=.int .i64 ii/\qKv w.heap.size (w.heap.size+1) w.heap.size n vs F G w wr ii)
  case atStart =>
    refine⟨0,by omega,by omega,rfl,.slice none 0 0,[],?_,?_,?_⟩
    · refine Sch.start (by omega) ?_ (by decide)
      rw[<-jE w (.cells #[.int .i64 n,.int .i64 n,vs] 174)];exact heap_alloc_new _ _
    · exact((Below.refl w.heap.size w).alloc (qLs _) _).alloc (by rw[jE];omega) _
    · exact qjd w _ _
  case round =>
    obtain⟨ii,hii,rfl,rfl,hI⟩:=hrel;by_cases hlt:ii<n
    · obtain⟨vR,H,hS,hB,h2⟩:=hI
      obtain⟨ab,ao,cap,rfl,hcap,hcell⟩:=HV.out (by omega);obtain⟨lo,hlo⟩:∃lo,lo=ii*n:=⟨_,rfl⟩;have hm:ii*n<=16*16:=qMk (by omega) hn;have hhi:(ii+1)*n=lo+n:=by rw[hlo,qLH,qNa]
      have hle:lo+n<=n*n:=by rw[<-hhi];exact qLT n hlt
      have g1:¬cap=lo:=by omega
      have g2:lo+n<=cap:=by omega
      have q1:ii<=1000:=by omega
      have q2:n<=1000:=by omega
      clear hm hhi hle;have e1:True->wrap64 ((ii:Int)*(n:Int))=(lo:Int):=fun _=>by rw[hlo];exact qHV ii n q1 q2
      have e2:True->wrap64 (((ii:Int)+1)*(n:Int))=((lo+n:Nat):Int):=fun _=>by rw[hlo];exact qHG ii n q1 q2
      have HLO:=Lib.hid hlo;clear hlo;have c2:=q6H h2;obtain⟨c20,c21,c22⟩:=c2;have keyC:=qFn ab (ao+lo) n (cap-lo) (by omega) q2 ((List.range n).map (F ii)) (by simp) wr (fun j x hx=>by
        rw[qLC] at hx;obtain⟨y,hy,rfl⟩:=qNg.1 hx;have hjn:j<n:=by have:=(qNb.1 hy).1;simpa using this
        rw[qMp hjn] at hy;cases hy;rw[qN8,HLO.out,hB.cell (p:=⟨ab,ao+(ii*n+j),none⟩) (qME w _ (hcell ii j hlt hjn))];exact hcell ii j hlt hjn)
      obtain⟨g,capo,ho5,hcapo,hoc⟩:=HO.out (by omega);have keyI:=Lib.hid fun (W:World) (hW:Below w.heap.size w W)=>qL3 b5 b1 g (n*n) capo ii n W (by rw[hW.cell (qME w _ ho5)];exact ho5) (by rw[hW.cell (qME w _ h1)];exact h1) q1 (by omega) q2 (qLT n hlt) hcapo;have HC:=Lib.hid hoc;have HH:=Lib.hid (And.intro hS (And.intro hB h2));clear hcell hoc ho5 hcapo hcap hS hB h2
      go_wp2_with (go_at_call 228;refine keyC.mono ?_;rintro e w1 ⟨v1,rfl,hv1,hb1⟩;obtain⟨a1,n1,cap1,rfl⟩:=q62 hv1)
      clear keyC e1 e2 g1 g2 c20 c21 c22;have hsz:=HH.out.2.1.size;have B1:Below wr.heap.size wr w1.drew:=hb1.drew;have k1:=(HH.out.1.grow B1).cell.2.1;have BW:Below w.heap.size w w1.drew:=HH.out.2.1.trans (B1.mono hsz);have key2:=keyI.out w1.drew BW;have own1:=Lib.hid (q1k hv1 (Below.refl _ w1).drew);have LT1:=Lib.hid hv1;have NEW:∀(j:Nat) (u:Value),(((List.range n).map (G ii)).map q0s)[j]?=some u->w1.drew.cell? ((⟨g,ii*n,none⟩:Addr).add j)=some u:=fun j u hu=>by
        rw[qLC] at hu;obtain⟨x,hx,rfl⟩:=qNg.1 hu;rw[qLC] at hx;obtain⟨y,hy,rfl⟩:=qNg.1 hx;have hjn:j<n:=by have:=(qNb.1 hy).1;simpa using this
        rw[qMp hjn] at hy;cases hy;have h2:(⟨g,ii*n,none⟩:Addr).add j=⟨g,ii*n+j,none⟩:=by
          unfold Addr.add;split
          · rename_i h;subst h;rfl
          · rfl
        have h3:=HC.out ii j hlt hjn;rw[h2,BW.cell (qME w _ h3)];exact h3
      clear hv1;have henI:qcs prog 176:=uB func176 (by kernel_rfl) (by kernel_rfl);have stepI:∀(o:Oper) (a:Act) (K:Act->World->Prop) (Q:Exit->Act->World->Prop),o.op=.call { callee:=.value (.tmp 36),args:=#[.tmp 37],argTypes:=#[3] } ->
          a.eval (.tmp 36)=.func (.func 176) #[] #[.pointer (some ⟨b5,0,none⟩),.pointer (some ⟨b1,0,none⟩)]->a.eval (.tmp 37)=.int .i64 ii->K (a.put o.dst (.slice (some ⟨g,ii*n,none⟩) n (capo-ii*n))) w1.drew->Oper.wp prog o a w1.drew K Q :=
        fun o a K Q q1 q2 q3 q4=>qzc 176 _ henI (.tmp 36) _ _ q1 q2 (#[.int .i64 ii,.pointer (some ⟨b5,0,none⟩),.pointer (some ⟨b1,0,none⟩)]) (by simp[q3]) key2 (fun e w' h=>⟨_,h.1,by rw[h.2];exact q4⟩)
      have stepA:∀(o:Oper) (a:Act) (K:Act->World->Prop) (Q:Exit->Act->World->Prop),o.op=.call { callee:=.builtin .append,args:=#[.tmp 35,.tmp 38],argTypes:=#[68,68] } ->
          a.eval (.tmp 35)=.slice a1 n1 cap1->a.eval (.tmp 38)=.slice (some ⟨g,ii*n,none⟩) n (capo-ii*n) ->
          (∀a2 n2 cap2 w2,w2.ownsRow wr.heap.size 30 1 (.slice a2 n2 cap2) (2*n) ((row0 F G n ii).map q0s)->Below wr.heap.size wr w2->K (a.put o.dst (.slice a2 n2 cap2)) w2)->Oper.wp prog o a w1.drew K Q :=
        fun o a K Q q1 q2 q3 q4=>wp_append_own w1.drew _ _ 68 q1 wr.heap.size 30 i0 (.string ⟨#[]⟩) 1 16 underlying68 hi hz0 hz1 hz2 rfl (by decide) _ n _ q2 own1.out ⟨g,ii*n,none⟩ n _ (((List.range n).map (G ii)).map q0s) q3 (by simp) NEW qz2 (by unfold maxLen;omega) (by omega) B1.size
          (fun v2 w2 h1 h2 _=>by obtain⟨a2,n2,cap2,rfl⟩:=q62 h1;refine q4 _ _ _ _ ?_ (B1.grown h2 B1.size (fun k hk=>(LT1.out.lt k hk).1));rw[Nat.two_mul];unfold row0;rw[qM0];exact h1)
      have stepB:∀(w2:World) (a2:Option Addr) (n2 cap2:Nat) (o:Oper) (a:Act) (K:Act->World->Prop) (Q:Exit->Act->World->Prop),Below wr.heap.size wr w2->o.op=.call { callee:=.builtin .append,args:=#[.tmp 34,.tmp 40],argTypes:=#[225,225] } ->
          a.eval (.tmp 34)=vR->a.eval (.tmp 40)=.slice (some ⟨w2.heap.size,0,none⟩) 1 1 ->
          (∀a3 n3 cap3 w3,w3.ownsRow w.heap.size 68 1 (.slice a3 n3 cap3) (ii+1) (H++[.slice a2 n2 cap2])->(w2.alloc (.cells #[.slice a2 n2 cap2] 68)).grownBy w3 vR.ownBlock->K (a.put o.dst (.slice a3 n3 cap3)) w3)->Oper.wp prog o a (w2.alloc (.cells #[.slice a2 n2 cap2] 68)) K Q :=
        fun w2 a2 n2 cap2 o a K Q hb q1 q2 q3 q4=>by
          have B3:Below wr.heap.size wr (w2.alloc (.cells #[.slice a2 n2 cap2] 68)):=hb.alloc hb.size _;exact wp_append_own _ _ _ 225 q1 w.heap.size 68 i1 (.slice none 0 0) 1 24 underlying225 hi' hy0 hy1 hy2 rfl (by decide) _ ii _ q2 (HH.out.1.grow B3).outer ⟨w2.heap.size,0,none⟩ 1 1 [.slice a2 n2 cap2] q3 rfl (qCG (quh w2 _ _)) (fun u hu=>by rw[qLY.1 hu];rfl) (by unfold maxLen;omega) (by omega) (qLu hsz B3.size)
            (fun v3 w3 h1 h2 _=>by obtain⟨a3,n3,cap3,rfl⟩:=q62 h1;exact q4 _ _ _ _ h1 h2)
      clear key2 NEW
      go_region_law ((try simp only[Act.put,List.setIfInBounds_toArray,qLI,qLM]);(with_reducible refine qDS rfl ?_);first
        | (with_reducible refine stepI _ _ _ _ ?_ ?_ ?_ ?_
           · with_reducible rfl
           · (first|with_reducible rfl|(simp[Act.eval];done))
           · (first|with_reducible rfl|(simp[Act.eval];done)))
        | (with_reducible refine stepA _ _ _ _ ?_ ?_ ?_ ?_
           · with_reducible rfl
           · (first|with_reducible rfl|(simp[Act.eval];done))
           · (first|with_reducible rfl|(simp[Act.eval];done))
           intro a2 n2 cap2 w2 hown2 B2;have B3:Below wr.heap.size wr (w2.alloc (.cells #[.slice a2 n2 cap2] 68)):=B2.alloc B2.size _;have k2:=(HH.out.1.grow B2).cell.2.1;have k3:=(HH.out.1.grow B3).cell.2.1)
        | (with_reducible refine stepB w2 a2 n2 cap2 _ _ _ _ B2 ?_ ?_ ?_ ?_
           · with_reducible rfl
           · (first|with_reducible rfl|(simp[Act.eval];done))
           · (first|with_reducible rfl|(simp[Act.eval];done))
           intro a3 n3 cap3 w3 hown3 hgrow3;obtain⟨k4,k5⟩:=(HH.out.1.grow B3).rowCell hgrow3)
        | fail "NONE")
      all_goals
        have SR:=(HH.out.1.grow B3).addRow (row:=row0 F G n ii) (q5E (q1k hown2 ((Below.refl _ w2).alloc (qLs _) (.cells #[.slice a2 n2 cap2] 68))) hsz) (HH.out.1.heads hown2) hgrow3 hown3;have BL:=((HH.out.2.1.trans (B3.mono hsz)).grown hgrow3 (qLu hsz B3.size) (fun k hk=>((HH.out.1.grow B3).outer.lt k hk).1)).setCell (p:=⟨w.heap.size+1,1,none⟩) (by show w.heap.size<=w.heap.size+1;omega) (.slice a3 n3 cap3);have MK:=qA8 (HH.out.1.grow B3).outer (show (w2.alloc (.cells #[.slice a2 n2 cap2] 68)).heap[w.heap.size]?=_ by rw[B3.block _ (qLw.1 HH.out.2.2).1];exact HH.out.2.2) (by decide) hgrow3;have FIN:qKv w.heap.size (w.heap.size+1) w.heap.size n (.slice (some ⟨ab,ao,none⟩) (n*n) cap) F G w (w3.setCell ⟨w.heap.size+1,1,none⟩ (.slice a3 n3 cap3)) (ii+1) :=
          ⟨_,_,by rw[qN5,qM0];exact SR,BL,by rw[heap_setCell_other w3 ⟨w.heap.size+1,1,none⟩ w.heap.size _ (by show w.heap.size≠w.heap.size+1;omega)];exact MK⟩
        have FIN:=Lib.hid FIN;clear SR BL MK k1 k2 k3 k4 k5 hown2 hown3 hgrow3 B2 B3 stepI stepA stepB
        go_wp2
        go_roundg (n-(ii+1))
        case measure=>go_light;omega
        case rel =>
          go_light
          exact⟨ii+1,by omega,rfl,by go_num,FIN.out⟩
    · have hiE:ii=n:=by omega
      subst ii;have HI:=Lib.hid hI;clear hI
      go_wp2
      go_ret
      exact⟨rfl,HI.out⟩
end Go.Eng

namespace Go.Eng
open Go.RowKit Go.Proofs
open Tryz
theorem Sch.base{B B' S:Nat}{tS tR tE tI:TypeId}{N C:Nat}{ek K:Value}{w:World}{vR vL:Value}{H:List Value}{Z:Mx}{det:Bs}{lead:List Nat}(h:Sch B S tS tR tE tI N C ek K w vR vL H Z det lead)(hB:B'<=B) :Sch B' S tS tR tE tI N C ek K w vR vL H Z det lead:=⟨qLu hB h.bs,h.st,h.dim,q5E h.outer hB,fun j a r e1 e2=>q5E (h.inner j a r e1 e2) hB,q5E h.own hB,h.ap,h.ne⟩
set_option maxHeartbeats 4000000 in
set_option maxRecDepth 1000000 in
theorem qK5(ml dv sb:Op2)(gl:World->Prop)(n:Nat)(hn:n<=16)(F G:Nat->Nat->Bs)(vs:Value)(b5 b1:Nat)(w:World)(hgl:∀w',Below w.heap.size w w'->gl w')(hml:qB2 prog gl 124 ml) (hdv:qB2 prog gl 142 dv) (hsb:qB2 prog gl 115 sb)(hv:0<n->∃ab ao cap,vs=.slice (some ⟨ab,ao,none⟩) (n*n) cap/\n*n<=cap/\∀i k,i<n->k<n->w.cell? ⟨ab,ao+(i*n+k),none⟩=some (q0s (F i k)))(ho:0<n->∃g cap,w.cell? ⟨b5,2,none⟩=some (.slice (some ⟨g,0,none⟩) (n*n) cap)/\n*n<=cap/\∀i k,i<n->k<n->w.cell? ⟨g,i*n+k,none⟩=some (q0s (G i k)))(h1:w.cell? ⟨b1,0,none⟩=some (qmE n)) (fin:RS) (hf:qvq ml dv sb n n (2*n) n ⟨(List.range n).map (row0 F G n),[49],[],0⟩=some fin) :Calls prog 175 #[.agg #[.int .i64 n,.int .i64 n,vs],.func (.func 176) #[] #[.pointer (some ⟨b5,0,none⟩),.pointer (some ⟨b1,0,none⟩)]] w fun e w'=> ∃S,e=.returned (.tuple #[.pointer (some ⟨S,0,none⟩),.int .i64 0])/\(∃vR vL H,Sch w.heap.size S 227 68 30 3 n (2*n) (.int .i64 0) (.int .i64 n) w' vR vL H fin.Z fin.det fin.lead)/\Below w.heap.size w w':=by
 have hB1:Below w.heap.size w (w.alloc (.cells #[.int .i64 n,.int .i64 n,vs] 174)):=(Below.refl w.heap.size w).alloc (qLs _) _;have keyB:=qFs n hn F G vs b5 b1 (w.alloc (.cells #[.int .i64 n,.int .i64 n,vs] 174))
  (fun h=>by obtain⟨ab,ao,cap,q1,q2,q3⟩:=hv h;exact⟨ab,ao,cap,q1,q2,fun i k hi hk=>by rw[hB1.cell (qME w _ (q3 i k hi hk))];exact q3 i k hi hk⟩)
  (fun h=>by obtain⟨g,cap,q1,q2,q3⟩:=ho h;exact⟨g,cap,by rw[hB1.cell (qME w _ q1)];exact q1,q2,fun i k hi hk=>by rw[hB1.cell (qME w _ (q3 i k hi hk))];exact q3 i k hi hk⟩)
  (by rw[hB1.cell (qME w _ h1)];exact h1)
 have HG:=Lib.hid hgl;have HF:=Lib.hid hf;clear hv ho hf hgl
 go_enter func175,ntmps175
 go_wp2_with (go_at_call 208;refine keyB.mono ?_;rintro e w1 ⟨rfl,hI⟩)
 have hs1:w.heap.size<=w.heap.size+1:=by omega
 rw[jE] at hI;obtain⟨vR,H,hS,hB,_⟩:=hI;have hB2:Below w.heap.size w w1:=hB1.trans (hB.mono hs1);have keyR:=qJF w.heap.size _ n n (2*n) w1 ml dv sb gl (fun w' hw'=>HG.out w' (hB2.trans hw')) hml hdv hsb hB2.size (qLs _) (by omega) (by omega) (by omega) _ fin ⟨_,_,_,hS.base hs1,Below.refl _ _⟩ rfl rfl HF.out;refine keyR.mono ?_;rintro e w2 ⟨rfl,hR⟩;obtain⟨vR2,vL2,H2,hS2,hB3⟩:=hR;have k0:=hS2.cell.1;clear keyR keyB
 go_wp2_with fail
 go_region_with (fail)
 all_goals
  go_wp2
  refine bodyPost_ret (results_tmp2 rfl _ _ _) rfl ?_;exact⟨_,rfl,⟨_,_,_,hS2.grow (Below.refl _ _).drew⟩,hB2.trans hB3.drew⟩
def qk8(i k:Nat):Bs:=if i=k then [49] else [48]
set_option maxHeartbeats 4000000 in
set_option maxRecDepth 1000000 in
theorem qIp(n:Nat)(hn:n<=16)(w:World) :Calls prog 174 #[.int .i64 n] w fun e w'=>∃v,e=.returned (.agg #[.int .i64 n,.int .i64 n,v])/\Below w.heap.size w w'/\w'.ownsRow w.heap.size 30 1 v (n*n) ((mkL qk8 n n).map q0s):=by
 have hB1:Below w.heap.size w (w.alloc (.cells #[.int .i64 0,.int .i64 0,.slice none 0 0] 174)):=(Below.refl w.heap.size w).alloc (qLs _) _;have key:=qCd 207 (uB func207 (by kernel_rfl) (by kernel_rfl)) #[] n n hn hn qk8 (w.alloc (.cells #[.int .i64 0,.int .i64 0,.slice none 0 0] 174)) (fun i k w' hi hk _=>(qKD i k (by omega) (by omega) w').mono fun e w'' h=>⟨h.1,by rw[h.2];exact Below.refl _ _⟩);have hq:=heap_alloc_new w (.cells #[.int .i64 0,.int .i64 0,.slice none 0 0] 174);rw[jE] at key
 go_enter func174,ntmps174
 go_wp2_with (go_at_call 171;refine key.mono ?_;rintro e w1 ⟨v,rfl,hb,ho⟩;obtain⟨ao,n1,cap,rfl⟩:=q62 ho;have hq2:w1.heap[w.heap.size]?=some (.cells #[.int .i64 0,.int .i64 0,.slice none 0 0] 174 (0,0)):=(hb.block _ (by omega)).trans hq;obtain⟨c0,c1,c2⟩:=q6H hq2;have f0:=frozen_of_row w1 w.heap.size 0 _ 174 hq2;have f1:=frozen_of_row w1 w.heap.size 1 _ 174 hq2;have f2:=frozen_of_row w1 w.heap.size 2 _ 174 hq2)
 refine bodyPost_ret (by simp[results,results174,go_sem, *];try rfl) rfl ?_;have hn0:(Value.slice ao n1 cap).ownBlock≠some w.heap.size:=fun hv=>by obtain⟨c',hc'⟩:=zC ho hv;exact qca hq2 hc' (by decide) rfl
 have hle:w.heap.size<=w.heap.size:=qLs _;exact⟨_,rfl,(((hB1.trans (hb.mono (by omega))).setCell (p:=⟨w.heap.size,0,none⟩) hle _).setCell (p:=⟨w.heap.size,1,none⟩) hle _).setCell (p:=⟨w.heap.size,2,none⟩) hle _,
  qK (qK (qK (q5E ho (by omega)) hn0 _) hn0 _) hn0 _⟩
end Go.Eng

namespace Go.Eng
open Go.RowKit Go.Proofs
open Tryz
theorem qBB{w:World}{B:Nat}{e:TypeId}{z n:Nat}{v:Value}{xs:List Value}(h:w.ownsRow B e z v n xs):∃ao cap,v=.slice ao n cap:=by
 rcases h.2 with⟨hv,h0⟩|⟨g,cap,cur,hv,_⟩
 ·exact⟨none,0,by rw[hv,h0]⟩
 ·exact⟨_,_,hv⟩
set_option maxHeartbeats 4000000 in
set_option maxRecDepth 1000000 in
theorem qL2(b6 b1 S n:Nat)(w:World){B:Nat}{vR vL:Value}{H:List Value}{Z:Mx}{det:Bs}{lead:List Nat}{ek K:Value}(h6:w.cell? ⟨b6,0,none⟩=some (.pointer (some ⟨S,0,none⟩)))(h1:w.cell? ⟨b1,1,none⟩=some (qmE n))(hS:Sch B S 227 68 30 3 n (2*n) ek K w vR vL H Z det lead) (hn:n<=16) (i k:Nat) (hi:i<n) (hk:k<n) :Calls prog 177 #[.int .i64 i,.int .i64 k,.pointer (some ⟨b6,0,none⟩),.pointer (some ⟨b1,0,none⟩)] w fun e w'=>e=.returned (q0s (q8c Z i (n+k)))/\w'=w.drew:=by
 obtain⟨O,cO,rfl,bO,ltO,rO,fO,tO⟩:=hS.rows (by omega);obtain⟨G,cG,eH,bG,ltG,zG,fG,tG⟩:=hS.head hi (by omega);have c1:=hS.cell.2.1;have c2:=rO i _ eH;have c3:=zG (n+k) (by omega);have hlt:n+k<2*n:=by omega
 generalize 2*n=C at *;have hlt2:(n:Int)+(k:Int)<(C:Int):=by omega
 have hlt3:((n:Int)+(k:Int)).toNat=n+k:=by omega
 unfold qmE at h1;unfold q0s at c3 ⊢;clear rO zG fO fG tO tG eH
 go_enter func177,ntmps177
 go_wp2_with fail
 go_big_region
 go_wp2
 go_ret
 exact⟨rfl,rfl⟩
set_option maxHeartbeats 4000000 in
set_option maxRecDepth 1000000 in
theorem qJj(ml dv sb:Op2)(gl:World->Prop)(n:Nat)(hn:n<=16)(F:Nat->Nat->Bs)(vs:Value)(w:World)(hgl:∀w',Below w.heap.size w w'->gl w')(hml:qB2 prog gl 124 ml) (hdv:qB2 prog gl 142 dv) (hsb:qB2 prog gl 115 sb)(hck:∀w',Below w.heap.size w w'->Calls prog 173 #[.agg #[.int .i64 n,.int .i64 n,vs]] w' fun e w''=>e=.returned (.int .i64 0)/\Below w'.heap.size w' w'')(hv:0<n->∃ab ao cap,vs=.slice (some ⟨ab,ao,none⟩) (n*n) cap/\n*n<=cap/\∀i k,i<n->k<n->w.cell? ⟨ab,ao+(i*n+k),none⟩=some (q0s (F i k)))(fin:RS) (hf:qvq ml dv sb n n (2*n) n ⟨(List.range n).map (row0 F qk8 n),[49],[],0⟩=some fin) (hvs:∃a l c,vs=.slice a l c) :Calls prog 130 #[.agg #[.int .i64 n,.int .i64 n,vs]] w fun e w'=>Below w.heap.size w w' /\((fin.lead.length < n /\ e = .returned (.tuple #[.agg #[.int .i64 0, .int .i64 0, .slice none 0 0], .int .i64 14])) \/(n<=fin.lead.length/\∃v,e=.returned (.tuple #[.agg #[.int .i64 n,.int .i64 n,v],.int .i64 0])/\w'.ownsRow w.heap.size 30 1 v (n*n) ((mkL (fun i k=>q8c fin.Z i (n+k)) n n).map q0s))):=by
  obtain⟨a0,l0,c0,rfl⟩:=hvs;obtain⟨W0,hW0⟩:∃W0,W0=(w.alloc (.cells #[.int .i64 n,.int .i64 n,.slice a0 l0 c0] 174)).alloc (.cells #[.int .i64 0,.int .i64 0,.slice none 0 0] 174):=⟨_,rfl⟩;have hb0:Below w.heap.size w W0:=by rw[hW0];exact((Below.refl w.heap.size w).alloc (qLs _) _).alloc (by rw[jE];omega) _
  have h1:W0.heap[w.heap.size]?=some (.cells #[.int .i64 n,.int .i64 n,.slice a0 l0 c0] 174 (0,0)):=by rw[hW0];exact qjd w _ _
  have h2:W0.heap[w.heap.size+1]?=some (.cells #[.int .i64 0,.int .i64 0,.slice none 0 0] 174 (0,0)):=by rw[hW0,<-jE w (.cells #[.int .i64 n,.int .i64 n,.slice a0 l0 c0] 174)];exact heap_alloc_new _ _
  have hs0:W0.heap.size=w.heap.size+1+1:=by rw[hW0,jE,jE]
  have keyC:=hck W0 hb0;obtain⟨c10,c11,c12⟩:=q6H h1;have HV:=Lib.hid hv;have HF:=Lib.hid hf;have HG:=Lib.hid hgl;clear hv hf hgl hck
  go_enter func130,ntmps130
  go_wp2_with fail
  rw[<-hW0];refine keyC.mono ?_;rintro e w1 ⟨rfl,hb1⟩;have B1:Below w.heap.size w w1:=hb0.trans (hb1.mono hb0.size);have g1:=(hb1.block _ (qLw.1 h1).1).trans h1;have g2:=(hb1.block _ (qLw.1 h2).1).trans h2;have hs1:w.heap.size+1+1<=w1.heap.size:=by have:=hb1.size;omega
  clear keyC h1 h2 c10 c11 c12 hW0 hb0 hb1 hs0;clear W0;obtain⟨c10,c11,c12⟩:=q6H g1
  go_wp2_with fail
  refine(qIp n hn w1).mono ?_;rintro e w2 ⟨vo,rfl,hb2,hou⟩;obtain⟨ao,no,co,rfl⟩:=q62 hou;have B2:Below w.heap.size w w2:=B1.trans (hb2.mono B1.size);have k1:=(hb2.block _ (qLw.1 g1).1).trans g1;have k2:=(hb2.block _ (qLw.1 g2).1).trans g2;have hs2:w.heap.size+1+1<=w2.heap.size:=by have:=hb2.size;omega
  clear g1 g2 c10 c11 c12;obtain⟨c10,c11,c12⟩:=q6H k1;have HU:=Lib.hid hou;clear hou hb2;have B3:Below w2.heap.size w2 (w2.alloc (.cells #[.int .i64 n,.int .i64 n,.slice ao no co] 174)):=(Below.refl _ w2).alloc (qLs _) _;have l1:=(B3.block _ (qLw.1 k1).1).trans k1;have l2:=(B3.block _ (qLw.1 k2).1).trans k2;obtain⟨d10,d11,d12⟩:=q6H l1
  go_wp2_with fail
  obtain⟨W3,hW3⟩:∃W3,W3=w2.alloc (.cells #[.int .i64 n,.int .i64 n,.slice ao no co] 174):=⟨_,rfl⟩;have m5:W3.heap[w2.heap.size]?=some (.cells #[.int .i64 n,.int .i64 n,.slice ao no co] 174 (0,0)):=by rw[hW3];exact heap_alloc_new _ _
  have hs3:W3.heap.size=w2.heap.size+1:=by rw[hW3,jE]
  rw[<-hW3] at B3 l1 l2 d10 d11 d12 ⊢;clear hW3 c10 c11 c12;have B13:Below w.heap.size w W3:=B2.trans (B3.mono B2.size);have keyE:=qK5 ml dv sb gl n hn F qk8 (.slice a0 l0 c0) w2.heap.size w.heap.size W3 (fun w' hw'=>HG.out w' (B13.trans (hw'.mono B13.size))) hml hdv hsb
    (fun h=>by obtain⟨ab,ao,cap,q1,q2,q3⟩:=HV.out h;exact⟨ab,ao,cap,q1,q2,fun i k hi hk=>by rw[B13.cell (qME w _ (q3 i k hi hk))];exact q3 i k hi hk⟩)
    (fun h=>by
      have ho3:=q1k HU.out B3;obtain⟨g,c,q1,_,_,_⟩:=qeZ ho3 (Nat.mul_pos h h);have hcap:n*n<=c:=by
        rcases ho3.2 with⟨z,_⟩|⟨g',cap',cur,z,_,_,z2,_⟩
        · rw[q1] at z;cases z
        · rw[q1] at z;cases z;exact z2
      refine⟨g,c,by rw[<-q1];exact(q6H m5).2.2,hcap,fun i k hi hk=>?_⟩;rw[q1] at ho3;have hik:i*n+k<n*n:=by have:=qLT n (show i+1<=n by omega);rw[qLH] at this;omega
      rw[ho3.cellAt (i*n+k) (by omega),qLC,qxX qk8 n n i k hi hk];rfl)
    d10 fin HF.out
  refine keyE.mono ?_;rintro e w4 ⟨S,rfl,⟨vR,vL,H,hS⟩,hb4⟩;have B4:Below w.heap.size w w4:=B13.trans (hb4.mono B13.size);have k1:=(hb4.block _ (qLw.1 l1).1).trans l1;have k2:=(hb4.block _ (qLw.1 l2).1).trans l2;have hs4:w2.heap.size+1<=w4.heap.size:=by have:=hb4.size;omega
  have B5:Below w4.heap.size w4 (w4.alloc (.cells #[.pointer (some ⟨S,0,none⟩)] 219)):=(Below.refl _ w4).alloc (qLs _) _;have HS:=Lib.hid (hS.grow B5);have l1:=(B5.block _ (qLw.1 k1).1).trans k1;have l2:=(B5.block _ (qLw.1 k2).1).trans k2;clear keyE HU HV HF HG hS k1 k2 d10 d11 d12 m5;obtain⟨vl0,vlc,rfl⟩:=qBB HS.out.own;obtain⟨d10,d11,d12⟩:=q6H l1;have s3:=HS.out.cell.2.2.2.1
  go_wp2_with fail
  go_big_region
  have B6:Below w4.heap.size w4 (w4.alloc (.cells #[.pointer (some ⟨S,0,none⟩)] 219)).drew:=B5.drew;have n6:=quh w4 (.pointer (some ⟨S,0,none⟩)) 219;have SZ:(w4.alloc (.cells #[.pointer (some ⟨S,0,none⟩)] 219)).heap.size=w4.heap.size+1:=jE _ _;obtain⟨W6,hW6⟩:∃W6,W6=(w4.alloc (.cells #[.pointer (some ⟨S,0,none⟩)] 219)).drew:=⟨_,rfl⟩;have l1:W6.heap[w.heap.size]?=some (.cells #[.int .i64 n,.int .i64 n,.slice a0 l0 c0] 174 (0,0)):=by rw[hW6];exact l1
  have l2:W6.heap[w.heap.size+1]?=some (.cells #[.int .i64 0,.int .i64 0,.slice none 0 0] 174 (0,0)):=by rw[hW6];exact l2
  have n6:W6.cell? ⟨w4.heap.size,0,none⟩=some (.pointer (some ⟨S,0,none⟩)):=by rw[hW6];exact n6
  have SZ:W6.heap.size=w4.heap.size+1:=by rw[hW6];exact SZ
  have HS:=Lib.hid (HS.out.grow (Below.refl _ _).drew);rw[<-hW6] at B6 HS ⊢;clear hW6 B5 d10 d11 d12 s3;have B7:Below w.heap.size w W6:=B4.trans (B6.mono B4.size);obtain⟨d10,d11,d12⟩:=q6H l1;obtain⟨d20,d21,d22⟩:=q6H l2;have f20:=frozen_of_row W6 (w.heap.size+1) 0 _ 174 l2;have f21:=frozen_of_row W6 (w.heap.size+1) 1 _ 174 l2;have f22:=frozen_of_row W6 (w.heap.size+1) 2 _ 174 l2;have hle:w.heap.size<=w.heap.size+1:=by omega
  by_cases hl:fin.lead.length<n
  · have hl2:((fin.lead.length:Int)<(n:Int)):=by omega
    go_wp2_with fail
    refine bodyPost_ret (by simp[results,results130,go_sem, *];try rfl) rfl ?_;exact⟨((B7.setCell (p:=⟨w.heap.size+1,0,none⟩) hle _).setCell (p:=⟨w.heap.size+1,1,none⟩) hle _).setCell (p:=⟨w.heap.size+1,2,none⟩) hle _,.inl ⟨hl,rfl⟩⟩
  · have hl2:¬((fin.lead.length:Int)<(n:Int)):=by omega
    have keyM:=qCd 177 (uB func177 (by kernel_rfl) (by kernel_rfl)) #[.pointer (some ⟨w4.heap.size,0,none⟩),.pointer (some ⟨w.heap.size,0,none⟩)] n n hn hn (fun i k=>q8c fin.Z i (n+k)) W6 (fun i k w' hi hk hb =>
      (qL2 w4.heap.size w.heap.size S n w' (by rw[hb.cell (qME W6 _ n6)];exact n6) (by rw[hb.cell (qME W6 _ d11)];exact d11) (HS.out.grow hb) hn i k hi hk).mono
        fun e w'' h=>⟨h.1,by rw[h.2];exact(Below.refl _ _).drew⟩)
    go_wp2_with fail
    refine keyM.mono ?_;rintro e w7 ⟨v,rfl,hb7,ho7⟩;obtain⟨a7,n7,c7,rfl⟩:=q62 ho7;have q2:=(hb7.block _ (qLw.1 l2).1).trans l2;obtain⟨e20,e21,e22⟩:=q6H q2;have f20:=frozen_of_row w7 (w.heap.size+1) 0 _ 174 q2;have f21:=frozen_of_row w7 (w.heap.size+1) 1 _ 174 q2;have f22:=frozen_of_row w7 (w.heap.size+1) 2 _ 174 q2;clear keyM d10 d11 d12 d20 d21 d22
    go_wp2_with fail
    refine bodyPost_ret (by simp[results,results130,go_sem, *];try rfl) rfl ?_;have hn0:(Value.slice a7 n7 c7).ownBlock≠some (w.heap.size+1):=fun hv=>by obtain⟨c',hc'⟩:=zC ho7 hv;exact qca q2 hc' (by decide) rfl
    exact⟨(((B7.trans (hb7.mono B7.size)).setCell (p:=⟨w.heap.size+1,0,none⟩) hle _).setCell (p:=⟨w.heap.size+1,1,none⟩) hle _).setCell (p:=⟨w.heap.size+1,2,none⟩) hle _,
      .inr ⟨by omega,_,rfl,qK (qK (qK (q5E ho7 B7.size) hn0 _) hn0 _) hn0 _⟩⟩
end Go.Eng

namespace Go.Eng
open Go.RowKit Go.Proofs
open Tryz
def qIK(t:TR):Bool:=match t.run with
 | some (0,[.i e])=>decide (e=0)
 | _=>false
theorem qGl{t:TR}(h:qIK t=true):t.run=some (0,[.i 0]):=by
 unfold qIK at h;split at h
 ·rename_i e he;have:e=0:=by simpa using h
  subst this;exact he
 ·cases h
def qIJ(ck ml dv sb:List PV->TR):List PV->TR
 | [.i r,.i c,.r l]=>if r=c/\0<=r/\r<=16/\l.length=r.toNat*r.toNat/\qIK (ck [.i r,.i c,.r l])=true then
   (match qvq (opF ml) (opF dv) (opF sb) r.toNat r.toNat (2*r.toNat) r.toNat ⟨(List.range r.toNat).map (row0 (fun i k=>cS l ((i*r.toNat+k:Nat):Int) 0) qk8 r.toNat),[49],[],0⟩ with
   | some fin=>if fin.lead.length<r.toNat then .leaf (0,[.i 0,.i 0,.r [],.i 14]) else .leaf (0,[.i r,.i r,.r ((mkL (fun i k=>q8c fin.Z i (r.toNat+k)) r.toNat r.toNat).map fun x=>[.s x]),.i 0])
   | none=>.fail) else .fail
 | _=>.fail
theorem qCL{ps:List PV}(h:ps.map PV.kind=[.i,.i,.r]):∃a b c,ps=[.i a,.i b,.r c]:=by
 match ps,h with
 | [.i a,.i b,.r c],_=>exact⟨a,b,c,rfl⟩
theorem qG4{T:List PV->TR}{a b:Int}{l:R}(h:(T [.i a,.i b,.r l]).run=some (0,[.i 0])) :(q9 ⟨[.agg [.int .i64,.int .i64,.imm [.str]]],[]⟩ [⟨.int .i64,[],none⟩] T [.agg [.int .i64 a,.int .i64 b,.imm [.str] l]] []).run=some (.int .i64 0,[]):=by unfold q9;have ht:(FIn.mk [.agg [.int .i64,.int .i64,.imm [.str]]] []).take [.agg [.int .i64 a,.int .i64 b,.imm [.str] l]] []=some [.i a,.i b,.r l]:=rfl;rw[ht];simp only[Tree.run,okR,h,qNJ];simp[qC3,FOut.kinds,AP.kinds,BP.kindsL,qm1,gI,pR,h,PV.toI,FOut.make,AP.make,BP.makeL,Tree.run]
theorem qAx{w:World}{B:Nat}{e:TypeId}{M:Nat->Prop}{v:Value}{n:Nat}{xs:List Bs}(h:w.ownsRow B e 1 v n (xs.map q0s))(hM:∀b,v.ownBlock=some b->M b):qfC w M [.str] (xs.map fun x=>[U.s x]) v:=by
 have hl:xs.length=n:=by have:=h.1;rw[qLF] at this;omega
 rcases h.2 with⟨rfl,h0⟩|⟨g,cap,cur,rfl,_,_,hc,_⟩
 ·exact .inl ⟨rfl,qNd (by rw[qLF];omega)⟩
 ·refine .inr ⟨⟨g,0,none⟩,cap,by rw[qLF,hl],fun _=>rfl,by rw[qLF,hl];exact hc,fun r j hj hr=>?_⟩;have hj0:j=0:=by simp at hj;exact hj
  subst hj0;rw[qLF] at hr;refine⟨hM g rfl,q0s xs[r],?_,?_⟩
  ·have:=h.cellAt r (by omega);rw[qLC,qLz hr] at this;simpa using this
  ·have:RepU w M .str (U.s xs[r]) (q0s xs[r]):=.str (U.s xs[r]);have e:wD (xs.map fun x=>[U.s x]) (r:Int) 0=U.s xs[r]:=by simp[wD,hr]
   rw[e];exact this
theorem qF8{X:Ctx}{a b:Int}{l:R}{vargs:List Value}(h:RepL X [.agg [.int .i64 a,.int .i64 b,.imm [.str] l]] vargs):∃v,vargs=[.agg #[.int .i64 a,.int .i64 b,v]]/\qfC X.w X.M [.str] l v:=by
 cases h with
 | cons h1 t=>
  cases t;cases h1 with
  | agg _ vs h2=>
   cases h2 with
   | cons q1 t1=>
    cases q1;cases t1 with
    | cons q2 t2=>
     cases q2;cases t2 with
     | cons q3 t3=>
      cases t3;cases q3 with
      | imm _ _ _ hv=>exact⟨_,rfl,hv⟩
theorem qCy{gl:List (Nat×AV)}{ck ml dv sb:List PV->TR}(hck:qQ prog gl 173 (q9 ⟨[.agg [.int .i64,.int .i64,.imm [.str]]],[]⟩ [⟨.int .i64,[],none⟩] ck))(hml:qQ prog gl 124 (q9 ⟨[.str,.str],[]⟩ [⟨.tuple [.str,.int .i64],[],none⟩] ml)) (hdv:qQ prog gl 142 (q9 ⟨[.str,.str],[]⟩ [⟨.tuple [.str,.int .i64],[],none⟩] dv))(hsb:qQ prog gl 115 (q9 ⟨[.str,.str],[]⟩ [⟨.tuple [.str,.int .i64],[],none⟩] sb)) :qQ prog gl 130 (q9 ⟨[.agg [.int .i64,.int .i64,.imm [.str]]],[]⟩ [⟨.tuple [.agg [.int .i64,.int .i64,.imm [.str]],.int .i64],[],none⟩] (qIJ ck ml dv sb)):=by
 refine qDv (uB func130 (by kernel_rfl) (by kernel_rfl)) rfl fun B X ps j qs vargs hs hgl hX ha hk hT=>?_;obtain⟨r,c,l,rfl⟩:=qCL hk;have ha:RepL X [.agg [.int .i64 r,.int .i64 c,.imm [.str] l]] vargs:=ha;simp only[qIJ] at hT;split at hT
 ·rename_i hc;obtain⟨rfl,hr0,hr16,hl,hok⟩:=hc;obtain⟨n,rfl⟩:∃n:Nat,r=(n:Int):=⟨r.toNat,by omega⟩;rw[qLD] at hT hl;split at hT
  ·rename_i fin hf;obtain⟨v,rfl,hv⟩:=qF8 ha;have hgY:∀w',Below X.w.heap.size X.w w'->q5G gl (qGo w' X.y):=fun w' hb=>qKQ hs hX hgl hb;have op:∀{f:FuncId} {T:List PV->TR},qQ prog gl f (q9 ⟨[.str,.str],[]⟩ [⟨.tuple [.str,.int .i64],[],none⟩] T)->qB2 prog (fun w'=>Below X.w.heap.size X.w w') f (opF T):=
    fun hT w' hb a b r h=>qEN hT (hgY w' hb) h
   have key:=qJj (opF ml) (opF dv) (opF sb) (fun w'=>Below X.w.heap.size X.w w') n (by omega) (fun i k=>cS l ((i*n+k:Nat):Int) 0) v X.w (fun _ h=>h) (op hml) (op hdv) (op hsb)
    (fun w' hb=>by
     have m:=qJc hs hX hb;refine(qwc hck (hgY w' hb) (args:=[.agg [.int .i64 n,.int .i64 n,.imm [.str] l]]) (vargs:=[.agg #[.int .i64 n,.int .i64 n,v]]) ?_ (qG4 (qGl hok))).mono ?_
     ·exact ha.ext0 m
     ·rintro e w'' ⟨u,X',rfl,rfl,hu,_,_,hb'⟩;cases hu;exact⟨rfl,hb'⟩)
    (fun hn=>by
     rcases hv with⟨_,h0⟩|⟨a,cap,rfl,hsp,hcap,hrows⟩
     ·rw[h0] at hl;have:=Nat.mul_pos hn hn;simp at hl;omega
     ·have hpos:0<l.length:=by rw[hl];exact Nat.mul_pos hn hn
      obtain⟨ab,ao,sp⟩:=a;have:sp=none:=hsp hpos;subst this;refine⟨ab,ao,cap,by rw[hl],by omega,fun i k hi hk=>?_⟩;have hik:i*n+k<l.length:=by have:=qLT n (show i+1<=n by omega);rw[qLH] at this;omega
      obtain⟨_,u,q1,q2⟩:=hrows (i*n+k) 0 (by simp) hik;cases q2;simp only[List.length_singleton,qNc,qM8] at q1;rw[q1];rfl)
    fin hf (by
     rcases hv with⟨rfl,_⟩|⟨a,cap,rfl,_⟩
     ·exact⟨_,_,_,rfl⟩
     ·exact⟨_,_,_,rfl⟩)
   split at hT
   ·rename_i hlt;cases hT;refine⟨rfl,rfl,key.mono ?_⟩;rintro e w' ⟨hb,⟨_,rfl⟩|⟨h,_⟩⟩
    ·refine⟨_,X.M,rfl,hb,fun _ h=>h,fun _ h=>.inl h,?_⟩;exact .tuple _ [_,_] (.cons (.agg _ [_,_,_] (.cons (.int _ _) (.cons (.int _ _) (.cons (.imm _ _ _ (.inl ⟨rfl,rfl⟩)) .nil)))) (.cons (.int _ _) .nil))
    ·omega
   ·rename_i hge;cases hT;refine⟨rfl,rfl,key.mono ?_⟩;rintro e w' ⟨hb,⟨h,_⟩|⟨_,u,rfl,ho⟩⟩
    ·exact absurd h hge
    ·refine⟨_,fun m=>X.M m\/u.ownBlock=some m,rfl,hb,fun _ h=>.inl h,fun m h=>?_,?_⟩
     ·rcases h with h|h
      ·exact .inl h
      ·exact .inr (ho.lt m h)
     ·exact .tuple _ [_,_] (.cons (.agg _ [_,_,_] (.cons (.int _ _) (.cons (.int _ _) (.cons (.imm _ _ _ (qAx ho fun b hb=>.inr hb)) .nil)))) (.cons (.int _ _) .nil))
  ·cases hT
 ·cases hT
end Go.Eng

namespace Go.Eng
open Go.Proofs
open Tryz
noncomputable def q7J:List (TypeId×TI):=[(1,(.mk .func 1 [.nilFunc] 8 false false)),(2,(.mk (.int .i64) 1 [(.int .i64 0)] 8 false false)),(3,(.mk (.int .i64) 1 [(.int .i64 0)] 8 false false)),(4,(.mk .bool 1 [(.bool false)] 1 false false)),(5,(.mk (.int .u8) 1 [(.int .u8 0)] 1 false false)),(6,(.mk (.int .u8) 1 [(.int .u8 0)] 1 false false)),(8,(.mk (.struct [(0,(2,1)),(1,(3,1)),(2,(4,1)),(3,(6,1))]) 4 [(.int .i64 0),(.int .i64 0),(.bool false),(.int .u8 0)] 24 true true)),(9,(.mk .str 1 [(.string (.mk (.mk [])))] 16 false false)),(10,(.mk .str 1 [(.string (.mk (.mk [])))] 16 false false)),(11,(.mk .str 1 [(.string (.mk (.mk [])))] 16 false false)),(12,(.mk (.int .u64) 1 [(.int .u64 0)] 8 false false)),(13,(.mk (.struct [(0,(9,1)),(1,(12,1))]) 2 [(.string (.mk (.mk []))),(.int .u64 0)] 24 false true)),(14,(.mk (.struct [(0,(9,1)),(1,(12,1))]) 2 [(.string (.mk (.mk []))),(.int .u64 0)] 24 false true)),(16,(.mk (.ptr 301) 1 [(.pointer .none)] 8 false false)),(17,(.mk (.ptr 309) 1 [(.pointer .none)] 8 false false)),(18,(.mk (.struct [(0,(17,1))]) 1 [(.pointer .none)] 8 false true)),(22,(.mk (.slice 26 2) 1 [(.slice .none 0 0)] 24 false false)),(26,(.mk (.struct [(0,(3,1)),(1,(3,1))]) 2 [(.int .i64 0),(.int .i64 0)] 16 true true)),(28,(.mk .func 1 [.nilFunc] 8 false false)),(30,(.mk .str 1 [(.string (.mk (.mk [])))] 16 false false)),(32,(.mk (.struct [(0,(30,1)),(1,(30,1))]) 2 [(.string (.mk (.mk []))),(.string (.mk (.mk [])))] 32 true true)),(33,(.mk (.slice 3 1) 1 [(.slice .none 0 0)] 24 false false)),(34,(.mk (.int .i64) 1 [(.int .i64 0)] 8 false false)),(39,(.mk .func 1 [.nilFunc] 8 false false)),(40,(.mk (.slice 43 3) 1 [(.slice .none 0 0)] 24 false false)),(43,(.mk (.struct [(0,(32,2)),(2,(30,1))]) 3 [(.string (.mk (.mk []))),(.string (.mk (.mk []))),(.string (.mk (.mk [])))] 48 true true)),(45,(.mk (.struct [(0,(3,1)),(1,(3,1)),(2,(3,1))]) 3 [(.int .i64 0),(.int .i64 0),(.int .i64 0)] 24 true true)),(46,(.mk (.struct [(0,(3,1)),(1,(3,1)),(2,(3,1))]) 3 [(.int .i64 0),(.int .i64 0),(.int .i64 0)] 24 true true)),(48,(.mk .func 1 [.nilFunc] 8 false false)),(50,(.mk .func 1 [.nilFunc] 8 false false)),(51,(.mk .func 1 [.nilFunc] 8 false false)),(52,(.mk .func 1 [.nilFunc] 8 false false)),(53,(.mk .func 1 [.nilFunc] 8 false false)),(54,(.mk .func 1 [.nilFunc] 8 false false)),(55,(.mk (.int .u16) 1 [(.int .u16 0)] 2 false false)),(57,(.mk .func 1 [.nilFunc] 8 false false)),(64,(.mk .func 1 [.nilFunc] 8 false false)),(67,(.mk (.array 3 30 1) 3 [(.string (.mk (.mk []))),(.string (.mk (.mk []))),(.string (.mk (.mk [])))] 48 false false)),(68,(.mk (.slice 30 1) 1 [(.slice .none 0 0)] 24 false false)),(70,(.mk (.struct [(0,(67,3)),(3,(30,1)),(4,(68,1))]) 5 [(.string (.mk (.mk []))),(.string (.mk (.mk []))),(.string (.mk (.mk []))),(.string (.mk (.mk []))),(.slice .none 0 0)] 88 true true)),(73,(.mk (.slice 115 3) 1 [(.slice .none 0 0)] 24 false false)),(76,(.mk .str 1 [(.string (.mk (.mk [])))] 16 false false)),(82,(.mk (.slice 76 1) 1 [(.slice .none 0 0)] 24 false false)),(87,(.mk (.ptr 89) 1 [(.pointer .none)] 8 false false)),(89,(.mk (.struct [(0,(34,1))]) 1 [(.int .i64 0)] 8 true true)),(96,(.mk .func 1 [.nilFunc] 8 false false)),(97,(.mk .func 1 [.nilFunc] 8 false false)),(99,(.mk .func 1 [.nilFunc] 8 false false)),(100,(.mk (.ptr 102) 1 [(.pointer .none)] 8 false false)),(101,(.mk (.struct [(0,(34,1))]) 1 [(.int .i64 0)] 8 true true)),(102,(.mk (.struct [(0,(34,1))]) 1 [(.int .i64 0)] 8 true true)),(105,(.mk .func 1 [.nilFunc] 8 false false)),(108,(.mk .func 1 [.nilFunc] 8 false false)),(109,(.mk .func 1 [.nilFunc] 8 false false)),(110,(.mk .func 1 [.nilFunc] 8 false false)),(115,(.mk (.struct [(0,(3,1)),(1,(3,1)),(2,(3,1))]) 3 [(.int .i64 0),(.int .i64 0),(.int .i64 0)] 24 true true)),(116,(.mk .func 1 [.nilFunc] 8 false false)),(120,(.mk .func 1 [.nilFunc] 8 false false)),(121,(.mk .func 1 [.nilFunc] 8 false false)),(123,(.mk (.slice 5 1) 1 [(.slice .none 0 0)] 24 false false)),(124,(.mk .func 1 [.nilFunc] 8 false false)),(125,(.mk .func 1 [.nilFunc] 8 false false)),(130,(.mk .func 1 [.nilFunc] 8 false false)),(135,(.mk .func 1 [.nilFunc] 8 false false)),(140,(.mk .func 1 [.nilFunc] 8 false false)),(141,(.mk (.slice 33 1) 1 [(.slice .none 0 0)] 24 false false)),(148,(.mk .func 1 [.nilFunc] 8 false false)),(150,(.mk (.struct [(0,(32,2)),(2,(32,2)),(4,(30,1))]) 5 [(.string (.mk (.mk []))),(.string (.mk (.mk []))),(.string (.mk (.mk []))),(.string (.mk (.mk []))),(.string (.mk (.mk [])))] 80 true true)),(154,(.mk .func 1 [.nilFunc] 8 false false)),(156,(.mk (.ptr 161) 1 [(.pointer .none)] 8 false false)),(159,(.mk (.array 232 3 1) 232 (List.replicate 232 (.int .i64 0)) 1856 false false)),(161,(.mk (.struct [(0,(4,1)),(1,(3,1)),(2,(159,232))]) 234 (List.append [(.bool false)] (List.replicate 233 (.int .i64 0))) 1872 true true)),(167,(.mk .func 1 [.nilFunc] 8 false false)),(174,(.mk (.struct [(0,(3,1)),(1,(3,1)),(2,(68,1))]) 3 [(.int .i64 0),(.int .i64 0),(.slice .none 0 0)] 40 true true)),(182,(.mk (.array 3 3 1) 3 [(.int .i64 0),(.int .i64 0),(.int .i64 0)] 24 false false)),(188,(.mk .func 1 [.nilFunc] 8 false false)),(224,(.mk (.struct [(0,(34,1))]) 1 [(.int .i64 0)] 8 true true)),(229,(.mk (.ptr 224) 1 [(.pointer .none)] 8 false false)),(243,(.mk .func 1 [.nilFunc] 8 false false)),(244,(.mk (.ptr 5) 1 [(.pointer .none)] 8 false false)),(246,(.mk .func 1 [.nilFunc] 8 false false)),(262,(.mk (.int .u32) 1 [(.int .u32 0)] 4 false false)),(272,(.mk (.int .u64) 1 [(.int .u64 0)] 8 false false)),(291,(.mk (.array 20 272 1) 20 [(.int .u64 0),(.int .u64 0),(.int .u64 0),(.int .u64 0),(.int .u64 0),(.int .u64 0),(.int .u64 0),(.int .u64 0),(.int .u64 0),(.int .u64 0),(.int .u64 0),(.int .u64 0),(.int .u64 0),(.int .u64 0),(.int .u64 0),(.int .u64 0),(.int .u64 0),(.int .u64 0),(.int .u64 0),(.int .u64 0)] 160 false false)),(299,(.mk (.array 0 16 1) 0 [] 0 false false)),(301,(.mk (.struct [(0,(299,0))]) 0 [] 0 false true)),(303,(.mk (.int .u8) 1 [(.int .u8 0)] 1 false false)),(304,(.mk (.int .u8) 1 [(.int .u8 0)] 1 false false)),(305,(.mk .func 1 [.nilFunc] 8 false false)),(306,(.mk (.int .i32) 1 [(.int .i32 0)] 4 false false)),(307,(.mk (.int .i32) 1 [(.int .i32 0)] 4 false false)),(309,(.mk (.struct [(0,(12,1)),(1,(12,1)),(2,(262,1)),(3,(303,1)),(4,(5,1)),(5,(5,1)),(6,(304,1)),(7,(305,1)),(8,(244,1)),(9,(306,1)),(10,(307,1))]) 11 [(.int .u64 0),(.int .u64 0),(.int .u32 0),(.int .u8 0),(.int .u8 0),(.int .u8 0),(.int .u8 0),.nilFunc,(.pointer .none),(.int .i32 0),(.int .i32 0)] 48 false true))]
noncomputable def qa:List (Nat×AV):=[(5,(.eptr [.int .u64,.int .u64,.int .u64,.int .u64,.int .u64,.int .u64,.int .u64,.int .u64,.int .u64,.int .u64,.int .u64,.int .u64,.int .u64,.int .u64,.int .u64,.int .u64,.int .u64,.int .u64,.int .u64,.int .u64] [[.i 1,.i 10,.i 100,.i 1000,.i 10000,.i 100000,.i 1000000,.i 10000000,.i 100000000,.i 1000000000,.i 10000000000,.i 100000000000,.i 1000000000000,.i 10000000000000,.i 100000000000000,.i 1000000000000000,.i 10000000000000000,.i 100000000000000000,.i 1000000000000000000,.i 10000000000000000000]] 0 0))]
theorem q8:q7J.map (fun x=>qw1 prog x.1)=q7J.map (·.2):=by kernel_rfl
theorem qc:prog.follows .mixedOrders=true:=by kernel_rfl
noncomputable def qe(s:List (FuncId×(List AV->List Blk->Tree (AV×List Blk))))(b:List (FuncId×Func))(l:List ((FuncId×Nat)×(St->Tree (Ex×St))))(n:Nat):Env:=⟨q7J,qa,s,b,l,n,[],[],[]⟩
def qmP:FIn:=⟨[(.int .i64)],[]⟩
def qmR:List FOut:=[⟨.bool,[],none⟩]
noncomputable def qtx:=qe [] [(58,f58)] [] 0
noncomputable def q5V:=qu qtx 58 f58 true qmP qmR
theorem qux:qQ prog qa 58 (q9 qmP qmR q5V):=sk qtx qc q8 aln aln (b1 func58) func58
def qae:FIn:=⟨[(.agg [(.int .i64),(.int .i64)])],[]⟩
def qap:List FOut:=[⟨.bool,[],none⟩]
noncomputable def qmx:=qe [(58,q9 qmP qmR q5V)] [(27,f27)] [] 0
noncomputable def q3P:=qu qmx 27 f27 true qae qap
theorem qg4:qQ prog qa 27 (q9 qae qap q3P):=sk qmx qc q8 (alc qux aln) aln (b1 func27) func27
def qg0:FIn:=⟨[(.imm [(.int .i64),(.int .i64)])],[]⟩
def qfA:List FOut:=[⟨(.int .i64),[],none⟩]
def qbj:Tmpl:={ t:=((.imm [(.int .i64),(.int .i64)])::.any::.any::(.int .i64)::qz 15 []),h:=[] }
def qb0:List Out:=[⟨(.exit 0),{ t:=(qz 19 []),h:=[] }⟩,⟨.ret,{ t:=(.any::.any::(.int .i64)::qz 16 []),h:=[] }⟩]
noncomputable def q73:=qe [(27,q9 qae qap q3P)] [(6,f6)] [] 0
noncomputable def uH:=vj q73 6 f6 6 qbj qb0
theorem ql4:ql prog qa q73.nimp (qD prog q73.iter 6) (zm f6 6) (qk qbj qb0 (qh uH)):=gk q73 qc q8 (alc qg4 aln) aln (b1 func6) func6
noncomputable def qmd:=qe [(27,q9 qae qap q3P)] [(6,f6)] [((6,6),qk qbj qb0 (qh uH))] 0
noncomputable def q1y:=qu qmd 6 f6 true qg0 qfA
theorem qpf:qQ prog qa 6 (q9 qg0 qfA q1y):=sk qmd qc q8 (alc qg4 aln) (alc (lk func6 ql4) aln) (b1 func6) func6
def qfS:FIn:=⟨[(.agg [(.int .i64),(.int .i64)]),(.agg [(.int .i64),(.int .i64)])],[]⟩
def qfR:List FOut:=[⟨(.int .i64),[],none⟩]
noncomputable def qlu:=qe [] [(29,f29)] [] 0
noncomputable def q69:=qu qlu 29 f29 true qfS qfR
theorem qoL:qQ prog qa 29 (q9 qfS qfR q69):=sk qlu qc q8 aln aln (b1 func29) func29
def qf7:FIn:=⟨[(.agg [(.int .i64),(.int .i64)]),(.agg [(.int .i64),(.int .i64)])],[]⟩
def qfn:List FOut:=[⟨(.agg [(.int .i64),(.int .i64)]),[],none⟩]
noncomputable def qlo:=qe [] [(30,f30)] [] 0
noncomputable def q75:=qu qlo 30 f30 true qf7 qfn
theorem qpa:qQ prog qa 30 (q9 qf7 qfn q75):=sk qlo qc q8 aln aln (b1 func30) func30
def qkn:FIn:=⟨[(.agg [(.int .i64),(.int .i64)]),(.agg [(.int .i64),(.int .i64)])],[]⟩
def qks:List FOut:=[⟨(.int .i64),[],none⟩]
noncomputable def qpB:=qe [(29,q9 qfS qfR q69),(30,q9 qf7 qfn q75)] [(9,f9)] [] 0
noncomputable def qbq:=qu qpB 9 f9 true qkn qks
theorem qs2:qQ prog qa 9 (q9 qkn qks qbq):=sk qpB qc q8 (alc qoL (alc qpa aln)) aln (b1 func9) func9
def jx:FIn:=⟨[(.agg [(.int .i64),(.int .i64)])],[]⟩
def jv:List FOut:=[⟨.bool,[],none⟩]
noncomputable def q7s:=qe [(9,q9 qkn qks qbq)] [(8,f8)] [] 0
noncomputable def zv:=qu q7s 8 f8 true jx jv
theorem kS:qQ prog qa 8 (q9 jx jv zv):=sk q7s qc q8 (alc qs2 aln) aln (b1 func8) func8
def qcG:FIn:=⟨[.str,.str,.str],[]⟩
def qcy:List FOut:=[⟨(.agg [.str,.str,.str]),[],none⟩]
noncomputable def qoC:=qe [] [(16,f16)] [] 0
noncomputable def zI:=qu qoC 16 f16 true qcG qcy
theorem qhi:qQ prog qa 16 (q9 qcG qcy zI):=sk qoC qc q8 aln aln (b1 func16) func16
def q2y:FIn:=⟨[.str,.str],[]⟩
def q2p:List FOut:=[⟨(.int .i64),[],none⟩]
noncomputable def vT:List PV->TR:=qwA
set_option maxRecDepth 100000 in
theorem q7M:qQ prog qa 164 (q9 q2y q2p vT):=qym lays219 (uB func164 (by kernel_rfl) (by kernel_rfl))
def uZ:FIn:=⟨[.str,.str],[]⟩
def uY:List FOut:=[⟨(.tuple [.str,.str,.bool]),[],none⟩]
noncomputable def q3Y:=qe [(164,q9 q2y q2p vT)] [(116,f116)] [] 0
noncomputable def wz:=qu q3Y 116 f116 true uZ uY
theorem q9d:qQ prog qa 116 (q9 uZ uY wz):=sk q3Y qc q8 (alc q7M aln) aln (b1 func116) func116
def qfO:FIn:=⟨[.str,.str],[]⟩
def qfz:List FOut:=[⟨(.tuple [.str,.str,.bool]),[],none⟩]
noncomputable def ql0:=qe [(116,q9 uZ uY wz)] [(81,f81)] [] 0
noncomputable def q6q:=qu ql0 81 f81 true qfO qfz
theorem qp4:qQ prog qa 81 (q9 qfO qfz q6q):=sk ql0 qc q8 (alc q9d aln) aln (b1 func81) func81
def q00:FIn:=⟨[.str],[]⟩
def q0i:List FOut:=[⟨(.tuple [.str,.str,.bool]),[],none⟩]
noncomputable def qpN:=qe [(81,q9 qfO qfz q6q)] [(55,f55)] [] 0
noncomputable def qL:=qu qpN 55 f55 true q00 q0i
theorem uf:qQ prog qa 55 (q9 q00 q0i qL):=sk qpN qc q8 (alc qp4 aln) aln (b1 func55) func55
def zV:FIn:=⟨[.str,.str],[]⟩
def zW:List FOut:=[⟨.bool,[],none⟩]
noncomputable def q0m:=qe [] [(166,f166)] [] 0
noncomputable def qO:=qu q0m 166 f166 true zV zW
theorem uL:qQ prog qa 166 (q9 zV zW qO):=sk q0m qc q8 aln aln (b1 func166) func166
def j7:FIn:=⟨[.str,.str],[]⟩
def ja:List FOut:=[⟨.str,[],none⟩]
noncomputable def kJ:=qe [(166,q9 zV zW qO)] [(122,f122)] [] 0
noncomputable def zq:=qu kJ 122 f122 true j7 ja
theorem q4B:qQ prog qa 122 (q9 j7 ja zq):=sk kJ qc q8 (alc uL aln) aln (b1 func122) func122
def yZ:FIn:=⟨[.str,.str],[]⟩
def u4:List FOut:=[⟨.str,[],none⟩]
noncomputable def q9v:=qe [(122,q9 j7 ja zq)] [(87,f87)] [] 0
noncomputable def zl:=qu q9v 87 f87 true yZ u4
theorem q1B:qQ prog qa 87 (q9 yZ u4 zl):=sk q9v qc q8 (alc q4B aln) aln (b1 func87) func87
def qjw:FIn:=⟨[.str,.str],[]⟩
def qjQ:List FOut:=[⟨.str,[],none⟩]
noncomputable def q8j:List PV->TR:=qC7
set_option maxRecDepth 100000 in
theorem qnX:qQ prog qa 108 (q9 qjw qjQ q8j):=qAs lays160 (uB func108 (by kernel_rfl) (by kernel_rfl)) (by kernel_rfl)
def kM:FIn:=⟨[.str],[]⟩
def kH:List FOut:=[⟨(.int .i64),[],none⟩]
noncomputable def ql3:=qe [(87,q9 yZ u4 zl),(108,q9 qjw qjQ q8j)] [(75,f75)] [] 0
noncomputable def zh:=qu ql3 75 f75 true kM kH
theorem ko:qQ prog qa 75 (q9 kM kH zh):=sk ql3 qc q8 (alc q1B (alc qnX aln)) aln (b1 func75) func75
def q2Z:FIn:=⟨[(.imm [.str])],[]⟩
def q2X:List FOut:=[⟨(.int .i64),[],none⟩]
def qfG:Tmpl:={ t:=(qz 6 ((.imm [.str])::(.int .i64)::(.int .i64)::qz 9 [])),h:=[] }
def qg2:List Out:=[⟨(.exit 0),{ t:=(qz 18 []),h:=[] }⟩,⟨.ret,{ t:=(.any::.any::(.int .i64)::qz 15 []),h:=[] }⟩]
noncomputable def qak:=qe [(75,q9 kM kH zh)] [(84,f84)] [] 0
noncomputable def q6L:=vj qak 84 f84 3 qfG qg2
theorem qp8:ql prog qa qak.nimp (qD prog qak.iter 84) (zm f84 3) (qk qfG qg2 (qh q6L)):=gk qak qc q8 (alc ko aln) aln (b1 func84) func84
noncomputable def qq1:=qe [(75,q9 kM kH zh)] [(84,f84)] [((84,3),qk qfG qg2 (qh q6L))] 0
noncomputable def wH:=qu qq1 84 f84 true q2Z q2X
theorem q2b:qQ prog qa 84 (q9 q2Z q2X wH):=sk qq1 qc q8 (alc ko aln) (alc (lk func84 qp8) aln) (b1 func84) func84
def q8r:FIn:=⟨[.str],[]⟩
def q8q:List FOut:=[⟨(.int .i64),[],none⟩]
noncomputable def qod:=qe [] [(85,f85)] [] 0
noncomputable def ug:=qu qod 85 f85 true q8r q8q
theorem qbS:qQ prog qa 85 (q9 q8r q8q ug):=sk qod qc q8 aln aln (b1 func85) func85
def qej:FIn:=⟨[.str,.str],[]⟩
def qe7:List FOut:=[⟨(.int .i64),[],none⟩]
noncomputable def q3J:List PV->TR:=qpw
set_option maxRecDepth 100000 in
theorem qiU:qQ prog qa 121 (q9 qej qe7 q3J):=qtW lays106 (uB func121 (by kernel_rfl) (by kernel_rfl))
def qeY:FIn:=⟨[.str,.str],[]⟩
def qfu:List FOut:=[⟨(.int .i64),[],none⟩]
noncomputable def qmI:=qe [(121,q9 qej qe7 q3J)] [(86,f86)] [] 0
noncomputable def q6n:=qu qmI 86 f86 true qeY qfu
theorem qoU:qQ prog qa 86 (q9 qeY qfu q6n):=sk qmI qc q8 (alc qiU aln) aln (b1 func86) func86
def q6F:FIn:=⟨[.str,.str],[]⟩
def q6I:List FOut:=[⟨(.tuple [(.int .i64),(.int .i64)]),[],none⟩]
noncomputable def qha:=qe [(84,q9 q2Z q2X wH),(85,q9 q8r q8q ug),(86,q9 qeY qfu q6n),(87,q9 yZ u4 zl)] [(57,f57)] [] 0
noncomputable def uA:=qu qha 57 f57 true q6F q6I
theorem qcg:qQ prog qa 57 (q9 q6F q6I uA):=sk qha qc q8 (alc q2b (alc qbS (alc qoU (alc q1B aln)))) aln (b1 func57) func57
def qdH:FIn:=⟨[.str],[]⟩
def qdl:List FOut:=[⟨(.tuple [(.int .i64),.any]),[],none⟩]
noncomputable def jU:List PV->TR:=qE6
set_option maxRecDepth 100000 in
theorem qep:qQ prog qa 151 (q9 qdH qdl jU):=qAg lays172 (uB func151 (by kernel_rfl) (by kernel_rfl))
def jj:FIn:=⟨[(.ptr 0 0)],[.big [.bool,(.int .i64)] .i64 232]⟩
def jm:List FOut:=[⟨(.ptr 0 0),[.big [.bool,(.int .i64)] .i64 232],none⟩]
def q2m:Tmpl:={ t:=((.ptr 0 0)::qz 28 []),h:=[.big [.bool,(.int .i64)] .i64 232] }
def q2l:List Out:=[⟨(.exit 0),{ t:=((.ptr 0 0)::qz 28 []),h:=[.big [.bool,(.int .i64)] .i64 232] }⟩]
noncomputable def uN:=qe [] [(152,f152)] [] 1
noncomputable def ju:=vj uN 152 f152 2 q2m q2l
theorem qdE:ql prog qa uN.nimp (qD prog uN.iter 152) (zm f152 2) (qk q2m q2l (qh ju)):=gk uN qc q8 aln aln (b1 func152) func152
noncomputable def q9w:=qe [] [(152,f152)] [((152,2),qk q2m q2l (qh ju))] 1
noncomputable def qZ:=qu q9w 152 f152 false jj jm
theorem ua:qQ prog qa 152 (q9 jj jm qZ):=qno (E:=q9w) qc ⟨q8t q8,⟨aln,aln⟩,(alc (lk func152 qdE) aln),(b1 func152)⟩ func152 (by kernel_rfl) (by kernel_rfl) (fun _=>rfl)
def q5M:FIn:=⟨[.str],[]⟩
def q5N:List FOut:=[⟨(.ptr 0 0),[.big [.bool,(.int .i64)] .i64 232],none⟩]
def qcX:Tmpl:={ t:=(.any::.any::.any::.str::(.ptr 0 0)::qz 43 []),h:=[.big [.bool,(.int .i64)] .i64 232] }
def qd0:List Out:=[⟨(.exit 0),{ t:=(qz 4 ((.ptr 0 0)::qz 43 [])),h:=[.big [.bool,(.int .i64)] .i64 232] }⟩]
noncomputable def qg3:List (FuncId×zw):=[(87,q9 yZ u4 zl),(151,q9 qdH qdl jU),(152,q9 jj jm qZ)]
theorem qjS:∀x,x∈qg3->qQ prog qa x.1 x.2:=(alc q1B (alc qep (alc ua aln)))
noncomputable def q8g:=qe qg3 [(109,f109)] [] 0
noncomputable def q4r:=vj q8g 109 f109 5 qcX qd0
theorem qnj:ql prog qa q8g.nimp (qD prog q8g.iter 109) (zm f109 5) (qk qcX qd0 (qh q4r)):=gk q8g qc q8 qjS aln (b1 func109) func109
noncomputable def qoq:=qe qg3 [(109,f109)] [((109,5),qk qcX qd0 (qh q4r))] 0
noncomputable def wL:=qu qoq 109 f109 false q5M q5N
theorem q77:qQ prog qa 109 (q9 q5M q5N wL):=qno (E:=qoq) qc ⟨q8t q8,⟨qjS,aln⟩,(alc (lk func109 qnj) aln),(b1 func109)⟩ func109 (by kernel_rfl) (by kernel_rfl) (fun _=>rfl)
def qjz:FIn:=⟨[(.int .i64)],[]⟩
def qjE:List FOut:=[⟨.str,[],none⟩]
noncomputable def q4p:List PV->TR:=qEh
set_option maxRecDepth 100000 in
theorem qnM:qQ prog qa 153 (q9 qjz qjE q4p):=qBe laysM171 (uB func153 (by kernel_rfl) (by kernel_rfl)) (by kernel_rfl) (by unfold qa;exact qLE)
def qaw:FIn:=⟨[(.int .i64)],[]⟩
def qax:List FOut:=[⟨.str,[],none⟩]
noncomputable def qtq:=qe [(153,q9 qjz qjE q4p)] [(110,f110)] [] 0
noncomputable def wP:=qu qtq 110 f110 true qaw qax
theorem q9G:qQ prog qa 110 (q9 qaw qax wP):=sk qtq qc q8 (alc qnM aln) aln (b1 func110) func110
def q1n:FIn:=⟨[(.ptr 0 0),(.ptr 1 0)],[.big [.bool,(.int .i64)] .i64 232,.big [.bool,(.int .i64)] .i64 232]⟩
def q1K:List FOut:=[⟨(.int .i64),[.big [.bool,(.int .i64)] .i64 232,.big [.bool,(.int .i64)] .i64 232],none⟩]
def q2T:Tmpl:={ t:=((.ptr 0 0)::(.ptr 1 0)::.any::.any::.any::(.int .i64)::qz 53 []),h:=[.big [.bool,(.int .i64)] .i64 232,.big [.bool,(.int .i64)] .i64 232] }
def q2U:List Out:=[⟨(.exit 0),{ t:=(qz 59 []),h:=[.big [.bool,(.int .i64)] .i64 232,.big [.bool,(.int .i64)] .i64 232] }⟩,⟨.ret,{ t:=(qz 4 ((.int .i64)::qz 54 [])),h:=[.big [.bool,(.int .i64)] .i64 232,.big [.bool,(.int .i64)] .i64 232] }⟩]
noncomputable def kG:=qe [] [(154,f154)] [] 2
noncomputable def yg:=vj kG 154 f154 6 q2T q2U
theorem qes:ql prog qa kG.nimp (qD prog kG.iter 154) (zm f154 6) (qk q2T q2U (qh yg)):=gk kG qc q8 aln aln (b1 func154) func154
noncomputable def qbk:=qe [] [(154,f154)] [((154,6),qk q2T q2U (qh yg))] 2
noncomputable def vn:=qu qbk 154 f154 true q1n q1K
theorem q7k:qQ prog qa 154 (q9 q1n q1K vn):=sk qbk qc q8 aln (alc (lk func154 qes) aln) (b1 func154) func154
def q8Z:FIn:=⟨[(.ptr 0 0),(.ptr 1 0)],[.big [.bool,(.int .i64)] .i64 232,.big [.bool,(.int .i64)] .i64 232]⟩
def q9p:List FOut:=[⟨(.int .i64),[.big [.bool,(.int .i64)] .i64 232,.big [.bool,(.int .i64)] .i64 232],none⟩]
noncomputable def qgK:=qe [] [(155,f155),(195,f195)] [] 2
noncomputable def q1R:=qu qgK 155 f155 true q8Z q9p
theorem qk1:qQ prog qa 155 (q9 q8Z q9p q1R):=sk qgK qc q8 aln aln (alc (bk func155) (alc (bk func195) aln)) func155
def yx:FIn:=⟨[(.ptr 0 0),(.ptr 1 0),(.int .i64),(.int .i64)],[.big [.bool,(.int .i64)] .i64 232,.big [.bool,(.int .i64)] .i64 232]⟩
def yq:List FOut:=[⟨(.tuple []),[.big [.bool,(.int .i64)] .i64 232,.big [.bool,(.int .i64)] .i64 232],none⟩]
def q4c:Tmpl:={ t:=((.ptr 0 0)::(.ptr 1 0)::(.int .i64)::(.int .i64)::qz 4 ((.int .i64)::(.int .i64)::qz 73 [])),h:=[.big [.bool,(.int .i64)] .i64 232,.big [.bool,(.int .i64)] .i64 232] }
def q42:List Out:=[⟨(.exit 0),{ t:=((.ptr 0 0)::qz 82 []),h:=[.big [.bool,(.int .i64)] .i64 232,.big [.bool,(.int .i64)] .i64 232] }⟩]
noncomputable def q0w:=qe [(152,q9 jj jm qZ)] [(156,f156)] [] 2
noncomputable def jk:=vj q0w 156 f156 3 q4c q42
theorem qfv:ql prog qa q0w.nimp (qD prog q0w.iter 156) (zm f156 3) (qk q4c q42 (qh jk)):=gk q0w qc q8 (alc ua aln) aln (b1 func156) func156
noncomputable def qcB:=qe [(152,q9 jj jm qZ)] [(156,f156)] [((156,3),qk q4c q42 (qh jk))] 2
noncomputable def zd:=qu qcB 156 f156 true yx yq
theorem kw:qQ prog qa 156 (q9 yx yq zd):=sk qcB qc q8 (alc ua aln) (alc (lk func156 qfv) aln) (b1 func156) func156
def q6D:FIn:=⟨[(.ptr 0 0),(.ptr 1 0)],[.big [.bool,(.int .i64)] .i64 232,.big [.bool,(.int .i64)] .i64 232]⟩
def q6g:List FOut:=[⟨(.tuple [(.ptr 2 0),(.ptr 3 0)]),[.big [.bool,(.int .i64)] .i64 232,.big [.bool,(.int .i64)] .i64 232,.big [.bool,(.int .i64)] .i64 232,.big [.bool,(.int .i64)] .i64 232],none⟩]
def q63:Tmpl:={ t:=((.ptr 0 0)::(.ptr 1 0)::qz 4 ((.ptr 2 0)::(.ptr 3 0)::(.int .i64)::(.int .i64)::qz 80 [])),h:=[.big [.bool,(.int .i64)] .i64 232,.big [.bool,(.int .i64)] .i64 232,.big [.bool,(.int .i64)] .i64 232,.big [.bool,(.int .i64)] .i64 232] }
def q6M:List Out:=[⟨(.exit 2),{ t:=((.ptr 0 0)::(.ptr 1 0)::qz 4 ((.ptr 2 0)::(.ptr 3 0)::(.int .i64)::(.int .i64)::qz 80 [])),h:=[.big [.bool,(.int .i64)] .i64 232,.big [.bool,(.int .i64)] .i64 232,.big [.bool,(.int .i64)] .i64 232,.big [.bool,(.int .i64)] .i64 232] }⟩]
noncomputable def q5d:List (FuncId×zw):=[(152,q9 jj jm qZ),(154,q9 q1n q1K vn),(155,q9 q8Z q9p q1R),(156,q9 yx yq zd)]
theorem q7u:∀x,x∈q5d->qQ prog qa x.1 x.2:=(alc ua (alc q7k (alc qk1 (alc kw aln))))
noncomputable def q2q:=qe q5d [(111,f111)] [] 2
noncomputable def yB:=vj q2q 111 f111 14 q63 q6M
theorem qi9:ql prog qa q2q.nimp (qD prog q2q.iter 111) (zm f111 14) (qk q63 q6M (qh yB)):=gk q2q qc q8 q7u aln (b1 func111) func111
def q7X:Tmpl:={ t:=((.ptr 0 0)::(.ptr 1 0)::qz 4 ((.ptr 2 0)::(.ptr 3 0)::(.int .i64)::qz 81 [])),h:=[.big [.bool,(.int .i64)] .i64 232,.big [.bool,(.int .i64)] .i64 232,.big [.bool,(.int .i64)] .i64 232,.big [.bool,(.int .i64)] .i64 232] }
def q7Q:List Out:=[⟨(.exit 0),{ t:=(qz 6 ((.ptr 2 0)::(.ptr 3 0)::qz 82 [])),h:=[.big [.bool,(.int .i64)] .i64 232,.big [.bool,(.int .i64)] .i64 232,.big [.bool,(.int .i64)] .i64 232,.big [.bool,(.int .i64)] .i64 232] }⟩]
noncomputable def q3R:=qe q5d [(111,f111)] [((111,14),qk q63 q6M (qh yB))] 2
noncomputable def q10:=vj q3R 111 f111 4 q7X q7Q
theorem qj2:ql prog qa q3R.nimp (qD prog q3R.iter 111) (zm f111 4) (qk q7X q7Q (qh q10)):=gk q3R qc q8 q7u (alc (lk func111 qi9) aln) (b1 func111) func111
noncomputable def qib:=qe q5d [(111,f111)] [((111,4),qk q7X q7Q (qh q10))] 2
noncomputable def uM:=qu qib 111 f111 false q6D q6g
theorem qcl:qQ prog qa 111 (q9 q6D q6g uM):=qno (E:=qib) qc ⟨q8t q8,⟨q7u,aln⟩,(alc (lk func111 qj2) aln),(b1 func111)⟩ func111 (by kernel_rfl) (by kernel_rfl) (fun _=>rfl)
def q3h:FIn:=⟨[(.ptr 0 0)],[.big [.bool,(.int .i64)] .i64 232]⟩
def q3O:List FOut:=[⟨.str,[.big [.bool,(.int .i64)] .i64 232],none⟩]
noncomputable def zB:List PV->TR:=qEo
theorem q44:qQ prog qa 112 (q9 q3h q3O zB):=qAI (by unfold qa;exact qLE)
def qbx:FIn:=⟨[.str,.str],[]⟩
def qaM:List FOut:=[⟨(.tuple [.str,(.int .i64)]),[],none⟩]
def qd6:Tmpl:={ t:=(qz 9 ((.int .i64)::(.int .i64)::qz 61 [])),h:=[] }
def qdO:List Out:=[⟨(.exit 2),{ t:=(qz 9 ((.int .i64)::qz 62 [])),h:=[] }⟩]
noncomputable def qcx:List (FuncId×zw):=[(84,q9 q2Z q2X wH),(109,q9 q5M q5N wL),(110,q9 qaw qax wP),(111,q9 q6D q6g uM),(112,q9 q3h q3O zB)]
theorem qeS:∀x,x∈qcx->qQ prog qa x.1 x.2:=(alc q2b (alc q77 (alc q9G (alc qcl (alc q44 aln)))))
noncomputable def q8b:=qe qcx [(76,f76)] [] 0
noncomputable def q26:=vj q8b 76 f76 14 qd6 qdO
theorem qnL:ql prog qa q8b.nimp (qD prog q8b.iter 76) (zm f76 14) (qk qd6 qdO (qh q26)):=gk q8b qc q8 qeS aln (b1 func76) func76
def qfM:Tmpl:={ t:=(qz 7 ((.ptr 1 0)::(.ptr 2 0)::qz 63 [])),h:=[.dead,.big [.bool,(.int .i64)] .i64 232,.big [.bool,(.int .i64)] .i64 232],sw:=[(7,1),(8,2)],swn:=0 }
def qft:List Out:=[⟨(.exit 0),{ t:=(qz 7 ((.ptr 1 0)::qz 64 [])),h:=[.dead,.big [.bool,(.int .i64)] .i64 232] }⟩,⟨.ret,{ t:=(qz 4 (.str::(.int .i64)::qz 66 [])),h:=[] }⟩]
noncomputable def q9S:=qe qcx [(76,f76)] [((76,14),qk qd6 qdO (qh q26))] 0
noncomputable def q6K:=vj q9S 76 f76 7 qfM qft
theorem qoJ:ql prog qa q9S.nimp (qD prog q9S.iter 76) (zm f76 7) (qk qfM qft (qh q6K)):=gk q9S qc q8 qeS (alc (lk func76 qnL) aln) (b1 func76) func76
noncomputable def qr8:=qe qcx [(76,f76)] [((76,7),qk qfM qft (qh q6K))] 0
noncomputable def q2L:=qu qr8 76 f76 true qbx qaM
theorem qda:qQ prog qa 76 (q9 qbx qaM q2L):=sk qr8 qc q8 qeS (alc (lk func76 qoJ) aln) (b1 func76) func76
def yd:FIn:=⟨[.str],[]⟩
def ya:List FOut:=[⟨(.int .i64),[],none⟩]
noncomputable def qmh:=qe [(55,q9 q00 q0i qL),(57,q9 q6F q6I uA),(75,q9 kM kH zh),(76,q9 qbx qaM q2L)] [(48,f48)] [] 0
noncomputable def qP:=qu qmh 48 f48 true yd ya
theorem jr:qQ prog qa 48 (q9 yd ya qP):=sk qmh qc q8 (alc uf (alc qcg (alc ko (alc qda aln)))) aln (b1 func48) func48
def q3u:FIn:=⟨[(.agg [.str,.str,.str])],[]⟩
def q3H:List FOut:=[⟨(.int .i64),[],none⟩]
def qaZ:Tmpl:={ t:=(.any::(.ptr 0 0)::qz 12 ((.vec 1)::(.int .i64)::(.int .i64)::qz 13 [])),h:=[.cells [.str,.str,.str],.vec 30 [.str]] }
def qaJ:List Out:=[⟨(.exit 0),{ t:=(.any::(.ptr 0 0)::qz 28 []),h:=[.cells [.str,.str,.str]] }⟩,⟨.ret,{ t:=(.any::.any::(.int .i64)::qz 27 []),h:=[] }⟩]
noncomputable def q6x:=qe [(48,q9 yd ya qP)] [(47,f47)] [] 0
noncomputable def q38:=vj q6x 47 f47 3 qaZ qaJ
theorem qlM:ql prog qa q6x.nimp (qD prog q6x.iter 47) (zm f47 3) (qk qaZ qaJ (qh q38)):=gk q6x qc q8 (alc jr aln) aln (b1 func47) func47
noncomputable def qlB:=qe [(48,q9 yd ya qP)] [(47,f47)] [((47,3),qk qaZ qaJ (qh q38))] 0
noncomputable def jM:=qu qlB 47 f47 true q3u q3H
theorem q5a:qQ prog qa 47 (q9 q3u q3H jM):=sk qlB qc q8 (alc jr aln) (alc (lk func47 qlM) aln) (b1 func47) func47
def qcF:FIn:=⟨[(.imm [.str,.str,.str])],[]⟩
def qco:List FOut:=[⟨(.int .i64),[],none⟩]
def qdF:Tmpl:={ t:=((.imm [.str,.str,.str])::qz 8 ((.imm [.str,.str,.str])::(.int .i64)::(.int .i64)::qz 12 [])),h:=[] }
def qdp:List Out:=[⟨(.exit 0),{ t:=((.imm [.str,.str,.str])::qz 23 []),h:=[] }⟩,⟨.ret,{ t:=(.any::.any::(.int .i64)::qz 21 []),h:=[] }⟩]
noncomputable def q86:=qe [(47,q9 q3u q3H jM)] [(45,f45)] [] 0
noncomputable def q4j:=vj q86 45 f45 6 qdF qdp
theorem qmV:ql prog qa q86.nimp (qD prog q86.iter 45) (zm f45 6) (qk qdF qdp (qh q4j)):=gk q86 qc q8 (alc q5a aln) aln (b1 func45) func45
noncomputable def qoz:=qe [(47,q9 q3u q3H jM)] [(45,f45)] [((45,6),qk qdF qdp (qh q4j))] 0
noncomputable def q1m:=qu qoz 45 f45 true qcF qco
theorem qhW:qQ prog qa 45 (q9 qcF qco q1m):=sk qoz qc q8 (alc q5a aln) (alc (lk func45 qmV) aln) (b1 func45) func45
def q6P:FIn:=⟨[.str,.str],[]⟩
def q72:List FOut:=[⟨(.tuple [(.int .i64),(.int .i64),.bool]),[],none⟩]
noncomputable def qm4:=qe [(151,q9 qdH qdl jU)] [(117,f117)] [] 0
noncomputable def uc:=qu qm4 117 f117 true q6P q72
theorem q95:qQ prog qa 117 (q9 q6P q72 uc):=sk qm4 qc q8 (alc qep aln) aln (b1 func117) func117
def q89:FIn:=⟨[(.int .i64)],[]⟩
def q88:List FOut:=[⟨(.tuple [.str,(.int .i64)]),[],none⟩]
noncomputable def qjH:=qe [(110,q9 qaw qax wP)] [(118,f118)] [] 0
noncomputable def q05:=qu qjH 118 f118 true q89 q88
theorem qdW:qQ prog qa 118 (q9 q89 q88 q05):=sk qjH qc q8 (alc q9G aln) aln (b1 func118) func118
def q67:FIn:=⟨[(.ptr 0 0),(.ptr 1 0)],[.big [.bool,(.int .i64)] .i64 232,.big [.bool,(.int .i64)] .i64 232]⟩
def q65:List FOut:=[⟨(.ptr 2 0),[.big [.bool,(.int .i64)] .i64 232,.big [.bool,(.int .i64)] .i64 232,.big [.bool,(.int .i64)] .i64 232],none⟩]
def q4a:Tmpl:={ t:=((.ptr 0 0)::(.ptr 1 0)::.any::.any::.any::(.ptr 2 0)::qz 15 ((.int .i64)::(.int .i64)::qz 14 [])),h:=[.big [.bool,(.int .i64)] .i64 232,.big [.bool,(.int .i64)] .i64 232,.big [.bool,(.int .i64)] .i64 232] }
def q47:List Out:=[⟨(.exit 0),{ t:=(qz 5 ((.ptr 2 0)::qz 31 [])),h:=[.big [.bool,(.int .i64)] .i64 232,.big [.bool,(.int .i64)] .i64 232,.big [.bool,(.int .i64)] .i64 232] }⟩]
noncomputable def q0r:=qe [(156,q9 yx yq zd)] [(119,f119)] [] 2
noncomputable def yV:=vj q0r 119 f119 4 q4a q47
theorem qf2:ql prog qa q0r.nimp (qD prog q0r.iter 119) (zm f119 4) (qk q4a q47 (qh yV)):=gk q0r qc q8 (alc kw aln) aln (b1 func119) func119
noncomputable def qct:=qe [(156,q9 yx yq zd)] [(119,f119)] [((119,4),qk q4a q47 (qh yV))] 2
noncomputable def kz:=qu qct 119 f119 false q67 q65
theorem qh2:qQ prog qa 119 (q9 q67 q65 kz):=qno (E:=qct) qc ⟨q8t q8,⟨(alc kw aln),aln⟩,(alc (lk func119 qf2) aln),(b1 func119)⟩ func119 (by kernel_rfl) (by kernel_rfl) (fun _=>rfl)
def q0x:FIn:=⟨[(.ptr 0 0)],[.big [.bool,(.int .i64)] .i64 232]⟩
def q0u:List FOut:=[⟨(.tuple [.str,(.int .i64)]),[.big [.bool,(.int .i64)] .i64 232],none⟩]
noncomputable def q9y:=qe [(75,q9 kM kH zh),(112,q9 q3h q3O zB)] [(120,f120)] [] 1
noncomputable def wC:=qu q9y 120 f120 true q0x q0u
theorem q6k:qQ prog qa 120 (q9 q0x q0u wC):=sk q9y qc q8 (alc ko (alc q44 aln)) aln (b1 func120) func120
def qb5:FIn:=⟨[.str,.str],[]⟩
def qaF:List FOut:=[⟨(.tuple [.str,(.int .i64)]),[],none⟩]
noncomputable def qq8:=qe [(84,q9 q2Z q2X wH),(109,q9 q5M q5N wL),(117,q9 q6P q72 uc),(118,q9 q89 q88 q05),(119,q9 q67 q65 kz),(120,q9 q0x q0u wC)] [(83,f83)] [] 0
noncomputable def q5f:=qu qq8 83 f83 true qb5 qaF
theorem qdk:qQ prog qa 83 (q9 qb5 qaF q5f):=sk qq8 qc q8 (alc q2b (alc q77 (alc q95 (alc qdW (alc qh2 (alc q6k aln)))))) aln (b1 func83) func83
def jO:FIn:=⟨[(.ptr 0 0),(.fn 83 [] []),.str,.str],[.cells [(.int .i64)]]⟩
def jX:List FOut:=[⟨.str,[.cells [(.int .i64)]],none⟩]
noncomputable def q4s:=qe [(83,q9 qb5 qaF q5f)] [(82,f82)] [] 1
noncomputable def zP:=qu q4s 82 f82 true jO jX
theorem q2t:qQ prog qa 82 (q9 jO jX zP):=sk q4s qc q8 (alc qdk aln) aln (b1 func82) func82
def vh:FIn:=⟨[(.ptr 0 0),(.imm [.str])],[.cells [(.int .i64)]]⟩
def ve:List FOut:=[⟨.str,[.cells [(.int .i64)]],none⟩]
def q74:Tmpl:={ t:=(qz 5 (.str::(.fn 82 [(.ptr 0 0)] [])::qz 4 ((.imm [.str])::(.int .i64)::(.int .i64)::qz 9 []))),h:=[.cells [(.int .i64)]] }
def q6N:List Out:=[⟨(.exit 0),{ t:=(qz 5 (.str::qz 17 [])),h:=[.cells [(.int .i64)]] }⟩]
noncomputable def q2z:=qe [(83,q9 qb5 qaF q5f),(82,q9 jO jX zP)] [(56,f56)] [] 1
noncomputable def yG:=vj q2z 56 f56 4 q74 q6N
theorem qhH:ql prog qa q2z.nimp (qD prog q2z.iter 56) (zm f56 4) (qk q74 q6N (qh yG)):=gk q2z qc q8 (alc qdk (alc q2t aln)) aln (b1 func56) func56
noncomputable def qgj:=qe [(83,q9 qb5 qaF q5f),(82,q9 jO jX zP)] [(56,f56)] [((56,4),qk q74 q6N (qh yG))] 1
noncomputable def qg:=qu qgj 56 f56 true vh ve
theorem vq:qQ prog qa 56 (q9 vh ve qg):=sk qgj qc q8 (alc qdk (alc q2t aln)) (alc (lk func56 qhH) aln) (b1 func56) func56
def q3x:FIn:=⟨[(.ptr 0 0),(.ptr 1 0)],[.big [.bool,(.int .i64)] .i64 232,.big [.bool,(.int .i64)] .i64 232]⟩
def q3A:List FOut:=[⟨(.tuple []),[.big [.bool,(.int .i64)] .i64 232,.big [.bool,(.int .i64)] .i64 232],none⟩]
noncomputable def qey:=qe [(154,q9 q1n q1K vn),(156,q9 yx yq zd)] [(241,f241)] [] 2
noncomputable def vH:=qu qey 241 f241 true q3x q3A
theorem q9A:qQ prog qa 241 (q9 q3x q3A vH):=sk qey qc q8 (alc q7k (alc kw aln)) aln (b1 func241) func241
def qka:FIn:=⟨[(.imm [.str])],[]⟩
def qjT:List FOut:=[⟨(.tuple [.str,(.int .i64)]),[],none⟩]
def qeW:Tmpl:={ t:=(qz 4 ((.ptr 0 0)::qz 4 ((.imm [.str])::(.int .i64)::(.int .i64)::qz 12 []))),h:=[.big [.bool,(.int .i64)] .i64 232] }
def qfH:List Out:=[⟨(.exit 0),{ t:=(qz 4 ((.ptr 0 0)::qz 19 [])),h:=[.big [.bool,(.int .i64)] .i64 232] }⟩]
noncomputable def qhC:List (FuncId×zw):=[(109,q9 q5M q5N wL),(120,q9 q0x q0u wC),(241,q9 q3x q3A vH)]
theorem qmA:∀x,x∈qhC->qQ prog qa x.1 x.2:=(alc q77 (alc q6k (alc q9A aln)))
noncomputable def q9W:=qe qhC [(227,f227)] [] 0
noncomputable def q6B:=vj q9W 227 f227 4 qeW qfH
theorem qoX:ql prog qa q9W.nimp (qD prog q9W.iter 227) (zm f227 4) (qk qeW qfH (qh q6B)):=gk q9W qc q8 qmA aln (b1 func227) func227
noncomputable def qqD:=qe qhC [(227,f227)] [((227,4),qk qeW qfH (qh q6B))] 0
noncomputable def qbJ:=qu qqD 227 f227 true qka qjT
theorem qsB:qQ prog qa 227 (q9 qka qjT qbJ):=sk qqD qc q8 qmA (alc (lk func227 qoX) aln) (b1 func227) func227
def qbH:FIn:=⟨[.str,.str],[]⟩
def qbL:List FOut:=[⟨(.tuple [.str,(.int .i64)]),[],none⟩]
noncomputable def qpG:=qe [(84,q9 q2Z q2X wH),(117,q9 q6P q72 uc),(118,q9 q89 q88 q05),(227,q9 qka qjT qbJ)] [(206,f206)] [] 0
noncomputable def q2Q:=qu qpG 206 f206 true qbH qbL
theorem qdK:qQ prog qa 206 (q9 qbH qbL q2Q):=sk qpG qc q8 (alc q2b (alc q95 (alc qdW (alc qsB aln)))) aln (b1 func206) func206
def q9h:FIn:=⟨[.str],[]⟩
def q8Y:List FOut:=[⟨.str,[],none⟩]
noncomputable def qgc:=qe [(85,q9 q8r q8q ug)] [(224,f224)] [] 0
noncomputable def q1W:=qu qgc 224 f224 true q9h q8Y
theorem qkN:qQ prog qa 224 (q9 q9h q8Y q1W):=sk qgc qc q8 (alc qbS aln) aln (b1 func224) func224
def qfr:FIn:=⟨[.str,.str],[]⟩
def qfE:List FOut:=[⟨(.tuple [.str,(.int .i64)]),[],none⟩]
noncomputable def qr9:=qe [(84,q9 q2Z q2X wH),(206,q9 qbH qbL q2Q),(224,q9 q9h q8Y q1W)] [(200,f200)] [] 0
noncomputable def q7v:=qu qr9 200 f200 true qfr qfE
theorem qjk:qQ prog qa 200 (q9 qfr qfE q7v):=sk qr9 qc q8 (alc q2b (alc qdK (alc qkN aln))) aln (b1 func200) func200
def q0f:FIn:=⟨[(.ptr 0 0),(.fn 200 [] []),.str,.str],[.cells [(.int .i64)]]⟩
def q07:List FOut:=[⟨.str,[.cells [(.int .i64)]],none⟩]
noncomputable def q4G:=qe [(200,q9 qfr qfE q7v)] [(82,f82)] [] 1
noncomputable def wT:=qu q4G 82 f82 true q0f q07
theorem qa3:qQ prog qa 82 (q9 q0f q07 wT):=sk q4G qc q8 (alc qjk aln) aln (b1 func82) func82
def kl:FIn:=⟨[(.ptr 0 0),.str,.str],[.cells [(.int .i64)]]⟩
def ke:List FOut:=[⟨.str,[.cells [(.int .i64)]],none⟩]
noncomputable def qgE:=qe [(200,q9 qfr qfE q7v),(82,q9 q0f q07 wT)] [(163,f163)] [] 1
noncomputable def zx:=qu qgE 163 f163 true kl ke
theorem q1H:qQ prog qa 163 (q9 kl ke zx):=sk qgE qc q8 (alc qjk (alc qa3 aln)) aln (b1 func163) func163
def qa0:FIn:=⟨[(.ptr 0 0),.str,.str,.str,.str],[.cells [(.int .i64)]]⟩
def q9H:List FOut:=[⟨(.tuple [.str,.str]),[.cells [(.int .i64)]],none⟩]
noncomputable def qmL:=qe [(56,q9 vh ve qg),(163,q9 kl ke zx)] [(162,f162)] [] 1
noncomputable def q3i:=qu qmL 162 f162 true qa0 q9H
theorem qgJ:qQ prog qa 162 (q9 qa0 q9H q3i):=sk qmL qc q8 (alc vq (alc q1H aln)) aln (b1 func162) func162
def wY:FIn:=⟨[(.imm [.str])],[]⟩
def wV:List FOut:=[⟨(.int .i64),[],none⟩]
def q96:Tmpl:={ t:=(qz 6 ((.imm [.str])::(.int .i64)::(.int .i64)::qz 9 [])),h:=[] }
def q9q:List Out:=[⟨(.exit 0),{ t:=(qz 18 []),h:=[] }⟩,⟨.ret,{ t:=(.any::.any::(.int .i64)::qz 15 []),h:=[] }⟩]
noncomputable def q4W:=qe [(48,q9 yd ya qP)] [(54,f54)] [] 0
noncomputable def q1Y:=vj q4W 54 f54 3 q96 q9q
theorem qk9:ql prog qa q4W.nimp (qD prog q4W.iter 54) (zm f54 3) (qk q96 q9q (qh q1Y)):=gk q4W qc q8 (alc jr aln) aln (b1 func54) func54
noncomputable def qjN:=qe [(48,q9 yd ya qP)] [(54,f54)] [((54,3),qk q96 q9q (qh q1Y))] 0
noncomputable def qE:=qu qjN 54 f54 true wY wV
theorem wt:qQ prog qa 54 (q9 wY wV qE):=sk qjN qc q8 (alc jr aln) (alc (lk func54 qk9) aln) (b1 func54) func54
def q5n:FIn:=⟨[.str,.str],[]⟩
def q5m:List FOut:=[⟨.bool,[],none⟩]
noncomputable def qaB:=qe [(166,q9 zV zW qO)] [(221,f221)] [] 0
noncomputable def uK:=qu qaB 221 f221 true q5n q5m
theorem qgN:qQ prog qa 221 (q9 q5n q5m uK):=sk qaB qc q8 (alc uL aln) aln (b1 func221) func221
def qdT:FIn:=⟨[.str,.str],[]⟩
def qdP:List FOut:=[⟨.str,[],none⟩]
noncomputable def qjJ:=qe [] [(222,f222)] [] 0
noncomputable def q29:=qu qjJ 222 f222 true qdT qdP
theorem qna:qQ prog qa 222 (q9 qdT qdP q29):=sk qjJ qc q8 aln aln (b1 func222) func222
def qdg:FIn:=⟨[.str,.str],[]⟩
def qdR:List FOut:=[⟨(.tuple [.str,.str,(.int .i64)]),[],none⟩]
noncomputable def qjG:=qe [(84,q9 q2Z q2X wH),(109,q9 q5M q5N wL),(110,q9 qaw qax wP),(111,q9 q6D q6g uM),(112,q9 q3h q3O zB),(117,q9 q6P q72 uc),(241,q9 q3x q3A vH)] [(240,f240)] [] 0
noncomputable def q4I:=qu qjG 240 f240 true qdg qdR
theorem qnD:qQ prog qa 240 (q9 qdg qdR q4I):=sk qjG qc q8 (alc q2b (alc q77 (alc q9G (alc qcl (alc q44 (alc q95 (alc q9A aln))))))) aln (b1 func240) func240
def qfd:FIn:=⟨[.str,.str],[]⟩
def qfP:List FOut:=[⟨(.tuple [.str,(.int .i64)]),[],none⟩]
noncomputable def qpR:=qe [(75,q9 kM kH zh),(240,q9 qdg qdR q4I)] [(223,f223)] [] 0
noncomputable def q7G:=qu qpR 223 f223 true qfd qfP
theorem qjb:qQ prog qa 223 (q9 qfd qfP q7G):=sk qpR qc q8 (alc ko (alc qnD aln)) aln (b1 func223) func223
def jS:FIn:=⟨[(.ptr 0 0),(.fn 76 [] []),.str,.str],[.cells [(.int .i64)]]⟩
def q0e:List FOut:=[⟨.str,[.cells [(.int .i64)]],none⟩]
noncomputable def q4Q:=qe [(76,q9 qbx qaM q2L)] [(82,f82)] [] 1
noncomputable def wS:=qu q4Q 82 f82 true jS q0e
theorem q9K:qQ prog qa 82 (q9 jS q0e wS):=sk q4Q qc q8 (alc qda aln) aln (b1 func82) func82
def jW:FIn:=⟨[(.ptr 0 0),(.fn 223 [] []),.str,.str],[.cells [(.int .i64)]]⟩
def q0c:List FOut:=[⟨.str,[.cells [(.int .i64)]],none⟩]
noncomputable def q4M:=qe [(223,q9 qfd qfP q7G)] [(82,f82)] [] 1
noncomputable def z7:=qu q4M 82 f82 true jW q0c
theorem qa8:qQ prog qa 82 (q9 jW q0c z7):=sk q4M qc q8 (alc qjb aln) aln (b1 func82) func82
def jz:FIn:=⟨[(.ptr 0 0),.str,.str],[.cells [(.int .i64)]]⟩
def jD:List FOut:=[⟨.str,[.cells [(.int .i64)]],none⟩]
noncomputable def qb8:=qe [(76,q9 qbx qaM q2L),(163,q9 kl ke zx),(221,q9 q5n q5m uK),(222,q9 qdT qdP q29),(223,q9 qfd qfP q7G),(82,qKZ [(jS,q9 jS q0e wS),(jW,q9 jW q0c z7)])] [(199,f199)] [] 1
noncomputable def zf:=qu qb8 199 f199 true jz jD
theorem uQ:qQ prog qa 199 (q9 jz jD zf):=sk qb8 qc q8 (alc qda (alc q1H (alc qgN (alc qna (alc qjb (alc (qFC (uB func82 (by kernel_rfl) (by kernel_rfl)) (qA4 q9K (qA4 qa8 qHT))) aln)))))) aln (b1 func199) func199
def q0R:FIn:=⟨[.str,.str,(.fn 162 [] [])],[]⟩
def q0Y:List FOut:=[⟨(.tuple [.str,(.int .i64)]),[],none⟩]
noncomputable def q5D:=qe [(54,q9 wY wV qE),(55,q9 q00 q0i qL),(162,q9 qa0 q9H q3i),(199,q9 jz jD zf)] [(161,f161)] [] 0
noncomputable def vu:=qu q5D 161 f161 true q0R q0Y
theorem qaU:qQ prog qa 161 (q9 q0R q0Y vu):=sk q5D qc q8 (alc wt (alc uf (alc qgJ (alc uQ aln)))) aln (b1 func161) func161
def q7y:FIn:=⟨[.str,.str],[]⟩
def q7S:List FOut:=[⟨(.tuple [.str,(.int .i64)]),[],none⟩]
noncomputable def qpU:=qe [(162,q9 qa0 q9H q3i),(161,q9 q0R q0Y vu)] [(115,f115)] [] 0
noncomputable def zJ:=qu qpU 115 f115 true q7y q7S
theorem q4E:qQ prog qa 115 (q9 q7y q7S zJ):=sk qpU qc q8 (alc qgJ (alc qaU aln)) aln (b1 func115) func115
def q03:FIn:=⟨[(.ptr 0 0),(.fn 115 [] []),.str,.str],[.cells [(.int .i64)]]⟩
def q0k:List FOut:=[⟨.str,[.cells [(.int .i64)]],none⟩]
noncomputable def q4m:=qe [(115,q9 q7y q7S zJ)] [(114,f114)] [] 1
noncomputable def wU:=qu q4m 114 f114 true q03 q0k
theorem q9F:qQ prog qa 114 (q9 q03 q0k wU):=sk q4m qc q8 (alc q4E aln) aln (b1 func114) func114
def yM:FIn:=⟨[(.ptr 0 0),.str,.str],[.cells [(.int .i64)]]⟩
def yL:List FOut:=[⟨.str,[.cells [(.int .i64)]],none⟩]
noncomputable def qgh:=qe [(115,q9 q7y q7S zJ),(114,q9 q03 q0k wU)] [(78,f78)] [] 1
noncomputable def qN:=qu qgh 78 f78 true yM yL
theorem uC:qQ prog qa 78 (q9 yM yL qN):=sk qgh qc q8 (alc q4E (alc q9F aln)) aln (b1 func78) func78
def q0L:FIn:=⟨[(.ptr 0 0),(.agg [.str,.str]),(.agg [.str,.str])],[.cells [(.int .i64)]]⟩
def q0H:List FOut:=[⟨(.agg [.str,.str]),[.cells [(.int .i64)]],none⟩]
noncomputable def qem:=qe [(78,q9 yM yL qN)] [(79,f79)] [] 1
noncomputable def wk:=qu qem 79 f79 true q0L q0H
theorem q3Z:qQ prog qa 79 (q9 q0L q0H wk):=sk qem qc q8 (alc uC aln) aln (b1 func79) func79
def q04:FIn:=⟨[(.ptr 0 0),(.fn 206 [] []),.str,.str],[.cells [(.int .i64)]]⟩
def kO:List FOut:=[⟨.str,[.cells [(.int .i64)]],none⟩]
noncomputable def q4S:=qe [(206,q9 qbH qbL q2Q)] [(82,f82)] [] 1
noncomputable def v6:=qu q4S 82 f82 true q04 kO
theorem qab:qQ prog qa 82 (q9 q04 kO v6):=sk q4S qc q8 (alc qdK aln) aln (b1 func82) func82
def q4U:FIn:=⟨[(.ptr 0 0),.str,.str],[.cells [(.int .i64)]]⟩
def q4Y:List FOut:=[⟨.str,[.cells [(.int .i64)]],none⟩]
noncomputable def qgr:=qe [(206,q9 qbH qbL q2Q),(82,q9 q04 kO v6)] [(168,f168)] [] 1
noncomputable def yQ:=qu qgr 168 f168 true q4U q4Y
theorem qaQ:qQ prog qa 168 (q9 q4U q4Y yQ):=sk qgr qc q8 (alc qdK (alc qab aln)) aln (b1 func168) func168
def q9Y:FIn:=⟨[(.ptr 0 0),.str,.str,.str,.str],[.cells [(.int .i64)]]⟩
def q9T:List FOut:=[⟨(.tuple [.str,.str]),[.cells [(.int .i64)]],none⟩]
noncomputable def qm3:=qe [(56,q9 vh ve qg),(168,q9 q4U q4Y yQ)] [(167,f167)] [] 1
noncomputable def q3C:=qu qm3 167 f167 true q9Y q9T
theorem qgl:qQ prog qa 167 (q9 q9Y q9T q3C):=sk qm3 qc q8 (alc vq (alc qaQ aln)) aln (b1 func167) func167
def q0S:FIn:=⟨[.str,.str,(.fn 167 [] [])],[]⟩
def q0K:List FOut:=[⟨(.tuple [.str,(.int .i64)]),[],none⟩]
noncomputable def q5R:=qe [(54,q9 wY wV qE),(55,q9 q00 q0i qL),(167,q9 q9Y q9T q3C),(199,q9 jz jD zf)] [(161,f161)] [] 0
noncomputable def vM:=qu q5R 161 f161 true q0S q0K
theorem qbv:qQ prog qa 161 (q9 q0S q0K vM):=sk q5R qc q8 (alc wt (alc uf (alc qgl (alc uQ aln)))) aln (b1 func161) func161
def q1v:FIn:=⟨[.str,.str],[]⟩
def q1M:List FOut:=[⟨(.tuple [.str,(.int .i64)]),[],none⟩]
noncomputable def qql:=qe [(167,q9 q9Y q9T q3C),(161,q9 q0S q0K vM)] [(123,f123)] [] 0
noncomputable def je:=qu qql 123 f123 true q1v q1M
theorem q02:qQ prog qa 123 (q9 q1v q1M je):=sk qql qc q8 (alc qgl (alc qbv aln)) aln (b1 func123) func123
def kP:FIn:=⟨[(.ptr 0 0),(.fn 123 [] []),.str,.str],[.cells [(.int .i64)]]⟩
def q0d:List FOut:=[⟨.str,[.cells [(.int .i64)]],none⟩]
noncomputable def q4F:=qe [(123,q9 q1v q1M je)] [(114,f114)] [] 1
noncomputable def v7:=qu q4F 114 f114 true kP q0d
theorem qat:qQ prog qa 114 (q9 kP q0d v7):=sk q4F qc q8 (alc q02 aln) aln (b1 func114) func114
def kh:FIn:=⟨[(.ptr 0 0),.str,.str],[.cells [(.int .i64)]]⟩
def kp:List FOut:=[⟨.str,[.cells [(.int .i64)]],none⟩]
noncomputable def qgt:=qe [(123,q9 q1v q1M je),(114,q9 kP q0d v7)] [(88,f88)] [] 1
noncomputable def zp:=qu qgt 88 f88 true kh kp
theorem q1L:qQ prog qa 88 (q9 kh kp zp):=sk qgt qc q8 (alc q02 (alc qat aln)) aln (b1 func88) func88
def qaj:FIn:=⟨[(.ptr 0 0),.str,.str,.str,.str],[.cells [(.int .i64)]]⟩
def q9U:List FOut:=[⟨(.tuple [.str,.str]),[.cells [(.int .i64)]],none⟩]
noncomputable def qla:=qe [(56,q9 vh ve qg)] [(169,f169)] [] 1
noncomputable def q3s:=qu qla 169 f169 true qaj q9U
theorem qgA:qQ prog qa 169 (q9 qaj q9U q3s):=sk qla qc q8 (alc vq aln) aln (b1 func169) func169
def q17:FIn:=⟨[.str,.str,(.fn 169 [] [])],[]⟩
def q19:List FOut:=[⟨(.tuple [.str,(.int .i64)]),[],none⟩]
noncomputable def q5L:=qe [(54,q9 wY wV qE),(55,q9 q00 q0i qL),(169,q9 qaj q9U q3s),(199,q9 jz jD zf)] [(161,f161)] [] 0
noncomputable def vB:=qu q5L 161 f161 true q17 q19
theorem qbg:qQ prog qa 161 (q9 q17 q19 vB):=sk q5L qc q8 (alc wt (alc uf (alc qgA (alc uQ aln)))) aln (b1 func161) func161
def q5s:FIn:=⟨[.str,.str],[]⟩
def q5v:List FOut:=[⟨(.tuple [.str,(.int .i64)]),[],none⟩]
noncomputable def qrD:=qe [(169,q9 qaj q9U q3s),(161,q9 q17 q19 vB)] [(124,f124)] [] 0
noncomputable def vt:=qu qrD 124 f124 true q5s q5v
theorem q28:qQ prog qa 124 (q9 q5s q5v vt):=sk qrD qc q8 (alc qgA (alc qbg aln)) aln (b1 func124) func124
def q0b:FIn:=⟨[(.ptr 0 0),(.fn 124 [] []),.str,.str],[.cells [(.int .i64)]]⟩
def kZ:List FOut:=[⟨.str,[.cells [(.int .i64)]],none⟩]
noncomputable def q4v:=qe [(124,q9 q5s q5v vt)] [(114,f114)] [] 1
noncomputable def v8:=qu q4v 114 f114 true q0b kZ
theorem qa4:qQ prog qa 114 (q9 q0b kZ v8):=sk q4v qc q8 (alc q28 aln) aln (b1 func114) func114
def kf:FIn:=⟨[(.ptr 0 0),.str,.str],[.cells [(.int .i64)]]⟩
def kn:List FOut:=[⟨.str,[.cells [(.int .i64)]],none⟩]
noncomputable def qgB:=qe [(124,q9 q5s q5v vt),(114,q9 q0b kZ v8)] [(89,f89)] [] 1
noncomputable def qR:=qu qgB 89 f89 true kf kn
theorem q1I:qQ prog qa 89 (q9 kf kn qR):=sk qgB qc q8 (alc q28 (alc qa4 aln)) aln (b1 func89) func89
def q24:FIn:=⟨[(.ptr 0 0),(.agg [.str,.str]),(.agg [.str,.str])],[.cells [(.int .i64)]]⟩
def q20:List FOut:=[⟨.str,[.cells [(.int .i64)]],none⟩]
noncomputable def qgu:=qe [(88,q9 kh kp zp),(89,q9 kf kn qR)] [(80,f80)] [] 1
noncomputable def zL:=qu qgu 80 f80 true q24 q20
theorem q5B:qQ prog qa 80 (q9 q24 q20 zL):=sk qgu qc q8 (alc q1L (alc q1I aln)) aln (b1 func80) func80
def qas:FIn:=⟨[(.ptr 0 0),.str,.str,.str,.str],[.cells [(.int .i64)]]⟩
def qaf:List FOut:=[⟨(.tuple [.str,.str]),[.cells [(.int .i64)]],none⟩]
noncomputable def qlk:=qe [(56,q9 vh ve qg)] [(187,f187)] [] 1
noncomputable def q3n:=qu qlk 187 f187 true qas qaf
theorem qg8:qQ prog qa 187 (q9 qas qaf q3n):=sk qlk qc q8 (alc vq aln) aln (b1 func187) func187
def q0D:FIn:=⟨[.str,.str,(.fn 187 [] [])],[]⟩
def q1c:List FOut:=[⟨(.tuple [.str,(.int .i64)]),[],none⟩]
noncomputable def q5O:=qe [(54,q9 wY wV qE),(55,q9 q00 q0i qL),(187,q9 qas qaf q3n),(199,q9 jz jD zf)] [(161,f161)] [] 0
noncomputable def vN:=qu q5O 161 f161 true q0D q1c
theorem qbe:qQ prog qa 161 (q9 q0D q1c vN):=sk q5O qc q8 (alc wt (alc uf (alc qg8 (alc uQ aln)))) aln (b1 func161) func161
def qg1:FIn:=⟨[.str,.str],[]⟩
def qfN:List FOut:=[⟨(.tuple [.str,(.int .i64)]),[],none⟩]
noncomputable def qqB:=qe [(54,q9 wY wV qE),(187,q9 qas qaf q3n),(161,q9 q0D q1c vN)] [(142,f142)] [] 0
noncomputable def kY:=qu qqB 142 f142 true qg1 qfN
theorem qdr:qQ prog qa 142 (q9 qg1 qfN kY):=sk qqB qc q8 (alc wt (alc qg8 (alc qbe aln))) aln (b1 func142) func142
def kV:FIn:=⟨[(.ptr 0 0),(.fn 142 [] []),.str,.str],[.cells [(.int .i64)]]⟩
def q0j:List FOut:=[⟨.str,[.cells [(.int .i64)]],none⟩]
noncomputable def q4H:=qe [(142,q9 qg1 qfN kY)] [(114,f114)] [] 1
noncomputable def zQ:=qu q4H 114 f114 true kV q0j
theorem qa9:qQ prog qa 114 (q9 kV q0j zQ):=sk q4H qc q8 (alc qdr aln) aln (b1 func114) func114
def q2s:FIn:=⟨[(.ptr 0 0),(.imm [.str,.str,.str]),(.agg [(.int .i64),(.int .i64),(.int .i64)])],[.cells [(.int .i64)]]⟩
def q2F:List FOut:=[⟨(.tuple [(.agg [.str,.str,.str,.str,.str]),.bool]),[.cells [(.int .i64)]],none⟩]
noncomputable def qcf:=qe [(78,q9 yM yL qN),(79,q9 q0L q0H wk),(80,q9 q24 q20 zL),(88,q9 kh kp zp),(89,q9 kf kn qR),(142,q9 qg1 qfN kY),(114,q9 kV q0j zQ)] [(103,f103)] [] 1
noncomputable def jd:=qu qcf 103 f103 true q2s q2F
theorem q8E:qQ prog qa 103 (q9 q2s q2F jd):=sk qcf qc q8 (alc uC (alc q3Z (alc q5B (alc q1L (alc q1I (alc qdr (alc qa9 aln))))))) aln (b1 func103) func103
def qcN:FIn:=⟨[.str],[]⟩
def qcH:List FOut:=[⟨(.tuple [(.int .i64),(.int .i64)]),[],none⟩]
noncomputable def qoD:=qe [(75,q9 kM kH zh),(85,q9 q8r q8q ug)] [(184,f184)] [] 0
noncomputable def q3f:=qu qoD 184 f184 true qcN qcH
theorem qhx:qQ prog qa 184 (q9 qcN qcH q3f):=sk qoD qc q8 (alc ko (alc qbS aln)) aln (b1 func184) func184
def q3o:FIn:=⟨[(.ptr 0 0),.str],[.cells [(.int .i64)]]⟩
def q3B:List FOut:=[⟨(.int .i64),[.cells [(.int .i64)]],none⟩]
noncomputable def qex:=qe [(184,q9 qcN qcH q3f)] [(198,f198)] [] 1
noncomputable def zD:=qu qex 198 f198 true q3o q3B
theorem q9B:qQ prog qa 198 (q9 q3o q3B zD):=sk qex qc q8 (alc qhx aln) aln (b1 func198) func198
def q7E:FIn:=⟨[(.ptr 0 0),.str,.str,.str],[.cells [(.int .i64)]]⟩
def q7x:List FOut:=[⟨(.int .i64),[.cells [(.int .i64)]],none⟩]
noncomputable def qed:=qe [(56,q9 vh ve qg),(163,q9 kl ke zx),(198,q9 q3o q3B zD)] [(197,f197)] [] 1
noncomputable def ut:=qu qed 197 f197 true q7E q7x
theorem qj9:qQ prog qa 197 (q9 q7E q7x ut):=sk qed qc q8 (alc vq (alc q1H (alc q9B aln))) aln (b1 func197) func197
def q7I:FIn:=⟨[.str,.str,.str,.str,.str],[]⟩
def q7W:List FOut:=[⟨(.tuple [(.int .i64),(.int .i64)]),[],none⟩]
noncomputable def qe9:=qe [(54,q9 wY wV qE),(55,q9 q00 q0i qL),(56,q9 vh ve qg),(163,q9 kl ke zx),(168,q9 q4U q4Y yQ),(197,q9 q7E q7x ut),(198,q9 q3o q3B zD)] [(160,f160)] [] 0
noncomputable def q0C:=qu qe9 160 f160 true q7I q7W
theorem qiW:qQ prog qa 160 (q9 q7I q7W q0C):=sk qe9 qc q8 (alc wt (alc uf (alc vq (alc q1H (alc qaQ (alc qj9 (alc q9B aln))))))) aln (b1 func160) func160
def q8Q:FIn:=⟨[.str,.str,.str],[]⟩
def q8V:List FOut:=[⟨(.tuple [(.int .i64),(.int .i64)]),[],none⟩]
noncomputable def qg9:=qe [(160,q9 q7I q7W q0C)] [(113,f113)] [] 0
noncomputable def q22:=qu qg9 113 f113 true q8Q q8V
theorem qkh:qQ prog qa 113 (q9 q8Q q8V q22):=sk qg9 qc q8 (alc qiW aln) aln (b1 func113) func113
def q0Z:FIn:=⟨[(.ptr 0 0),.str,.str,.str],[.cells [(.int .i64)]]⟩
def q0X:List FOut:=[⟨(.int .i64),[.cells [(.int .i64)]],none⟩]
noncomputable def qel:=qe [(113,q9 q8Q q8V q22)] [(77,f77)] [] 1
noncomputable def wi:=qu qel 77 f77 true q0Z q0X
theorem q43:qQ prog qa 77 (q9 q0Z q0X wi):=sk qel qc q8 (alc qkh aln) aln (b1 func77) func77
def q2w:FIn:=⟨[(.ptr 0 0),(.agg [.str,.str,.str]),(.agg [.str,.str,.str,.str,.str])],[.cells [(.int .i64)]]⟩
def q2D:List FOut:=[⟨.bool,[.cells [(.int .i64)]],none⟩]
noncomputable def qcQ:=qe [(77,q9 q0Z q0X wi),(78,q9 yM yL qN),(79,q9 q0L q0H wk),(80,q9 q24 q20 zL),(88,q9 kh kp zp),(89,q9 kf kn qR)] [(105,f105)] [] 1
noncomputable def yu:=qu qcQ 105 f105 true q2w q2D
theorem q8s:qQ prog qa 105 (q9 q2w q2D yu):=sk qcQ qc q8 (alc q43 (alc uC (alc q3Z (alc q5B (alc q1L (alc q1I aln)))))) aln (b1 func105) func105
def q5p:FIn:=⟨[(.ptr 0 0),(.imm [.str,.str,.str]),(.agg [(.int .i64),(.int .i64),(.int .i64)])],[.cells [(.int .i64)]]⟩
def q5A:List FOut:=[⟨.bool,[.cells [(.int .i64)]],none⟩]
def q01:Tmpl:={ t:=((.imm [.str,.str,.str])::(.fn 107 [] [(.ptr 4 0)])::qz 5 ((.int .i64)::(.int .i64)::qz 10 [])),h:=[.cells [(.int .i64)],.cells [(.ptr 0 0)],.cells [(.int .i64),(.int .i64),(.int .i64)],.cells [.str,.str,.str,.str,.str],.cells [(.fn 104 [] [(.ptr 1 0),(.ptr 3 0)])]],fs:=[[(.imm [.str,.str,.str]),(.fn 107 [] [(.ptr 4 0)]),.any,.any,(.blit false),(.imm [.str,.str,.str]),(.fn 107 [] [(.ptr 4 0)]),.any,.any],[(.ptr 0 0),(.imm [.str,.str,.str]),(.agg [(.int .i64),(.int .i64),(.int .i64)]),(.ptr 1 0),.any,(.ptr 2 0),(.blit false),(.ptr 3 0),.bool,(.ptr 4 0),(.tuple [(.agg [.str,.str,.str,.str,.str]),.bool]),(.ptr 0 0),(.imm [.str,.str,.str]),(.agg [(.int .i64),(.int .i64),(.int .i64)]),(.tuple [(.agg [.str,.str,.str,.str,.str]),.bool]),(.agg [.str,.str,.str,.str,.str]),.bool,(.fn 104 [] [(.ptr 1 0),(.ptr 3 0)]),.bool,(.blit true),(.imm [.str,.str,.str]),(.fn 107 [] [(.ptr 4 0)]),.any,.any,.any,.any,.any,.any,.any,.any,.any,.any],[]] }
def kQ:List Out:=[⟨(.exit 0),{ t:=(qz 19 []),h:=[.cells [(.int .i64)],.cells [(.ptr 0 0)],.cells [(.int .i64),(.int .i64),(.int .i64)],.cells [.str,.str,.str,.str,.str],.cells [(.fn 104 [] [(.ptr 1 0),(.ptr 3 0)])]],fs:=[[(.imm [.str,.str,.str]),(.fn 107 [] [(.ptr 4 0)]),.any,.any,(.blit false),(.imm [.str,.str,.str]),(.fn 107 [] [(.ptr 4 0)]),.any,.any],[(.ptr 0 0),(.imm [.str,.str,.str]),(.agg [(.int .i64),(.int .i64),(.int .i64)]),(.ptr 1 0),.any,(.ptr 2 0),(.blit false),(.ptr 3 0),.bool,(.ptr 4 0),(.tuple [(.agg [.str,.str,.str,.str,.str]),.bool]),(.ptr 0 0),(.imm [.str,.str,.str]),(.agg [(.int .i64),(.int .i64),(.int .i64)]),(.tuple [(.agg [.str,.str,.str,.str,.str]),.bool]),(.agg [.str,.str,.str,.str,.str]),.bool,(.fn 104 [] [(.ptr 1 0),(.ptr 3 0)]),.bool,(.blit true),(.imm [.str,.str,.str]),(.fn 107 [] [(.ptr 4 0)]),.any,.any,.any,.any,.any,.any,.any,.any,.any,.any],[]] }⟩,⟨.ret,{ t:=(qz 4 ((.int .i64)::qz 14 [])),h:=[.cells [(.int .i64)],.cells [(.ptr 0 0)],.cells [(.int .i64),(.int .i64),(.int .i64)],.cells [.str,.str,.str,.str,.str],.cells [(.fn 104 [] [(.ptr 1 0),(.ptr 3 0)])]],fs:=[[(.imm [.str,.str,.str]),(.fn 107 [] [(.ptr 4 0)]),.any,.any,(.blit false),(.imm [.str,.str,.str]),(.fn 107 [] [(.ptr 4 0)]),.any,.any],[(.ptr 0 0),(.imm [.str,.str,.str]),(.agg [(.int .i64),(.int .i64),(.int .i64)]),(.ptr 1 0),.any,(.ptr 2 0),(.blit false),(.ptr 3 0),.bool,(.ptr 4 0),(.tuple [(.agg [.str,.str,.str,.str,.str]),.bool]),(.ptr 0 0),(.imm [.str,.str,.str]),(.agg [(.int .i64),(.int .i64),(.int .i64)]),(.tuple [(.agg [.str,.str,.str,.str,.str]),.bool]),(.agg [.str,.str,.str,.str,.str]),.bool,(.fn 104 [] [(.ptr 1 0),(.ptr 3 0)]),.bool,(.blit true),(.imm [.str,.str,.str]),(.fn 107 [] [(.ptr 4 0)]),.any,.any,.any,.any,.any,.any,.any,.any,.any,.any],[]] }⟩]
noncomputable def jT:=qe [(103,q9 q2s q2F jd),(105,q9 q2w q2D yu)] [(74,f74),(104,f104),(106,f106),(107,f107),(143,f143)] [] 1
noncomputable def wZ:=vj jT 143 f143 3 q01 kQ
theorem qaq:ql prog qa jT.nimp (qD prog jT.iter 143) (zm f143 3) (qk q01 kQ (qh wZ)):=gk jT qc q8 (alc q8E (alc q8s aln)) aln (alc (bk func74) (alc (bk func104) (alc (bk func106) (alc (bk func107) (alc (bk func143) aln))))) func143
noncomputable def qaE:=qe [(103,q9 q2s q2F jd),(105,q9 q2w q2D yu)] [(74,f74),(104,f104),(106,f106),(107,f107),(143,f143)] [((143,3),qk q01 kQ (qh wZ))] 1
noncomputable def jy:=qu qaE 74 f74 true q5p q5A
theorem qgV:qQ prog qa 74 (q9 q5p q5A jy):=sk qaE qc q8 (alc q8E (alc q8s aln)) (alc (lk func143 qaq) aln) (alc (bk func74) (alc (bk func104) (alc (bk func106) (alc (bk func107) (alc (bk func143) aln))))) func74
def q2v:FIn:=⟨[(.ptr 0 0),(.imm [.str,.str,.str])],[.cells [(.int .i64)]]⟩
def q2I:List FOut:=[⟨(.tuple [(.agg [(.int .i64),(.int .i64),(.int .i64)]),.bool]),[.cells [(.int .i64)]],none⟩]
def q0A:Tmpl:={ t:=(.yld::(.ptr 5 0)::qz 6 ((.int .i64)::(.int .i64)::qz 35 [])),h:=[.cells [(.int .i64)],.cells [(.ptr 0 0)],.cells [(.imm [.str,.str,.str])],.cells [(.int .i64),(.int .i64),(.int .i64)],.cells [.bool],.cells [(.int .i64)]],fs:=[[.any,.any,(.ptr 1 0),(.ptr 2 0),(.ptr 3 0),(.ptr 4 0),.any,.any,.any,(.fn 102 [] [(.ptr 5 0)]),.any,.any,.any,.any,.any,.any,.any],[]] }
def q1d:List Out:=[⟨(.exit 0),{ t:=(.yld::(.ptr 5 0)::qz 43 []),h:=[.cells [(.int .i64)],.cells [(.ptr 0 0)],.cells [(.imm [.str,.str,.str])],.cells [(.int .i64),(.int .i64),(.int .i64)],.cells [.bool],.cells [(.int .i64)]],fs:=[[.any,.any,(.ptr 1 0),(.ptr 2 0),(.ptr 3 0),(.ptr 4 0),.any,.any,.any,(.fn 102 [] [(.ptr 5 0)]),.any,.any,.any,.any,.any,.any,.any],[]] }⟩,⟨.ret,{ t:=(qz 45 []),h:=[.cells [(.int .i64)],.cells [(.ptr 0 0)],.cells [(.imm [.str,.str,.str])],.cells [(.int .i64),(.int .i64),(.int .i64)],.cells [.bool],.cells [(.int .i64)]],fs:=[[.any,.any,(.ptr 1 0),(.ptr 2 0),(.ptr 3 0),(.ptr 4 0),.any,.any,.any,(.fn 102 [] [(.ptr 5 0)]),.any,.any,.any,.any,.any,.any,.any],[]],pend:=(.some .ret) }⟩]
noncomputable def jG:List (FuncId×zw):=[(74,q9 q5p q5A jy)]
theorem yT:∀x,x∈jG->qQ prog qa x.1 x.2:=(alc qgV aln)
noncomputable def yH:Env:={ tt:=q7J,glob:=qa,spec:=jG,body:=[(46,f46),(73,f73),(102,f102)],loops:=[],nimp:=1,iter:=[(102,46,3)] }
noncomputable def vP:=qof yH (some (46,f46,3)) 102 f102 2 q0A q1d
theorem qbM:ql prog qa yH.nimp (qD prog yH.iter 102) (zm f102 2) (qk q0A q1d (qh vP)):=q1l (E:=yH) qc ⟨q8t q8,⟨yT,aln⟩,aln,(alc (bk func46) (alc (bk func73) (alc (bk func102) aln)))⟩ func102 (by kernel_rfl) (y:=some (46,f46,3)) ⟨func46,by kernel_rfl⟩ (by kernel_rfl) (by kernel_rfl) (fun _=>rfl)
def q0a:Tmpl:={ t:=(.yld::(.ptr 5 0)::.any::.any::(.int .i64)::(.int .i64)::qz 13 ((.int .i64)::(.int .i64)::qz 9 ((.vec 6)::(.int .i64)::(.int .i64)::qz 12 []))),h:=[.cells [(.int .i64)],.cells [(.ptr 0 0)],.cells [(.imm [.str,.str,.str])],.cells [(.int .i64),(.int .i64),(.int .i64)],.cells [.bool],.cells [(.int .i64)],.vec 3 [(.int .i64)]],fs:=[[.any,.any,(.ptr 1 0),(.ptr 2 0),(.ptr 3 0),(.ptr 4 0),.any,.any,.any,(.fn 102 [] [(.ptr 5 0)]),.any,.any,.any,.any,.any,.any,.any],[]] }
def q0l:List Out:=[⟨(.exit 6),{ t:=(.yld::(.ptr 5 0)::.any::.any::(.int .i64)::(.int .i64)::qz 13 ((.int .i64)::(.int .i64)::qz 24 [])),h:=[.cells [(.int .i64)],.cells [(.ptr 0 0)],.cells [(.imm [.str,.str,.str])],.cells [(.int .i64),(.int .i64),(.int .i64)],.cells [.bool],.cells [(.int .i64)]],fs:=[[.any,.any,(.ptr 1 0),(.ptr 2 0),(.ptr 3 0),(.ptr 4 0),.any,.any,.any,(.fn 102 [] [(.ptr 5 0)]),.any,.any,.any,.any,.any,.any,.any],[]] }⟩,⟨.ret,{ t:=(qz 45 []),h:=[.cells [(.int .i64)],.cells [(.ptr 0 0)],.cells [(.imm [.str,.str,.str])],.cells [(.int .i64),(.int .i64),(.int .i64)],.cells [.bool],.cells [(.int .i64)]],fs:=[[.any,.any,(.ptr 1 0),(.ptr 2 0),(.ptr 3 0),(.ptr 4 0),.any,.any,.any,(.fn 102 [] [(.ptr 5 0)]),.any,.any,.any,.any,.any,.any,.any],[]],pend:=(.some .ret) }⟩]
noncomputable def jV:Env:={ tt:=q7J,glob:=qa,spec:=jG,body:=[(46,f46),(73,f73),(102,f102)],loops:=[],nimp:=1,iter:=[(102,46,3)] }
noncomputable def vb:=qof jV (some (46,f46,3)) 102 f102 20 q0a q0l
theorem qao:ql prog qa jV.nimp (qD prog jV.iter 102) (zm f102 20) (qk q0a q0l (qh vb)):=q1l (E:=jV) qc ⟨q8t q8,⟨yT,aln⟩,aln,(alc (bk func46) (alc (bk func73) (alc (bk func102) aln)))⟩ func102 (by kernel_rfl) (y:=some (46,f46,3)) ⟨func46,by kernel_rfl⟩ (by kernel_rfl) (by kernel_rfl) (fun _=>rfl)
def q0h:Tmpl:={ t:=(.yld::(.ptr 5 0)::.any::.any::(.int .i64)::(.int .i64)::qz 13 ((.int .i64)::(.int .i64)::qz 24 [])),h:=[.cells [(.int .i64)],.cells [(.ptr 0 0)],.cells [(.imm [.str,.str,.str])],.cells [(.int .i64),(.int .i64),(.int .i64)],.cells [.bool],.cells [(.int .i64)]],fs:=[[.any,.any,(.ptr 1 0),(.ptr 2 0),(.ptr 3 0),(.ptr 4 0),.any,.any,.any,(.fn 102 [] [(.ptr 5 0)]),.any,.any,.any,.any,.any,.any,.any],[]] }
def kW:List Out:=[⟨(.exit 4),{ t:=(.yld::(.ptr 5 0)::qz 17 ((.int .i64)::(.int .i64)::qz 24 [])),h:=[.cells [(.int .i64)],.cells [(.ptr 0 0)],.cells [(.imm [.str,.str,.str])],.cells [(.int .i64),(.int .i64),(.int .i64)],.cells [.bool],.cells [(.int .i64)]],fs:=[[.any,.any,(.ptr 1 0),(.ptr 2 0),(.ptr 3 0),(.ptr 4 0),.any,.any,.any,(.fn 102 [] [(.ptr 5 0)]),.any,.any,.any,.any,.any,.any,.any],[]] }⟩,⟨.ret,{ t:=(qz 45 []),h:=[.cells [(.int .i64)],.cells [(.ptr 0 0)],.cells [(.imm [.str,.str,.str])],.cells [(.int .i64),(.int .i64),(.int .i64)],.cells [.bool],.cells [(.int .i64)]],fs:=[[.any,.any,(.ptr 1 0),(.ptr 2 0),(.ptr 3 0),(.ptr 4 0),.any,.any,.any,(.fn 102 [] [(.ptr 5 0)]),.any,.any,.any,.any,.any,.any,.any],[]],pend:=(.some .ret) }⟩]
noncomputable def jN:Env:={ tt:=q7J,glob:=qa,spec:=jG,body:=[(46,f46),(73,f73),(102,f102)],loops:=[((102,20),qk q0a q0l (qh vb))],nimp:=1,iter:=[(102,46,3)] }
noncomputable def wX:=qof jN (some (46,f46,3)) 102 f102 15 q0h kW
theorem qac:ql prog qa jN.nimp (qD prog jN.iter 102) (zm f102 15) (qk q0h kW (qh wX)):=q1l (E:=jN) qc ⟨q8t q8,⟨yT,aln⟩,(alc (lk func102 qao) aln),(alc (bk func46) (alc (bk func73) (alc (bk func102) aln)))⟩ func102 (by kernel_rfl) (y:=some (46,f46,3)) ⟨func46,by kernel_rfl⟩ (by kernel_rfl) (by kernel_rfl) (fun _=>rfl)
def q0T:Tmpl:={ t:=(.yld::(.ptr 5 0)::qz 17 ((.int .i64)::(.int .i64)::qz 24 [])),h:=[.cells [(.int .i64)],.cells [(.ptr 0 0)],.cells [(.imm [.str,.str,.str])],.cells [(.int .i64),(.int .i64),(.int .i64)],.cells [.bool],.cells [(.int .i64)]],fs:=[[.any,.any,(.ptr 1 0),(.ptr 2 0),(.ptr 3 0),(.ptr 4 0),.any,.any,.any,(.fn 102 [] [(.ptr 5 0)]),.any,.any,.any,.any,.any,.any,.any],[]] }
def q1f:List Out:=[⟨(.exit 2),{ t:=(qz 45 []),h:=[.cells [(.int .i64)],.cells [(.ptr 0 0)],.cells [(.imm [.str,.str,.str])],.cells [(.int .i64),(.int .i64),(.int .i64)],.cells [.bool],.cells [(.int .i64)]],fs:=[[.any,.any,(.ptr 1 0),(.ptr 2 0),(.ptr 3 0),(.ptr 4 0),.any,.any,.any,(.fn 102 [] [(.ptr 5 0)]),.any,.any,.any,.any,.any,.any,.any],[]] }⟩,⟨.ret,{ t:=(qz 45 []),h:=[.cells [(.int .i64)],.cells [(.ptr 0 0)],.cells [(.imm [.str,.str,.str])],.cells [(.int .i64),(.int .i64),(.int .i64)],.cells [.bool],.cells [(.int .i64)]],fs:=[[.any,.any,(.ptr 1 0),(.ptr 2 0),(.ptr 3 0),(.ptr 4 0),.any,.any,.any,(.fn 102 [] [(.ptr 5 0)]),.any,.any,.any,.any,.any,.any,.any],[]],pend:=(.some .ret) }⟩]
noncomputable def yj:Env:={ tt:=q7J,glob:=qa,spec:=jG,body:=[(46,f46),(73,f73),(102,f102)],loops:=[((102,15),qk q0h kW (qh wX))],nimp:=1,iter:=[(102,46,3)] }
noncomputable def vO:=qof yj (some (46,f46,3)) 102 f102 9 q0T q1f
theorem qbo:ql prog qa yj.nimp (qD prog yj.iter 102) (zm f102 9) (qk q0T q1f (qh vO)):=q1l (E:=yj) qc ⟨q8t q8,⟨yT,aln⟩,(alc (lk func102 qac) aln),(alc (bk func46) (alc (bk func73) (alc (bk func102) aln)))⟩ func102 (by kernel_rfl) (y:=some (46,f46,3)) ⟨func46,by kernel_rfl⟩ (by kernel_rfl) (by kernel_rfl) (fun _=>rfl)
noncomputable def qcR:Env:={ tt:=q7J,glob:=qa,spec:=jG,body:=[(46,f46),(73,f73),(102,f102)],loops:=[((102,2),qk q0A q1d (qh vP)),((102,9),qk q0T q1f (qh vO))],nimp:=1,iter:=[(102,46,3)] }
noncomputable def wI:=qu qcR 46 f46 true q2v q2I
theorem q8p:qQ prog qa 46 (q9 q2v q2I wI):=sk qcR qc q8 yT (alc (lk func102 qbM) (alc (lk func102 qbo) aln)) (alc (bk func46) (alc (bk func73) (alc (bk func102) aln))) func46
def q81:FIn:=⟨[(.imm [.str,.str,.str])],[]⟩
def q8h:List FOut:=[⟨(.tuple [.bool,(.agg [(.int .i64),(.int .i64),(.int .i64)]),(.int .i64)]),[],none⟩]
noncomputable def qjj:=qe [(45,q9 qcF qco q1m),(46,q9 q2v q2I wI)] [(17,f17)] [] 0
noncomputable def vY:=qu qjj 17 f17 true q81 q8h
theorem qeD:qQ prog qa 17 (q9 q81 q8h vY):=sk qjj qc q8 (alc qhW (alc q8p aln)) aln (b1 func17) func17
def q2M:FIn:=⟨[(.imm [.str,.str,.str])],[]⟩
def q3e:List FOut:=[⟨(.tuple [(.imm [(.int .i64)]),(.int .i64)]),[],none⟩]
def yN:Tmpl:={ t:=(.any::(.ptr 0 0)::(.ptr 2 0)::.any::.any::(.vec 4)::qz 4 ((.vec 3)::(.int .i64)::(.int .i64)::qz 26 [])),h:=[.cells [(.imm [.str,.str,.str])],.cells [(.int .i64)],.cells [(.ptr 1 0)],.vec 3 [(.int .i64)],.vec 43 [.str,.str,.str]],pro:=[(5,43,[.str,.str,.str])],fs:=[[.any,(.ptr 0 0),.any,.any,.any,(.ptr 2 0),(.fn 53 [] [(.ptr 0 0),(.ptr 2 0)]),(.int .i64),(.int .i64),.any,.any,.any,.any,.any,.any,.any,.any,.any,.any,.any,.any,(.int .i64),(.int .i64),.any,.any,.any,.any,(.int .i64),(.imm [.str,.str,.str]),(.int .i64),(.blit true),.any,.any,(.fn 53 [] [(.ptr 0 0),(.ptr 2 0)]),(.int .i64),(.int .i64),(.vec 3),.any,.any,.any,.any,.any,.any,.any,.any,.any,.any,.any,.any,.any,.any,.any,.any,.any,.any,.any,.any,.any,.any,.any,.any,.any,.any,.any,.any,.any,.any,.any,.any,.any,.any,.any,.any,.any,.any,.any,.any,.any],[]] }
def yR:List Out:=[⟨(.exit 0),{ t:=(.any::.any::(.ptr 2 0)::.any::.any::(.vec 4)::qz 33 []),h:=[.cells [(.imm [.str,.str,.str])],.cells [(.int .i64)],.cells [(.ptr 1 0)],.vec 3 [(.int .i64)],.vec 43 [.str,.str,.str]],fs:=[[.any,(.ptr 0 0),.any,.any,.any,(.ptr 2 0),(.fn 53 [] [(.ptr 0 0),(.ptr 2 0)]),(.int .i64),(.int .i64),.any,.any,.any,.any,.any,.any,.any,.any,.any,.any,.any,.any,(.int .i64),(.int .i64),.any,.any,.any,.any,(.int .i64),(.imm [.str,.str,.str]),(.int .i64),(.blit true),.any,.any,(.fn 53 [] [(.ptr 0 0),(.ptr 2 0)]),(.int .i64),(.int .i64),(.vec 3),.any,.any,.any,.any,.any,.any,.any,.any,.any,.any,.any,.any,.any,.any,.any,.any,.any,.any,.any,.any,.any,.any,.any,.any,.any,.any,.any,.any,.any,.any,.any,.any,.any,.any,.any,.any,.any,.any,.any,.any,.any],[]] }⟩]
noncomputable def zg:List (FuncId×zw):=[(45,q9 qcF qco q1m),(46,q9 q2v q2I wI)]
theorem zr:∀x,x∈zg->qQ prog qa x.1 x.2:=(alc qhW (alc q8p aln))
noncomputable def vl:=qe zg [(23,f23),(53,f53)] [] 0
noncomputable def zo:=vj vl 53 f53 4 yN yR
theorem q7f:ql prog qa vl.nimp (qD prog vl.iter 53) (zm f53 4) (qk yN yR (qh zo)):=gk vl qc q8 zr aln (alc (bk func23) (alc (bk func53) aln)) func53
def q1e:Tmpl:={ t:=(.any::(.ptr 0 0)::.any::.any::.any::(.ptr 2 0)::(.fn 53 [] [(.ptr 0 0),(.ptr 2 0)])::(.int .i64)::(.int .i64)::qz 12 ((.int .i64)::(.int .i64)::qz 55 [])),h:=[.cells [(.imm [.str,.str,.str])],.cells [(.int .i64)],.cells [(.ptr 1 0)]] }
def q0G:List Out:=[⟨(.exit 2),{ t:=(.any::(.ptr 0 0)::.any::.any::.any::(.ptr 2 0)::(.fn 53 [] [(.ptr 0 0),(.ptr 2 0)])::qz 14 ((.int .i64)::(.int .i64)::qz 55 [])),h:=[.cells [(.imm [.str,.str,.str])],.cells [(.int .i64)],.cells [(.ptr 1 0)]] }⟩,⟨.ret,{ t:=(.any::.any::(.vec 6)::(.int .i64)::qz 74 []),h:=[.dead,.dead,.dead,.dead,.dead,.dead,.vec 3 [(.int .i64)]] }⟩]
noncomputable def yE:=qe zg [(23,f23),(53,f53)] [((53,4),qk yN yR (qh zo))] 0
noncomputable def vF:=vj yE 23 f23 15 q1e q0G
theorem qbG:ql prog qa yE.nimp (qD prog yE.iter 23) (zm f23 15) (qk q1e q0G (qh vF)):=gk yE qc q8 zr (alc (lk func53 q7f) aln) (alc (bk func23) (alc (bk func53) aln)) func23
def q1t:Tmpl:={ t:=(.any::(.ptr 0 0)::.any::.any::.any::(.ptr 2 0)::(.fn 53 [] [(.ptr 0 0),(.ptr 2 0)])::qz 14 ((.int .i64)::(.int .i64)::qz 55 [])),h:=[.cells [(.imm [.str,.str,.str])],.cells [(.int .i64)],.cells [(.ptr 1 0)]] }
def q1o:List Out:=[⟨(.exit 0),{ t:=(.any::(.ptr 0 0)::.any::.any::.any::(.ptr 2 0)::(.fn 53 [] [(.ptr 0 0),(.ptr 2 0)])::qz 71 []),h:=[.cells [(.imm [.str,.str,.str])],.cells [(.int .i64)],.cells [(.ptr 1 0)]] }⟩,⟨.ret,{ t:=(.any::.any::(.vec 6)::(.int .i64)::qz 74 []),h:=[.dead,.dead,.dead,.dead,.dead,.dead,.vec 3 [(.int .i64)]] }⟩]
noncomputable def ub:=qe zg [(23,f23),(53,f53)] [((23,15),qk q1e q0G (qh vF))] 0
noncomputable def jc:=vj ub 23 f23 9 q1t q1o
theorem qc3:ql prog qa ub.nimp (qD prog ub.iter 23) (zm f23 9) (qk q1t q1o (qh jc)):=gk ub qc q8 zr (alc (lk func23 qbG) aln) (alc (bk func23) (alc (bk func53) aln)) func23
def yI:Tmpl:={ t:=(.any::(.ptr 0 0)::(.ptr 2 0)::.any::.any::(.vec 4)::qz 4 ((.vec 3)::(.int .i64)::(.int .i64)::qz 26 [])),h:=[.cells [(.imm [.str,.str,.str])],.cells [(.int .i64)],.cells [(.ptr 1 0)],.vec 3 [(.int .i64)],.vec 43 [.str,.str,.str]],pro:=[(5,43,[.str,.str,.str])],fs:=[[.any,(.ptr 0 0),.any,.any,.any,(.ptr 2 0),(.fn 53 [] [(.ptr 0 0),(.ptr 2 0)]),.any,.any,(.int .i64),(.int .i64),(.int .i64),.any,.any,.any,.any,.any,.any,.any,.any,.any,.any,.any,.any,.any,.any,.any,.any,.any,.any,.any,.any,.any,.any,.any,.any,.any,.any,.any,.any,.any,.any,.any,(.int .i64),(.int .i64),.any,.any,.any,.any,.any,.any,.any,.any,.any,.any,.any,.any,(.int .i64),(.imm [.str,.str,.str]),(.int .i64),(.blit true),.any,.any,(.fn 53 [] [(.ptr 0 0),(.ptr 2 0)]),(.int .i64),(.int .i64),(.int .i64),(.vec 3),.any,.any,.any,.any,.any,.any,.any,.any,.any,.any],[]] }
def yP:List Out:=[⟨(.exit 0),{ t:=(.any::.any::(.ptr 2 0)::.any::.any::(.vec 4)::qz 33 []),h:=[.cells [(.imm [.str,.str,.str])],.cells [(.int .i64)],.cells [(.ptr 1 0)],.vec 3 [(.int .i64)],.vec 43 [.str,.str,.str]],fs:=[[.any,(.ptr 0 0),.any,.any,.any,(.ptr 2 0),(.fn 53 [] [(.ptr 0 0),(.ptr 2 0)]),.any,.any,(.int .i64),(.int .i64),(.int .i64),.any,.any,.any,.any,.any,.any,.any,.any,.any,.any,.any,.any,.any,.any,.any,.any,.any,.any,.any,.any,.any,.any,.any,.any,.any,.any,.any,.any,.any,.any,.any,(.int .i64),(.int .i64),.any,.any,.any,.any,.any,.any,.any,.any,.any,.any,.any,.any,(.int .i64),(.imm [.str,.str,.str]),(.int .i64),(.blit true),.any,.any,(.fn 53 [] [(.ptr 0 0),(.ptr 2 0)]),(.int .i64),(.int .i64),(.int .i64),(.vec 3),.any,.any,.any,.any,.any,.any,.any,.any,.any,.any],[]] }⟩]
noncomputable def vk:=qe zg [(23,f23),(53,f53)] [] 0
noncomputable def zn:=vj vk 53 f53 4 yI yP
theorem q7g:ql prog qa vk.nimp (qD prog vk.iter 53) (zm f53 4) (qk yI yP (qh zn)):=gk vk qc q8 zr aln (alc (bk func23) (alc (bk func53) aln)) func53
def q0J:Tmpl:={ t:=(.any::(.ptr 0 0)::.any::.any::.any::(.ptr 2 0)::(.fn 53 [] [(.ptr 0 0),(.ptr 2 0)])::.any::.any::(.int .i64)::(.int .i64)::(.int .i64)::qz 31 ((.int .i64)::(.int .i64)::qz 33 [])),h:=[.cells [(.imm [.str,.str,.str])],.cells [(.int .i64)],.cells [(.ptr 1 0)]] }
def q0B:List Out:=[⟨(.exit 8),{ t:=(.any::(.ptr 0 0)::.any::.any::.any::(.ptr 2 0)::(.fn 53 [] [(.ptr 0 0),(.ptr 2 0)])::.any::.any::(.int .i64)::(.int .i64)::qz 32 ((.int .i64)::(.int .i64)::qz 33 [])),h:=[.cells [(.imm [.str,.str,.str])],.cells [(.int .i64)],.cells [(.ptr 1 0)]] }⟩,⟨.ret,{ t:=(.any::.any::(.vec 6)::(.int .i64)::qz 74 []),h:=[.dead,.dead,.dead,.dead,.dead,.dead,.vec 3 [(.int .i64)]] }⟩]
noncomputable def yw:=qe zg [(23,f23),(53,f53)] [((53,4),qk yI yP (qh zn))] 0
noncomputable def vG:=vj yw 23 f23 34 q0J q0B
theorem qaY:ql prog qa yw.nimp (qD prog yw.iter 23) (zm f23 34) (qk q0J q0B (qh vG)):=gk yw qc q8 zr (alc (lk func53 q7g) aln) (alc (bk func23) (alc (bk func53) aln)) func23
def q16:Tmpl:={ t:=(.any::(.ptr 0 0)::.any::.any::.any::(.ptr 2 0)::(.fn 53 [] [(.ptr 0 0),(.ptr 2 0)])::.any::.any::(.int .i64)::(.int .i64)::qz 32 ((.int .i64)::(.int .i64)::qz 33 [])),h:=[.cells [(.imm [.str,.str,.str])],.cells [(.int .i64)],.cells [(.ptr 1 0)]] }
def q11:List Out:=[⟨(.exit 6),{ t:=(.any::(.ptr 0 0)::.any::.any::.any::(.ptr 2 0)::(.fn 53 [] [(.ptr 0 0),(.ptr 2 0)])::qz 36 ((.int .i64)::(.int .i64)::qz 33 [])),h:=[.cells [(.imm [.str,.str,.str])],.cells [(.int .i64)],.cells [(.ptr 1 0)]] }⟩,⟨.ret,{ t:=(.any::.any::(.vec 6)::(.int .i64)::qz 74 []),h:=[.dead,.dead,.dead,.dead,.dead,.dead,.vec 3 [(.int .i64)]] }⟩]
noncomputable def yA:=qe zg [(23,f23),(53,f53)] [((23,34),qk q0J q0B (qh vG))] 0
noncomputable def vE:=vj yA 23 f23 29 q16 q11
theorem qaK:ql prog qa yA.nimp (qD prog yA.iter 23) (zm f23 29) (qk q16 q11 (qh vE)):=gk yA qc q8 zr (alc (lk func23 qaY) aln) (alc (bk func23) (alc (bk func53) aln)) func23
def q0N:Tmpl:={ t:=(.any::(.ptr 0 0)::.any::.any::.any::(.ptr 2 0)::(.fn 53 [] [(.ptr 0 0),(.ptr 2 0)])::qz 36 ((.int .i64)::(.int .i64)::qz 33 [])),h:=[.cells [(.imm [.str,.str,.str])],.cells [(.int .i64)],.cells [(.ptr 1 0)]] }
def q13:List Out:=[⟨(.exit 4),{ t:=(qz 5 ((.ptr 2 0)::qz 72 [])),h:=[.dead,.cells [(.int .i64)],.cells [(.ptr 1 0)]] }⟩,⟨.ret,{ t:=(.any::.any::(.vec 6)::(.int .i64)::qz 74 []),h:=[.dead,.dead,.dead,.dead,.dead,.dead,.vec 3 [(.int .i64)]] }⟩]
noncomputable def yo:=qe zg [(23,f23),(53,f53)] [((23,29),qk q16 q11 (qh vE))] 0
noncomputable def vw:=vj yo 23 f23 23 q0N q13
theorem qaN:ql prog qa yo.nimp (qD prog yo.iter 23) (zm f23 23) (qk q0N q13 (qh vw)):=gk yo qc q8 zr (alc (lk func23 qaK) aln) (alc (bk func23) (alc (bk func53) aln)) func23
noncomputable def q8C:=qe zg [(23,f23),(53,f53)] [((23,9),qk q1t q1o (qh jc)),((23,23),qk q0N q13 (qh vw))] 0
noncomputable def vK:=qu q8C 23 f23 true q2M q3e
theorem qez:qQ prog qa 23 (q9 q2M q3e vK):=sk q8C qc q8 zr (alc (lk func23 qc3) (alc (lk func23 qaN) aln)) (alc (bk func23) (alc (bk func53) aln)) func23
def q2B:FIn:=⟨[(.ptr 0 0),.str,.str],[.cells [(.int .i64)]]⟩
def q2r:List FOut:=[⟨(.int .i64),[.cells [(.int .i64)]],none⟩]
noncomputable def qcq:=qe [(77,q9 q0Z q0X wi),(78,q9 yM yL qN)] [(49,f49)] [] 1
noncomputable def jh:=qu qcq 49 f49 true q2B q2r
theorem q8u:qQ prog qa 49 (q9 q2B q2r jh):=sk qcq qc q8 (alc q43 (alc uC aln)) aln (b1 func49) func49
def q4X:FIn:=⟨[(.ptr 0 0),(.agg [.str,.str]),(.agg [.str,.str])],[.cells [(.int .i64)]]⟩
def q58:List FOut:=[⟨.str,[.cells [(.int .i64)]],none⟩]
noncomputable def qga:=qe [(79,q9 q0L q0H wk),(80,q9 q24 q20 zL)] [(50,f50)] [] 1
noncomputable def yO:=qu qga 50 f50 true q4X q58
theorem qaL:qQ prog qa 50 (q9 q4X q58 yO):=sk qga qc q8 (alc q3Z (alc q5B aln)) aln (b1 func50) func50
def q3p:FIn:=⟨[(.ptr 0 0),(.agg [.str,.str,.str]),(.agg [.str,.str,.str]),.str],[.cells [(.int .i64)]]⟩
def q3z:List FOut:=[⟨(.int .i64),[.cells [(.int .i64)]],none⟩]
noncomputable def qe8:=qe [(50,q9 q4X q58 yO),(77,q9 q0Z q0X wi),(78,q9 yM yL qN),(88,q9 kh kp zp),(89,q9 kf kn qR)] [(60,f60)] [] 1
noncomputable def jA:=qu qe8 60 f60 true q3p q3z
theorem q9s:qQ prog qa 60 (q9 q3p q3z jA):=sk qe8 qc q8 (alc qaL (alc q43 (alc uC (alc q1L (alc q1I aln))))) aln (b1 func60) func60
def q5j:FIn:=⟨[(.ptr 0 0),(.agg [.str,.str,.str]),(.agg [.str,.str,.str])],[.cells [(.int .i64)]]⟩
def q5k:List FOut:=[⟨.bool,[.cells [(.int .i64)]],none⟩]
noncomputable def qaS:=qe [(49,q9 q2B q2r jh),(60,q9 q3p q3z jA)] [(59,f59)] [] 1
noncomputable def jC:=qu qaS 59 f59 true q5j q5k
theorem qgY:qQ prog qa 59 (q9 q5j q5k jC):=sk qaS qc q8 (alc q8u (alc q9s aln)) aln (b1 func59) func59
def qd4:FIn:=⟨[(.agg [.str,.str,.str]),(.agg [.str,.str,.str])],[]⟩
def qdi:List FOut:=[⟨(.tuple [(.int .i64),(.int .i64)]),[],none⟩]
def q92:Tmpl:={ t:=(.any::.any::(.ptr 0 0)::(.ptr 1 0)::qz 9 ((.vec 2)::(.int .i64)::(.int .i64)::qz 36 [])),h:=[.cells [.str,.str,.str],.cells [.str,.str,.str],.vec 43 [.str,.str,.str]] }
def q9i:List Out:=[⟨(.exit 0),{ t:=(.any::.any::(.ptr 0 0)::(.ptr 1 0)::qz 48 []),h:=[.cells [.str,.str,.str],.cells [.str,.str,.str]] }⟩,⟨.ret,{ t:=(qz 4 ((.int .i64)::(.int .i64)::qz 46 [])),h:=[] }⟩]
noncomputable def qbV:List (FuncId×zw):=[(47,q9 q3u q3H jM),(59,q9 q5j q5k jC),(60,q9 q3p q3z jA)]
theorem qgF:∀x,x∈qbV->qQ prog qa x.1 x.2:=(alc q5a (alc qgY (alc q9s aln)))
noncomputable def q56:=qe qbV [(31,f31)] [] 0
noncomputable def q1Q:=vj q56 31 f31 3 q92 q9i
theorem qkB:ql prog qa q56.nimp (qD prog q56.iter 31) (zm f31 3) (qk q92 q9i (qh q1Q)):=gk q56 qc q8 qgF aln (b1 func31) func31
noncomputable def qjx:=qe qbV [(31,f31)] [((31,3),qk q92 q9i (qh q1Q))] 0
noncomputable def q4x:=qu qjx 31 f31 true qd4 qdi
theorem qnz:qQ prog qa 31 (q9 qd4 qdi q4x):=sk qjx qc q8 qgF (alc (lk func31 qkB) aln) (b1 func31) func31
def q2c:FIn:=⟨[(.imm [(.int .i64)]),(.imm [(.int .i64)])],[]⟩
def q2g:List FOut:=[⟨.bool,[],none⟩]
def q0P:Tmpl:={ t:=((.imm [(.int .i64)])::(.imm [(.int .i64)])::qz 10 ((.int .i64)::(.int .i64)::qz 12 [])),h:=[] }
def q14:List Out:=[⟨(.exit 0),{ t:=(qz 26 []),h:=[] }⟩,⟨.ret,{ t:=(qz 4 (.bool::qz 21 [])),h:=[] }⟩]
noncomputable def yl:=qe [] [(32,f32)] [] 0
noncomputable def vD:=vj yl 32 f32 6 q0P q14
theorem qbW:ql prog qa yl.nimp (qD prog yl.iter 32) (zm f32 6) (qk q0P q14 (qh vD)):=gk yl qc q8 aln aln (b1 func32) func32
noncomputable def q7r:=qe [] [(32,f32)] [((32,6),qk q0P q14 (qh vD))] 0
noncomputable def wN:=qu q7r 32 f32 true q2c q2g
theorem qd5:qQ prog qa 32 (q9 q2c q2g wN):=sk q7r qc q8 aln (alc (lk func32 qbW) aln) (b1 func32) func32
def qfb:FIn:=⟨[],[]⟩
def qfQ:List FOut:=[⟨.bool,[],none⟩]
noncomputable def qkX:=qe [(16,q9 qcG qcy zI),(17,q9 q81 q8h vY),(23,q9 q2M q3e vK),(31,q9 qd4 qdi q4x),(32,q9 q2c q2g wN)] [(10,f10)] [] 0
noncomputable def q3k:=qu qkX 10 f10 true qfb qfQ
theorem qoZ:qQ prog qa 10 (q9 qfb qfQ q3k):=sk qkX qc q8 (alc qhi (alc qeD (alc qez (alc qnz (alc qd5 aln))))) aln (b1 func10) func10
def qbs:FIn:=⟨[(.int .i64)],[]⟩
def qbK:List FOut:=[⟨.bool,[],none⟩]
noncomputable def qi7:=qe [] [(126,f126)] [] 0
noncomputable def yf:=qu qi7 126 f126 true qbs qbK
theorem qmt:qQ prog qa 126 (q9 qbs qbK yf):=sk qi7 qc q8 aln aln (b1 func126) func126
def q3M:FIn:=⟨[(.agg [(.int .i64),(.int .i64)])],[]⟩
def q3L:List FOut:=[⟨.bool,[],none⟩]
noncomputable def qlm:=qe [(126,q9 qbs qbK yf)] [(91,f91)] [] 0
noncomputable def kC:=qu qlm 91 f91 true q3M q3L
theorem q4V:qQ prog qa 91 (q9 q3M q3L kC):=sk qlm qc q8 (alc qmt aln) aln (b1 func91) func91
def q2n:FIn:=⟨[(.fn 91 [] []),(.imm [(.int .i64),(.int .i64)])],[]⟩
def q2h:List FOut:=[⟨(.int .i64),[],none⟩]
def q0Q:Tmpl:={ t:=((.fn 91 [] [])::qz 6 ((.imm [(.int .i64),(.int .i64)])::(.int .i64)::(.int .i64)::qz 8 [])),h:=[] }
def q0I:List Out:=[⟨(.exit 0),{ t:=(qz 18 []),h:=[] }⟩,⟨.ret,{ t:=(qz 4 ((.int .i64)::qz 13 [])),h:=[] }⟩]
noncomputable def yi:=qe [(91,q9 q3M q3L kC)] [(125,f125)] [] 0
noncomputable def zy:=vj yi 125 f125 3 q0Q q0I
theorem qbN:ql prog qa yi.nimp (qD prog yi.iter 125) (zm f125 3) (qk q0Q q0I (qh zy)):=gk yi qc q8 (alc q4V aln) aln (b1 func125) func125
noncomputable def q7l:=qe [(91,q9 q3M q3L kC)] [(125,f125)] [((125,3),qk q0Q q0I (qh zy))] 0
noncomputable def jw:=qu q7l 125 f125 true q2n q2h
theorem qdo:qQ prog qa 125 (q9 q2n q2h jw):=sk q7l qc q8 (alc q4V aln) (alc (lk func125 qbN) aln) (b1 func125) func125
def uX:FIn:=⟨[(.imm [(.int .i64),(.int .i64)]),(.fn 91 [] [])],[]⟩
def uW:List FOut:=[⟨(.int .i64),[],none⟩]
noncomputable def q3V:=qe [(91,q9 q3M q3L kC),(125,q9 q2n q2h jw)] [(90,f90)] [] 0
noncomputable def wy:=qu q3V 90 f90 true uX uW
theorem q8W:qQ prog qa 90 (q9 uX uW wy):=sk q3V qc q8 (alc q4V (alc qdo aln)) aln (b1 func90) func90
def qdQ:FIn:=⟨[(.imm [(.int .i64),(.int .i64)])],[]⟩
def qd8:List FOut:=[⟨(.int .i64),[],none⟩]
noncomputable def qjr:=qe [(90,q9 uX uW wy),(91,q9 q3M q3L kC)] [(61,f61)] [] 0
noncomputable def q4y:=qu qjr 61 f61 true qdQ qd8
theorem qnp:qQ prog qa 61 (q9 qdQ qd8 q4y):=sk qjr qc q8 (alc q8W (alc q4V aln)) aln (b1 func61) func61
def qdB:FIn:=⟨[(.int .i64)],[]⟩
def qcT:List FOut:=[⟨(.int .i64),[],none⟩]
noncomputable def qjD:=qe [] [(62,f62)] [] 0
noncomputable def q4h:=qu qjD 62 f62 true qdB qcT
theorem qnw:qQ prog qa 62 (q9 qdB qcT q4h):=sk qjD qc q8 aln aln (b1 func62) func62
def qde:FIn:=⟨[(.imm [(.int .i64),(.int .i64)])],[]⟩
def qcU:List FOut:=[⟨(.int .i64),[],none⟩]
noncomputable def qje:=qe [(61,q9 qdQ qd8 q4y),(62,q9 qdB qcT q4h)] [(33,f33)] [] 0
noncomputable def q4D:=qu qje 33 f33 true qde qcU
theorem qnZ:qQ prog qa 33 (q9 qde qcU q4D):=sk qje qc q8 (alc qnp (alc qnw aln)) aln (b1 func33) func33
def q2e:FIn:=⟨[(.imm [(.int .i64)])],[]⟩
def q2f:List FOut:=[⟨(.vec 0),[.vec 3 [(.int .i64)]],none⟩]
noncomputable def qgW:=qe [] [(93,f93)] [] 0
abbrev q5W:=q2e
abbrev q5U:=q2f
noncomputable abbrev q5K:=qgW
noncomputable def q5Z:=qu q5K 93 f93 false q5W q5U
theorem qbA:qQ prog qa 93 (q9 q5W q5U q5Z):=qno (E:=q5K) qc ⟨q8t q8,⟨aln,aln⟩,aln,(b1 func93)⟩ func93 (by kernel_rfl) (by kernel_rfl) (fun _=>rfl)
theorem qdS(x0:R):q5Z [.r x0]=(.br (ilt 0 (qm x0)) (.br (ile ((qm [])+(qm x0)) 17592186044416) (.leaf (0,[(.r (kN [] x0))])) .fail) .fail):=by kernel_rfl
def qeo:Go.Shelf.Ren:=⟨fun|41=>93|n=>n,fun|4=>4|22=>33|23=>3|n=>n,fun n=>n⟩
noncomputable def wM:=qBN
theorem qcS:qQ prog qa 93 (q9 q2e q2f wM):=qBx (ρ:=qeo) ⟨by kernel_rfl,⟨ "slices.Clone[[]int,int]",by decide,func93.trans (congrArg some (by kernel_rfl))⟩,underlying4,isAgg4,sizeOf4,zeroValue4,underlying33,isAgg33,sizeOf33,zeroValue33,underlying3,isAgg3,sizeOf3,zeroValue3,by kernel_rfl⟩ qbA (qGe qdS)
def vJ:FIn:=⟨[(.agg [(.int .i64),(.int .i64),(.int .i64)])],[]⟩
def vC:List FOut:=[⟨(.agg [(.int .i64),(.int .i64),(.int .i64)]),[],none⟩]
noncomputable def q8M:=qe [] [(133,f133)] [] 0
noncomputable def qM:=qu q8M 133 f133 true vJ vC
theorem yv:qQ prog qa 133 (q9 vJ vC qM):=sk q8M qc q8 aln aln (b1 func133) func133
def qfY:FIn:=⟨[(.agg [(.int .i64),(.int .i64),(.int .i64)]),(.agg [(.int .i64),(.int .i64),(.int .i64)]),(.agg [(.int .i64),(.int .i64),(.int .i64)])],[]⟩
def qeU:List FOut:=[⟨(.int .i64),[],none⟩]
def qaI:Tmpl:={ t:=(qz 7 ((.ptr 3 0)::(.ptr 4 0)::(.ptr 5 0)::(.int .i64)::qz 7 ((.int .i64)::qz 21 []))),h:=[.dead,.dead,.dead,.cells [(.int .i64),(.int .i64),(.int .i64)],.cells [(.int .i64),(.int .i64),(.int .i64)],.cells [(.int .i64),(.int .i64),(.int .i64)]] }
def qbi:List Out:=[⟨(.exit 0),{ t:=(qz 10 ((.int .i64)::qz 29 [])),h:=[] }⟩]
noncomputable def q6R:=qe [(133,q9 vJ vC qM)] [(127,f127)] [] 0
noncomputable def q1b:=vj q6R 127 f127 5 qaI qbi
theorem qlA:ql prog qa q6R.nimp (qD prog q6R.iter 127) (zm f127 5) (qk qaI qbi (qh q1b)):=gk q6R qc q8 (alc yv aln) aln (b1 func127) func127
noncomputable def qlY:=qe [(133,q9 vJ vC qM)] [(127,f127)] [((127,5),qk qaI qbi (qh q1b))] 0
noncomputable def q1E:=qu qlY 127 f127 true qfY qeU
theorem qp9:qQ prog qa 127 (q9 qfY qeU q1E):=sk qlY qc q8 (alc yv aln) (alc (lk func127 qlA) aln) (b1 func127) func127
def q7c:FIn:=⟨[(.int .i64)],[]⟩
def q6e:List FOut:=[⟨.str,[],none⟩]
noncomputable def qlQ:=qe [(110,q9 qaw qax wP)] [(128,f128)] [] 0
noncomputable def jY:=qu qlQ 128 f128 true q7c q6e
theorem q9m:qQ prog qa 128 (q9 q7c q6e jY):=sk qlQ qc q8 (alc q9G aln) aln (b1 func128) func128
def q9Q:FIn:=⟨[(.int .i64)],[]⟩
def q9O:List FOut:=[⟨.bool,[],none⟩]
noncomputable def qle:=qe [] [(170,f170)] [] 0
noncomputable def j8:=qu qle 170 f170 true q9Q q9O
theorem qgq:qQ prog qa 170 (q9 q9Q q9O j8):=sk qle qc q8 aln aln (b1 func170) func170
def q3g:FIn:=⟨[(.int .i64),(.int .i64),(.ptr 0 0),(.ptr 1 0)],[.cells [(.imm [(.int .i64)])],.cells [(.int .i64)]]⟩
def q3D:List FOut:=[⟨.str,[.cells [(.imm [(.int .i64)])],.cells [(.int .i64)]],none⟩]
noncomputable def qlN:=qe [(128,q9 q7c q6e jY)] [(172,f172)] [] 2
noncomputable def kx:=qu qlN 172 f172 true q3g q3D
theorem q5c:qQ prog qa 172 (q9 q3g q3D kx):=sk qlN qc q8 (alc q9m aln) aln (b1 func172) func172
def qfL:FIn:=⟨[(.int .i64),(.int .i64),(.fn 172 [] [(.ptr 0 0),(.ptr 1 0)])],[.cells [(.imm [(.int .i64)])],.cells [(.int .i64)]]⟩
def qfI:List FOut:=[⟨(.agg [(.int .i64),(.int .i64),(.imm [.str])]),[.cells [(.imm [(.int .i64)])],.cells [(.int .i64)]],none⟩]
def q8U:Tmpl:={ t:=(.any::(.int .i64)::(.fn 172 [] [(.ptr 0 0),(.ptr 1 0)])::.any::.any::.any::(.ptr 2 0)::(.ptr 3 0)::(.int .i64)::qz 4 ((.int .i64)::(.int .i64)::.any::.any::(.int .i64)::(.int .i64)::qz 14 [])),h:=[.cells [(.imm [(.int .i64)])],.cells [(.int .i64)],.cells [(.int .i64),(.int .i64),.nils],.cells [(.int .i64),(.int .i64),(.vec 4)],.vec 30 [.str]] }
def q91:List Out:=[⟨(.exit 2),{ t:=(.any::(.int .i64)::(.fn 172 [] [(.ptr 0 0),(.ptr 1 0)])::.any::.any::.any::(.ptr 2 0)::(.ptr 3 0)::qz 5 ((.int .i64)::(.int .i64)::qz 18 [])),h:=[.cells [(.imm [(.int .i64)])],.cells [(.int .i64)],.cells [(.int .i64),(.int .i64),.nils],.cells [(.int .i64),(.int .i64),(.vec 4)],.vec 30 [.str]] }⟩]
noncomputable def q59:=qe [(172,q9 q3g q3D kx)] [(171,f171)] [] 2
noncomputable def km:=vj q59 171 f171 10 q8U q91
theorem qkM:ql prog qa q59.nimp (qD prog q59.iter 171) (zm f171 10) (qk q8U q91 (qh km)):=gk q59 qc q8 (alc q5c aln) aln (b1 func171) func171
def qbt:Tmpl:={ t:=(.any::(.int .i64)::(.fn 172 [] [(.ptr 0 0),(.ptr 1 0)])::.any::.any::.any::(.ptr 2 0)::(.ptr 3 0)::qz 5 ((.int .i64)::(.int .i64)::qz 18 [])),h:=[.cells [(.imm [(.int .i64)])],.cells [(.int .i64)],.cells [(.int .i64),(.int .i64),.nils],.cells [(.int .i64),(.int .i64),(.vec 4)],.vec 30 [.str]],prc:=[(7,2,30,[.str])] }
def qaT:List Out:=[⟨(.exit 0),{ t:=(qz 6 ((.ptr 2 0)::(.ptr 3 0)::qz 25 [])),h:=[.cells [(.imm [(.int .i64)])],.cells [(.int .i64)],.cells [(.int .i64),(.int .i64),.nils],.cells [(.int .i64),(.int .i64),(.vec 4)],.vec 30 [.str]] }⟩]
noncomputable def q6w:=qe [(172,q9 q3g q3D kx)] [(171,f171)] [((171,10),qk q8U q91 (qh km))] 2
noncomputable def q1g:=vj q6w 171 f171 4 qbt qaT
theorem qkY:ql prog qa q6w.nimp (qD prog q6w.iter 171) (zm f171 4) (qk qbt qaT (qh q1g)):=gk q6w qc q8 (alc q5c aln) (alc (lk func171 qkM) aln) (b1 func171) func171
noncomputable def qmp:=qe [(172,q9 q3g q3D kx)] [(171,f171)] [((171,4),qk qbt qaT (qh q1g))] 2
noncomputable def q6J:=qu qmp 171 f171 true qfL qfI
theorem qoN:qQ prog qa 171 (q9 qfL qfI q6J):=sk qmp qc q8 (alc q5c aln) (alc (lk func171 qkY) aln) (b1 func171) func171
def qkz:FIn:=⟨[(.int .i64),(.int .i64),(.imm [(.int .i64)])],[]⟩
def qk3:List FOut:=[⟨(.tuple [(.agg [(.int .i64),(.int .i64),(.imm [.str])]),(.int .i64)]),[],none⟩]
noncomputable def qq3:=qe [(170,q9 q9Q q9O j8),(171,q9 qfL qfI q6J),(172,q9 q3g q3D kx)] [(129,f129)] [] 0
noncomputable def qaX:=qu qq3 129 f129 true qkz qk3
theorem qrL:qQ prog qa 129 (q9 qkz qk3 qaX):=sk qq3 qc q8 (alc qgq (alc qoN (alc q5c aln))) aln (b1 func129) func129
def q53:FIn:=⟨[(.imm [.str])],[]⟩
def q57:List FOut:=[⟨(.int .i64),[],none⟩]
def q6U:Tmpl:={ t:=(qz 6 ((.imm [.str])::(.int .i64)::(.int .i64)::qz 9 [])),h:=[] }
def q6c:List Out:=[⟨(.exit 0),{ t:=(qz 18 []),h:=[] }⟩,⟨.ret,{ t:=(.any::.any::(.int .i64)::qz 15 []),h:=[] }⟩]
noncomputable def q2x:=qe [(48,q9 yd ya qP)] [(178,f178)] [] 0
noncomputable def yt:=vj q2x 178 f178 3 q6U q6c
theorem qim:ql prog qa q2x.nimp (qD prog q2x.iter 178) (zm f178 3) (qk q6U q6c (qh yt)):=gk q2x qc q8 (alc jr aln) aln (b1 func178) func178
noncomputable def qgx:=qe [(48,q9 yd ya qP)] [(178,f178)] [((178,3),qk q6U q6c (qh yt))] 0
noncomputable def jo:=qu qgx 178 f178 true q53 q57
theorem qbm:qQ prog qa 178 (q9 q53 q57 jo):=sk qgx qc q8 (alc jr aln) (alc (lk func178 qim) aln) (b1 func178) func178
def qdv:FIn:=⟨[(.agg [(.int .i64),(.int .i64),(.imm [.str])])],[]⟩
def qd1:List FOut:=[⟨(.int .i64),[],none⟩]
noncomputable def qjA:=qe [(170,q9 q9Q q9O j8),(178,q9 q53 q57 jo)] [(173,f173)] [] 0
noncomputable def jK:=qu qjA 173 f173 true qdv qd1
theorem qev:qQ prog qa 173 (q9 qdv qd1 jK):=sk qjA qc q8 (alc qgq (alc qbm aln)) aln (b1 func173) func173
def qgL:FIn:=⟨[(.agg [(.int .i64),(.int .i64),(.imm [.str])])],[]⟩
def qgw:List FOut:=[⟨(.tuple [(.agg [(.int .i64),(.int .i64),(.imm [.str])]),(.int .i64)]),[],none⟩]
noncomputable def yJ:List PV->TR:=qIJ jK vt kY zJ
theorem qkp:qQ prog qa 130 (q9 qgL qgw yJ):=qCy qev q28 qdr q4E
def q1x:FIn:=⟨[(.ptr 0 0),.str,(.int .i64)],[.cells [(.int .i64)]]⟩
def q1P:List FOut:=[⟨.str,[.cells [(.int .i64)]],none⟩]
noncomputable def qbn:=qe [] [(210,f210)] [] 1
noncomputable def vr:=qu qbn 210 f210 true q1x q1P
theorem q7q:qQ prog qa 210 (q9 q1x q1P vr):=sk qbn qc q8 aln aln (b1 func210) func210
def q6O:FIn:=⟨[(.ptr 0 0),.str,.str],[.cells [(.int .i64)]]⟩
def q6X:List FOut:=[⟨.str,[.cells [(.int .i64)]],none⟩]
noncomputable def qcI:=qe [(123,q9 q1v q1M je),(210,q9 q1x q1P vr)] [(179,f179)] [] 1
noncomputable def kL:=qu qcI 179 f179 true q6O q6X
theorem qh6:qQ prog qa 179 (q9 q6O q6X kL):=sk qcI qc q8 (alc q02 (alc q7q aln)) aln (b1 func179) func179
def q6y:FIn:=⟨[(.ptr 0 0),.str,.str],[.cells [(.int .i64)]]⟩
def q70:List FOut:=[⟨.str,[.cells [(.int .i64)]],none⟩]
noncomputable def qce:=qe [(124,q9 q5s q5v vt),(210,q9 q1x q1P vr)] [(180,f180)] [] 1
noncomputable def ky:=qu qce 180 f180 true q6y q70
theorem qie:qQ prog qa 180 (q9 q6y q70 ky):=sk qce qc q8 (alc q28 (alc q7q aln)) aln (b1 func180) func180
def qdJ:FIn:=⟨[(.agg [(.int .i64),(.int .i64),(.imm [.str])]),(.int .i64),(.int .i64)],[]⟩
def qcV:List FOut:=[⟨.str,[],none⟩]
noncomputable def qjt:=qe [] [(181,f181)] [] 0
noncomputable def q4K:=qu qjt 181 f181 true qdJ qcV
theorem qnY:qQ prog qa 181 (q9 qdJ qcV q4K):=sk qjt qc q8 aln aln (b1 func181) func181
def qcW:FIn:=⟨[(.agg [(.int .i64),(.int .i64),(.imm [.str])]),(.imm [.str])],[]⟩
def qdu:List FOut:=[⟨(.tuple [(.imm [.str]),(.int .i64)]),[],none⟩]
def q7O:Tmpl:={ t:=(.any::(.imm [.str])::(.ptr 0 0)::qz 5 ((.ptr 1 0)::(.vec 2)::(.int .i64)::.str::qz 20 ((.int .i64)::(.int .i64)::.any::.any::(.imm [.str])::(.int .i64)::(.int .i64)::qz 30 []))),h:=[.cells [(.int .i64),(.int .i64),(.imm [.str])],.cells [(.int .i64)],.vec 30 [.str]] }
def q7P:List Out:=[⟨(.exit 2),{ t:=(.any::(.imm [.str])::(.ptr 0 0)::qz 5 ((.ptr 1 0)::(.vec 2)::.any::.str::qz 20 ((.int .i64)::(.int .i64)::qz 35 []))),h:=[.cells [(.int .i64),(.int .i64),(.imm [.str])],.cells [(.int .i64)],.vec 30 [.str]] }⟩]
noncomputable def q6p:List (FuncId×zw):=[(173,q9 qdv qd1 jK),(178,q9 q53 q57 jo),(179,q9 q6O q6X kL),(180,q9 q6y q70 ky),(181,q9 qdJ qcV q4K)]
theorem q8X:∀x,x∈q6p->qQ prog qa x.1 x.2:=(alc qev (alc qbm (alc qh6 (alc qie (alc qnY aln)))))
noncomputable def q3S:=qe q6p [(131,f131)] [] 0
noncomputable def uq:=vj q3S 131 f131 24 q7O q7P
theorem qiZ:ql prog qa q3S.nimp (qD prog q3S.iter 131) (zm f131 24) (qk q7O q7P (qh uq)):=gk q3S qc q8 q8X aln (b1 func131) func131
def q7C:Tmpl:={ t:=(.any::(.imm [.str])::(.ptr 0 0)::qz 5 ((.ptr 1 0)::(.vec 2)::qz 22 ((.int .i64)::(.int .i64)::qz 35 []))),h:=[.cells [(.int .i64),(.int .i64),(.imm [.str])],.cells [(.int .i64)],.vec 30 [.str]],pro:=[(9,30,[.str])] }
def q7D:List Out:=[⟨(.exit 0),{ t:=(qz 8 ((.ptr 1 0)::(.vec 2)::qz 59 [])),h:=[.dead,.cells [(.int .i64)],.vec 30 [.str]] }⟩]
noncomputable def q3y:=qe q6p [(131,f131)] [((131,24),qk q7O q7P (qh uq))] 0
noncomputable def uv:=vj q3y 131 f131 16 q7C q7D
theorem qj5:ql prog qa q3y.nimp (qD prog q3y.iter 131) (zm f131 16) (qk q7C q7D (qh uv)):=gk q3y qc q8 q8X (alc (lk func131 qiZ) aln) (b1 func131) func131
noncomputable def qjL:=qe q6p [(131,f131)] [((131,16),qk q7C q7D (qh uv))] 0
noncomputable def q4n:=qu qjL 131 f131 true qcW qdu
theorem qnV:qQ prog qa 131 (q9 qcW qdu q4n):=sk qjL qc q8 q8X (alc (lk func131 qj5) aln) (b1 func131) func131
def qjW:FIn:=⟨[(.imm [.str])],[]⟩
def qkt:List FOut:=[⟨(.tuple [.str,(.int .i64)]),[],none⟩]
def qdq:Tmpl:={ t:=(qz 5 (.str::qz 12 ((.imm [.str])::(.int .i64)::(.int .i64)::qz 15 []))),h:=[] }
def qdf:List Out:=[⟨(.exit 0),{ t:=(qz 5 (.str::qz 30 [])),h:=[] }⟩,⟨.ret,{ t:=(.any::.any::.str::(.int .i64)::qz 32 []),h:=[] }⟩]
noncomputable def q8m:=qe [(54,q9 wY wV qE),(123,q9 q1v q1M je)] [(132,f132)] [] 0
noncomputable def q25:=vj q8m 132 f132 11 qdq qdf
theorem qnq:ql prog qa q8m.nimp (qD prog q8m.iter 132) (zm f132 11) (qk qdq qdf (qh q25)):=gk q8m qc q8 (alc wt (alc q02 aln)) aln (b1 func132) func132
noncomputable def qpP:=qe [(54,q9 wY wV qE),(123,q9 q1v q1M je)] [(132,f132)] [((132,11),qk qdq qdf (qh q25))] 0
noncomputable def qbp:=qu qpP 132 f132 true qjW qkt
theorem qsf:qQ prog qa 132 (q9 qjW qkt qbp):=sk qpP qc q8 (alc wt (alc q02 aln)) (alc (lk func132 qnq) aln) (b1 func132) func132
def wo:FIn:=⟨[(.imm [.str]),(.imm [.str])],[]⟩
def wh:List FOut:=[⟨(.tuple [.str,(.int .i64)]),[],none⟩]
def jb:Tmpl:={ t:=(.any::(.imm [.str])::qz 4 (.str::qz 4 ((.imm [.str])::(.int .i64)::(.int .i64)::qz 27 []))),h:=[] }
def jg:List Out:=[⟨(.exit 0),{ t:=(qz 6 (.str::qz 34 [])),h:=[] }⟩,⟨.ret,{ t:=(qz 4 (.str::(.int .i64)::qz 35 [])),h:=[] }⟩]
noncomputable def zR:=qe [(123,q9 q1v q1M je),(124,q9 q5s q5v vt)] [(134,f134)] [] 0
noncomputable def qX:=vj zR 134 f134 4 jb jg
theorem q4R:ql prog qa zR.nimp (qD prog zR.iter 134) (zm f134 4) (qk jb jg (qh qX)):=gk zR qc q8 (alc q02 (alc q28 aln)) aln (b1 func134) func134
noncomputable def q0V:=qe [(123,q9 q1v q1M je),(124,q9 q5s q5v vt)] [(134,f134)] [((134,4),qk jb jg (qh qX))] 0
noncomputable def qJ:=qu q0V 134 f134 true wo wh
theorem uT:qQ prog qa 134 (q9 wo wh qJ):=sk q0V qc q8 (alc q02 (alc q28 aln)) (alc (lk func134 q4R) aln) (b1 func134) func134
def q4O:FIn:=⟨[(.agg [.str,.str,.str]),(.agg [(.int .i64),(.int .i64),(.int .i64)])],[]⟩
def q4N:List FOut:=[⟨(.tuple [.str,(.int .i64)]),[],none⟩]
def q9o:Tmpl:={ t:=(.any::.any::(.ptr 0 0)::.any::.any::.any::(.vec 2)::qz 5 ((.agg [(.int .i64),(.int .i64),(.int .i64)])::(.int .i64)::qz 25 [])),h:=[.cells [.str,.str,.str],.dead,.vec 30 [.str]],pro:=[(6,30,[.str])] }
def q8T:List Out:=[⟨(.exit 0),{ t:=(qz 6 ((.vec 2)::qz 32 [])),h:=[.dead,.dead,.vec 30 [.str]] }⟩,⟨.ret,{ t:=(qz 4 (.str::(.int .i64)::qz 33 [])),h:=[] }⟩]
noncomputable def qbP:List (FuncId×zw):=[(115,q9 q7y q7S zJ),(128,q9 q7c q6e jY),(133,q9 vJ vC qM),(134,q9 wo wh qJ)]
theorem qg6:∀x,x∈qbP->qQ prog qa x.1 x.2:=(alc q4E (alc q9m (alc yv (alc uT aln))))
noncomputable def q4T:=qe qbP [(135,f135)] [] 0
noncomputable def kg:=vj q4T 135 f135 4 q9o q8T
theorem qkw:ql prog qa q4T.nimp (qD prog q4T.iter 135) (zm f135 4) (qk q9o q8T (qh kg)):=gk q4T qc q8 qg6 aln (b1 func135) func135
noncomputable def qjO:=qe qbP [(135,f135)] [((135,4),qk q9o q8T (qh kg))] 0
noncomputable def j3:=qu qjO 135 f135 true q4O q4N
theorem q7H:qQ prog qa 135 (q9 q4O q4N j3):=sk qjO qc q8 qg6 (alc (lk func135 qkw) aln) (b1 func135) func135
def q94:FIn:=⟨[(.imm [(.int .i64),(.int .i64),(.int .i64)])],[]⟩
def q9k:List FOut:=[⟨(.tuple [(.agg [.str,.str,.str,.str,(.imm [.str])]),.bool,(.int .i64)]),[],none⟩]
def q5h:Tmpl:={ t:=((.imm [(.int .i64),(.int .i64),(.int .i64)])::.any::(.ptr 0 0)::.any::.any::(.int .i64)::(.vec 1)::(.vec 2)::(.int .i64)::qz 15 ((.int .i64)::(.int .i64)::.any::.any::(.int .i64)::(.int .i64)::qz 141 [])),h:=[.cells [.str,.str,.str,.str,.nils],.vec 3 [(.int .i64)],.vec 30 [.str]] }
def q5o:List Out:=[⟨(.exit 2),{ t:=((.imm [(.int .i64),(.int .i64),(.int .i64)])::.any::(.ptr 0 0)::.any::.any::(.int .i64)::(.vec 1)::(.vec 2)::(.int .i64)::qz 15 ((.int .i64)::(.int .i64)::qz 145 [])),h:=[.cells [.str,.str,.str,.str,.nils],.vec 3 [(.int .i64)],.vec 30 [.str]] }⟩]
noncomputable def uo:List (FuncId×zw):=[(115,q9 q7y q7S zJ),(127,q9 qfY qeU q1E),(128,q9 q7c q6e jY),(129,q9 qkz qk3 qaX),(130,q9 qgL qgw yJ),(131,q9 qcW qdu q4n),(132,q9 qjW qkt qbp),(133,q9 vJ vC qM),(134,q9 wo wh qJ),(135,q9 q4O q4N j3)]
theorem kt:∀x,x∈uo->qQ prog qa x.1 x.2:=(alc q4E (alc qp9 (alc q9m (alc qrL (alc qkp (alc qnV (alc qsf (alc yv (alc uT (alc q7H aln))))))))))
noncomputable def q1A:=qe uo [(94,f94)] [] 0
noncomputable def jB:=vj q1A 94 f94 13 q5h q5o
theorem qgX:ql prog qa q1A.nimp (qD prog q1A.iter 94) (zm f94 13) (qk q5h q5o (qh jB)):=gk q1A qc q8 kt aln (b1 func94) func94
def q6h:Tmpl:={ t:=((.imm [(.int .i64),(.int .i64),(.int .i64)])::.any::(.ptr 0 0)::.any::.any::(.int .i64)::(.vec 1)::(.vec 2)::qz 16 ((.int .i64)::(.int .i64)::qz 145 [])),h:=[.cells [.str,.str,.str,.str,.nils],.vec 3 [(.int .i64)],.vec 30 [.str]],pro:=[(6,3,[(.int .i64)]),(7,30,[.str])] }
def q64:List Out:=[⟨(.exit 0),{ t:=((.imm [(.int .i64),(.int .i64),(.int .i64)])::.any::(.ptr 0 0)::.any::.any::(.int .i64)::(.vec 1)::(.vec 2)::qz 163 []),h:=[.cells [.str,.str,.str,.str,.nils],.vec 3 [(.int .i64)],.vec 30 [.str]] }⟩]
noncomputable def q2u:=qe uo [(94,f94)] [((94,13),qk q5h q5o (qh jB))] 0
noncomputable def ym:=vj q2u 94 f94 6 q6h q64
theorem qic:ql prog qa q2u.nimp (qD prog q2u.iter 94) (zm f94 6) (qk q6h q64 (qh ym)):=gk q2u qc q8 kt (alc (lk func94 qgX) aln) (b1 func94) func94
def q5x:Tmpl:={ t:=((.imm [(.int .i64),(.int .i64),(.int .i64)])::.any::(.ptr 0 0)::qz 13 ((.ptr 6 0)::(.int .i64)::(.vec 7)::qz 107 ((.int .i64)::.any::.any::(.imm [(.int .i64),(.int .i64),(.int .i64)])::(.int .i64)::(.int .i64)::qz 39 []))),h:=[.cells [.str,.str,.str,.str,.nils],.dead,.dead,.dead,.dead,.frz 30 [.str],.cells [.str,.str,.str,.str,(.vec 5)],.vec 30 [.str]],pro:=[(18,30,[.str])] }
def q5y:List Out:=[⟨(.exit 6),{ t:=((.imm [(.int .i64),(.int .i64),(.int .i64)])::.any::(.ptr 0 0)::qz 13 ((.ptr 6 0)::(.int .i64)::(.vec 7)::qz 107 ((.int .i64)::qz 44 []))),h:=[.cells [.str,.str,.str,.str,.nils],.dead,.dead,.dead,.dead,.frz 30 [.str],.cells [.str,.str,.str,.str,(.vec 5)],.vec 30 [.str]] }⟩]
noncomputable def q1q:=qe uo [(94,f94)] [] 0
noncomputable def jH:=vj q1q 94 f94 52 q5x q5y
theorem qgM:ql prog qa q1q.nimp (qD prog q1q.iter 94) (zm f94 52) (qk q5x q5y (qh jH)):=gk q1q qc q8 kt aln (b1 func94) func94
def q5u:Tmpl:={ t:=((.imm [(.int .i64),(.int .i64),(.int .i64)])::.any::(.ptr 0 0)::qz 13 ((.ptr 6 0)::qz 109 ((.int .i64)::qz 44 []))),h:=[.cells [.str,.str,.str,.str,.nils],.dead,.dead,.dead,.dead,.frz 30 [.str],.cells [.str,.str,.str,.str,(.vec 5)]],fz:=[5] }
def q5t:List Out:=[⟨(.exit 4),{ t:=((.imm [(.int .i64),(.int .i64),(.int .i64)])::.any::(.ptr 0 0)::qz 13 ((.ptr 6 0)::qz 154 [])),h:=[.cells [.str,.str,.str,.str,.nils],.dead,.dead,.dead,.dead,.frz 30 [.str],.cells [.str,.str,.str,.str,(.vec 5)]] }⟩,⟨.ret,{ t:=(.any::.any::(.ptr 0 0)::.bool::(.int .i64)::qz 166 []),h:=[.cells [.str,.str,.str,.str,.nils]] }⟩]
noncomputable def q1u:=qe uo [(94,f94)] [((94,52),qk q5x q5y (qh jH))] 0
noncomputable def jF:=vj q1u 94 f94 44 q5u q5t
theorem qgP:ql prog qa q1u.nimp (qD prog q1u.iter 94) (zm f94 44) (qk q5u q5t (qh jF)):=gk q1u qc q8 kt (alc (lk func94 qgM) aln) (b1 func94) func94
noncomputable def qgi:=qe uo [(94,f94)] [((94,6),qk q6h q64 (qh ym)),((94,44),qk q5u q5t (qh jF))] 0
noncomputable def ki:=qu qgi 94 f94 true q94 q9k
theorem qk2:qQ prog qa 94 (q9 q94 q9k ki):=sk qgi qc q8 kt (alc (lk func94 qic) (alc (lk func94 qgP) aln)) (b1 func94) func94
def q98:FIn:=⟨[(.imm [(.int .i64),(.int .i64),(.int .i64)]),(.imm [(.int .i64)])],[]⟩
def q9e:List FOut:=[⟨(.imm [(.int .i64),(.int .i64),(.int .i64)]),[],none⟩]
def q7b:Tmpl:={ t:=((.imm [(.int .i64),(.int .i64),(.int .i64)])::qz 4 ((.vec 0)::.any::.any::(.imm [(.int .i64)])::(.int .i64)::(.int .i64)::qz 12 [])),h:=[.vec 115 [(.int .i64),(.int .i64),(.int .i64)]],pro:=[(5,115,[(.int .i64),(.int .i64),(.int .i64)])] }
def q66:List Out:=[⟨(.exit 0),{ t:=(qz 5 ((.vec 0)::qz 17 [])),h:=[.vec 115 [(.int .i64),(.int .i64),(.int .i64)]] }⟩]
noncomputable def q2C:=qe [] [(95,f95)] [] 0
noncomputable def yC:=vj q2C 95 f95 4 q7b q66
theorem qhg:ql prog qa q2C.nimp (qD prog q2C.iter 95) (zm f95 4) (qk q7b q66 (qh yC)):=gk q2C qc q8 aln aln (b1 func95) func95
noncomputable def qge:=qe [] [(95,f95)] [((95,4),qk q7b q66 (qh yC))] 0
noncomputable def q1U:=qu qge 95 f95 true q98 q9e
theorem qkx:qQ prog qa 95 (q9 q98 q9e q1U):=sk qge qc q8 aln (alc (lk func95 qhg) aln) (b1 func95) func95
def qfp:FIn:=⟨[.str],[]⟩
def qfy:List FOut:=[⟨(.tuple [.str,.str,(.int .i64)]),[],none⟩]
noncomputable def qlg:=qe [(48,q9 yd ya qP),(55,q9 q00 q0i qL)] [(183,f183)] [] 0
noncomputable def q6m:=qu qlg 183 f183 true qfp qfy
theorem qoI:qQ prog qa 183 (q9 qfp qfy q6m):=sk qlg qc q8 (alc jr (alc uf aln)) aln (b1 func183) func183
def qhK:FIn:=⟨[.str],[]⟩
def qio:List FOut:=[⟨(.tuple [(.int .i64),(.int .i64)]),[],none⟩]
noncomputable def qoF:=qe [(183,q9 qfp qfy q6m),(184,q9 qcN qcH q3f)] [(138,f138)] [] 0
noncomputable def q5C:=qu qoF 138 f138 true qhK qio
theorem qqR:qQ prog qa 138 (q9 qhK qio q5C):=sk qoF qc q8 (alc qoI (alc qhx aln)) aln (b1 func138) func138
def zN:FIn:=⟨[.str],[]⟩
def zO:List FOut:=[⟨.bool,[],none⟩]
noncomputable def q4w:=qe [(138,q9 qhK qio q5C)] [(137,f137)] [] 0
noncomputable def z8:=qu q4w 137 f137 true zN zO
theorem vS:qQ prog qa 137 (q9 zN zO z8):=sk q4w qc q8 (alc qqR aln) aln (b1 func137) func137
def vU:FIn:=⟨[(.imm [.str]),(.fn 137 [] [])],[]⟩
def vW:List FOut:=[⟨(.int .i64),[],none⟩]
def wW:Tmpl:={ t:=((.imm [.str])::(.fn 137 [] [])::qz 5 ((.int .i64)::(.int .i64)::qz 10 [])),h:=[] }
def wQ:List Out:=[⟨(.exit 0),{ t:=(qz 19 []),h:=[] }⟩,⟨.ret,{ t:=(qz 4 ((.int .i64)::qz 14 [])),h:=[] }⟩]
noncomputable def zH:=qe [(137,q9 zN zO z8)] [(182,f182)] [] 0
noncomputable def qH:=vj zH 182 f182 3 wW wQ
theorem q3d:ql prog qa zH.nimp (qD prog zH.iter 182) (zm f182 3) (qk wW wQ (qh qH)):=gk zH qc q8 (alc vS aln) aln (b1 func182) func182
noncomputable def uR:=qe [(137,q9 zN zO z8)] [(182,f182)] [((182,3),qk wW wQ (qh qH))] 0
noncomputable def qU:=qu uR 182 f182 true vU vW
theorem q4b:qQ prog qa 182 (q9 vU vW qU):=sk uR qc q8 (alc vS aln) (alc (lk func182 q3d) aln) (b1 func182) func182
def wA:FIn:=⟨[(.imm [.str]),(.fn 137 [] [])],[]⟩
def wE:List FOut:=[⟨.bool,[],none⟩]
noncomputable def yX:=qe [(137,q9 zN zO z8),(182,q9 vU vW qU)] [(136,f136)] [] 0
noncomputable def qY:=qu yX 136 f136 true wA wE
theorem q2K:qQ prog qa 136 (q9 wA wE qY):=sk yX qc q8 (alc vS (alc q4b aln)) aln (b1 func136) func136
def q1C:FIn:=⟨[(.agg [.str,.str,.str,.str,(.imm [.str])])],[]⟩
def q1N:List FOut:=[⟨.bool,[],none⟩]
noncomputable def q7a:=qe [(136,q9 wA wE qY),(137,q9 zN zO z8)] [(96,f96)] [] 0
noncomputable def j4:=qu q7a 96 f96 true q1C q1N
theorem qc5:qQ prog qa 96 (q9 q1C q1N j4):=sk q7a qc q8 (alc q2K (alc vS aln)) aln (b1 func96) func96
def q6v:FIn:=⟨[.str,.str],[]⟩
def q6j:List FOut:=[⟨(.tuple [(.int .i64),(.int .i64)]),[],none⟩]
noncomputable def qhb:=qe [(54,q9 wY wV qE),(55,q9 q00 q0i qL),(56,q9 vh ve qg),(57,q9 q6F q6I uA)] [(24,f24)] [] 0
noncomputable def uG:=qu qhb 24 f24 true q6v q6j
theorem qcr:qQ prog qa 24 (q9 q6v q6j uG):=sk qhb qc q8 (alc wt (alc uf (alc vq (alc qcg aln)))) aln (b1 func24) func24
def kX:FIn:=⟨[(.agg [.str,.str,.str,.str,(.imm [.str])]),(.imm [(.int .i64),(.int .i64),(.int .i64)])],[]⟩
def kR:List FOut:=[⟨(.tuple [.bool,(.int .i64)]),[],none⟩]
def uE:Tmpl:={ t:=(.any::.any::(.ptr 0 0)::qz 9 ((.imm [(.int .i64),(.int .i64),(.int .i64)])::(.int .i64)::(.int .i64)::qz 28 [])),h:=[.cells [.str,.str,.str,.str,(.imm [.str])]] }
def uI:List Out:=[⟨(.exit 0),{ t:=(qz 43 []),h:=[] }⟩,⟨.ret,{ t:=(qz 4 (.bool::(.int .i64)::qz 37 [])),h:=[] }⟩]
noncomputable def j6:=qe [(24,q9 q6v q6j uG),(135,q9 q4O q4N j3)] [(97,f97)] [] 0
noncomputable def ze:=vj j6 97 f97 3 uE uI
theorem q8w:ql prog qa j6.nimp (qD prog j6.iter 97) (zm f97 3) (qk uE uI (qh ze)):=gk j6 qc q8 (alc qcr (alc q7H aln)) aln (b1 func97) func97
noncomputable def q4l:=qe [(24,q9 q6v q6j uG),(135,q9 q4O q4N j3)] [(97,f97)] [((97,3),qk uE uI (qh ze))] 0
noncomputable def va:=qu q4l 97 f97 true kX kR
theorem qal:qQ prog qa 97 (q9 kX kR va):=sk q4l qc q8 (alc qcr (alc q7H aln)) (alc (lk func97 q8w) aln) (b1 func97) func97
def q5l:FIn:=⟨[(.imm [(.int .i64),(.int .i64),(.int .i64)]),(.imm [(.int .i64)])],[]⟩
def q5i:List FOut:=[⟨(.tuple [(.agg [.str,.str,.str,.str,(.imm [.str])]),.bool,(.int .i64)]),[],none⟩]
noncomputable def qaH:=qe [(94,q9 q94 q9k ki),(95,q9 q98 q9e q1U),(96,q9 q1C q1N j4),(97,q9 kX kR va)] [(64,f64)] [] 0
noncomputable def zX:=qu qaH 64 f64 true q5l q5i
theorem qgS:qQ prog qa 64 (q9 q5l q5i zX):=sk qaH qc q8 (alc qk2 (alc qkx (alc qc5 (alc qal aln)))) aln (b1 func64) func64
def qaD:FIn:=⟨[(.imm [(.int .i64),(.int .i64),(.int .i64)]),(.int .i64)],[]⟩
def qaV:List FOut:=[⟨(.tuple [(.agg [.str,.str,.str,.str,(.imm [.str])]),(.imm [(.int .i64)]),(.int .i64)]),[],none⟩]
def q2V:Tmpl:={ t:=(.yld::.any::(.ptr 4 0)::.any::.any::(.vec 7)::.any::(.imm [(.int .i64)])::.any::(.int .i64)::.any::.any::(.int .i64)::(.int .i64)::.any::(.vec 6)::(.int .i64)::(.int .i64)::qz 35 []),h:=[.cells [(.imm [(.int .i64),(.int .i64),(.int .i64)])],.cells [.str,.str,.str,.str,.nils],.cells [.nils],.cells [(.int .i64)],.cells [(.int .i64)],.cells [(.int .i64)],.vec 33 [(.sl [(.int .i64)])],.vec 33 [(.sl [(.int .i64)])]],fs:=[[.any,.any,(.ptr 0 0),.any,(.ptr 1 0),(.ptr 2 0),(.ptr 3 0),.any,.any,.any,.any,.any,.any,.any,(.fn 92 [] [(.ptr 5 0),(.ptr 4 0)]),.any,.any,.any,.any,.any,.any,.any,.any,.any,.any,.any,.any,.any,.any,.any,.any],[]] }
def q37:List Out:=[⟨(.exit 4),{ t:=(.yld::.any::(.ptr 4 0)::.any::.any::(.vec 7)::qz 6 ((.int .i64)::(.int .i64)::.any::(.vec 6)::(.int .i64)::(.int .i64)::qz 35 [])),h:=[.cells [(.imm [(.int .i64),(.int .i64),(.int .i64)])],.cells [.str,.str,.str,.str,.nils],.cells [.nils],.cells [(.int .i64)],.cells [(.int .i64)],.cells [(.int .i64)],.vec 33 [(.sl [(.int .i64)])],.vec 33 [(.sl [(.int .i64)])]],fs:=[[.any,.any,(.ptr 0 0),.any,(.ptr 1 0),(.ptr 2 0),(.ptr 3 0),.any,.any,.any,.any,.any,.any,.any,(.fn 92 [] [(.ptr 5 0),(.ptr 4 0)]),.any,.any,.any,.any,.any,.any,.any,.any,.any,.any,.any,.any,.any,.any,.any,.any],[]] }⟩,⟨.ret,{ t:=(qz 53 []),h:=[.cells [(.imm [(.int .i64),(.int .i64),(.int .i64)])],.cells [.str,.str,.str,.str,(.imm [.str])],.cells [(.vec 8)],.cells [(.int .i64)],.cells [(.int .i64)],.cells [(.int .i64)],.dead,.dead,.frz 3 [(.int .i64)]],fs:=[[.any,.any,(.ptr 0 0),.any,(.ptr 1 0),(.ptr 2 0),(.ptr 3 0),.any,.any,.any,.any,.any,.any,.any,(.fn 92 [] [(.ptr 5 0),(.ptr 4 0)]),.any,.any,.any,.any,.any,.any,.any,.any,.any,.any,.any,.any,.any,.any,.any,.any],[]],pend:=(.some .ret) }⟩]
noncomputable def q23:List (FuncId×zw):=[(64,q9 q5l q5i zX),(93,q9 q2e q2f wM)]
theorem q3I:∀x,x∈q23->qQ prog qa x.1 x.2:=(alc qgS (alc qcS aln))
noncomputable def ku:Env:={ tt:=q7J,glob:=qa,spec:=q23,body:=[(34,f34),(63,f63),(92,f92)],loops:=[],nimp:=0,iter:=[(92,34,3)],raws:=[93] }
noncomputable def qV:=qof ku (some (34,f34,3)) 92 f92 18 q2V q37
theorem qeC:ql prog qa ku.nimp (qD prog ku.iter 92) (zm f92 18) (qk q2V q37 (qh qV)):=q1l (E:=ku) qc ⟨q8t q8,⟨q3I,aln⟩,aln,(alc (bk func34) (alc (bk func63) (alc (bk func92) aln)))⟩ func92 (by kernel_rfl) (y:=some (34,f34,3)) ⟨func34,by kernel_rfl⟩ (by kernel_rfl) (by kernel_rfl) (fun _=>rfl)
def q40:Tmpl:={ t:=(.yld::.any::(.ptr 4 0)::.any::.any::(.vec 7)::qz 6 ((.int .i64)::(.int .i64)::.any::(.vec 6)::(.int .i64)::(.int .i64)::qz 35 [])),h:=[.cells [(.imm [(.int .i64),(.int .i64),(.int .i64)])],.cells [.str,.str,.str,.str,.nils],.cells [.nils],.cells [(.int .i64)],.cells [(.int .i64)],.cells [(.int .i64)],.vec 33 [(.sl [(.int .i64)])],.vec 33 [(.sl [(.int .i64)])]],pro:=[(5,33,[(.sl [(.int .i64)])])],fs:=[[.any,.any,(.ptr 0 0),.any,(.ptr 1 0),(.ptr 2 0),(.ptr 3 0),.any,.any,.any,.any,.any,.any,.any,(.fn 92 [] [(.ptr 5 0),(.ptr 4 0)]),.any,.any,.any,.any,.any,.any,.any,.any,.any,.any,.any,.any,.any,.any,.any,.any],[]] }
def q45:List Out:=[⟨(.exit 2),{ t:=(.yld::.any::(.ptr 4 0)::.any::.any::(.vec 7)::qz 6 ((.int .i64)::(.int .i64)::qz 39 [])),h:=[.cells [(.imm [(.int .i64),(.int .i64),(.int .i64)])],.cells [.str,.str,.str,.str,.nils],.cells [.nils],.cells [(.int .i64)],.cells [(.int .i64)],.cells [(.int .i64)],.dead,.vec 33 [(.sl [(.int .i64)])]],fs:=[[.any,.any,(.ptr 0 0),.any,(.ptr 1 0),(.ptr 2 0),(.ptr 3 0),.any,.any,.any,.any,.any,.any,.any,(.fn 92 [] [(.ptr 5 0),(.ptr 4 0)]),.any,.any,.any,.any,.any,.any,.any,.any,.any,.any,.any,.any,.any,.any,.any,.any],[]] }⟩,⟨.ret,{ t:=(qz 53 []),h:=[.cells [(.imm [(.int .i64),(.int .i64),(.int .i64)])],.cells [.str,.str,.str,.str,(.imm [.str])],.cells [(.vec 8)],.cells [(.int .i64)],.cells [(.int .i64)],.cells [(.int .i64)],.dead,.dead,.frz 3 [(.int .i64)]],fs:=[[.any,.any,(.ptr 0 0),.any,(.ptr 1 0),(.ptr 2 0),(.ptr 3 0),.any,.any,.any,.any,.any,.any,.any,(.fn 92 [] [(.ptr 5 0),(.ptr 4 0)]),.any,.any,.any,.any,.any,.any,.any,.any,.any,.any,.any,.any,.any,.any,.any,.any],[]],pend:=(.some .ret) }⟩]
noncomputable def q0v:Env:={ tt:=q7J,glob:=qa,spec:=q23,body:=[(34,f34),(63,f63),(92,f92)],loops:=[((92,18),qk q2V q37 (qh qV))],nimp:=0,iter:=[(92,34,3)],raws:=[93] }
noncomputable def ji:=qof q0v (some (34,f34,3)) 92 f92 9 q40 q45
theorem qfk:ql prog qa q0v.nimp (qD prog q0v.iter 92) (zm f92 9) (qk q40 q45 (qh ji)):=q1l (E:=q0v) qc ⟨q8t q8,⟨q3I,aln⟩,(alc (lk func92 qeC) aln),(alc (bk func34) (alc (bk func63) (alc (bk func92) aln)))⟩ func92 (by kernel_rfl) (y:=some (34,f34,3)) ⟨func34,by kernel_rfl⟩ (by kernel_rfl) (by kernel_rfl) (fun _=>rfl)
def q4e:Tmpl:={ t:=(.yld::.any::(.ptr 4 0)::.any::(.vec 6)::qz 7 ((.int .i64)::(.int .i64)::qz 39 [])),h:=[.cells [(.imm [(.int .i64),(.int .i64),(.int .i64)])],.cells [.str,.str,.str,.str,.nils],.cells [.nils],.cells [(.int .i64)],.cells [(.int .i64)],.cells [(.int .i64)],.vec 33 [(.sl [(.int .i64)])]],sw:=[(2,4),(4,6)],swn:=0,fs:=[[.any,.any,(.ptr 0 0),.any,(.ptr 1 0),(.ptr 2 0),(.ptr 3 0),.any,.any,.any,.any,.any,.any,.any,(.fn 92 [] [(.ptr 5 0),(.ptr 4 0)]),.any,.any,.any,.any,.any,.any,.any,.any,.any,.any,.any,.any,.any,.any,.any,.any],[]] }
def q46:List Out:=[⟨(.exit 0),{ t:=(qz 53 []),h:=[.cells [(.imm [(.int .i64),(.int .i64),(.int .i64)])],.cells [.str,.str,.str,.str,.nils],.cells [.nils],.cells [(.int .i64)],.cells [(.int .i64)],.cells [(.int .i64)]],fs:=[[.any,.any,(.ptr 0 0),.any,(.ptr 1 0),(.ptr 2 0),(.ptr 3 0),.any,.any,.any,.any,.any,.any,.any,(.fn 92 [] [(.ptr 5 0),(.ptr 4 0)]),.any,.any,.any,.any,.any,.any,.any,.any,.any,.any,.any,.any,.any,.any,.any,.any],[]] }⟩,⟨.ret,{ t:=(qz 53 []),h:=[.cells [(.imm [(.int .i64),(.int .i64),(.int .i64)])],.cells [.str,.str,.str,.str,(.imm [.str])],.cells [(.vec 8)],.cells [(.int .i64)],.cells [(.int .i64)],.cells [(.int .i64)],.dead,.dead,.frz 3 [(.int .i64)]],fs:=[[.any,.any,(.ptr 0 0),.any,(.ptr 1 0),(.ptr 2 0),(.ptr 3 0),.any,.any,.any,.any,.any,.any,.any,(.fn 92 [] [(.ptr 5 0),(.ptr 4 0)]),.any,.any,.any,.any,.any,.any,.any,.any,.any,.any,.any,.any,.any,.any,.any,.any],[]],pend:=(.some .ret) }⟩]
noncomputable def q0p:Env:={ tt:=q7J,glob:=qa,spec:=q23,body:=[(34,f34),(63,f63),(92,f92)],loops:=[((92,9),qk q40 q45 (qh ji))],nimp:=0,iter:=[(92,34,3)],raws:=[93] }
noncomputable def jl:=qof q0p (some (34,f34,3)) 92 f92 2 q4e q46
theorem qeR:ql prog qa q0p.nimp (qD prog q0p.iter 92) (zm f92 2) (qk q4e q46 (qh jl)):=q1l (E:=q0p) qc ⟨q8t q8,⟨q3I,aln⟩,(alc (lk func92 qfk) aln),(alc (bk func34) (alc (bk func63) (alc (bk func92) aln)))⟩ func92 (by kernel_rfl) (y:=some (34,f34,3)) ⟨func34,by kernel_rfl⟩ (by kernel_rfl) (by kernel_rfl) (fun _=>rfl)
noncomputable def qif:Env:={ tt:=q7J,glob:=qa,spec:=q23,body:=[(34,f34),(63,f63),(92,f92)],loops:=[((92,2),qk q4e q46 (qh jl))],nimp:=0,iter:=[(92,34,3)],raws:=[93] }
noncomputable def q0F:=qu qif 34 f34 true qaD qaV
theorem qmB:qQ prog qa 34 (q9 qaD qaV q0F):=sk qif qc q8 q3I (alc (lk func92 qeR) aln) (alc (bk func34) (alc (bk func63) (alc (bk func92) aln))) func34
def q8R:FIn:=⟨[(.imm [(.int .i64),(.int .i64)])],[]⟩
def q9f:List FOut:=[⟨(.imm [(.int .i64),(.int .i64),(.int .i64)]),[],none⟩]
def q6V:Tmpl:={ t:=(.any::.any::.any::(.vec 0)::.any::.any::(.imm [(.int .i64),(.int .i64)])::(.int .i64)::(.int .i64)::qz 13 []),h:=[.vec 115 [(.int .i64),(.int .i64),(.int .i64)]],pro:=[(3,115,[(.int .i64),(.int .i64),(.int .i64)])] }
def q6T:List Out:=[⟨(.exit 0),{ t:=(.any::.any::.any::(.vec 0)::qz 18 []),h:=[.vec 115 [(.int .i64),(.int .i64),(.int .i64)]] }⟩]
noncomputable def q2A:=qe [] [(35,f35)] [] 0
noncomputable def yp:=vj q2A 35 f35 4 q6V q6T
theorem qhl:ql prog qa q2A.nimp (qD prog q2A.iter 35) (zm f35 4) (qk q6V q6T (qh yp)):=gk q2A qc q8 aln aln (b1 func35) func35
noncomputable def qgd:=qe [] [(35,f35)] [((35,4),qk q6V q6T (qh yp))] 0
noncomputable def q1Z:=qu qgd 35 f35 true q8R q9f
theorem qkG:qQ prog qa 35 (q9 q8R q9f q1Z):=sk qgd qc q8 aln (alc (lk func35 qhl) aln) (b1 func35) func35
def q2d:FIn:=⟨[(.agg [.str,.str,.str,.str,(.imm [.str])])],[]⟩
def q2i:List FOut:=[⟨(.agg [.str,.str]),[],none⟩]
noncomputable def q7o:=qe [] [(36,f36)] [] 0
noncomputable def uP:=qu q7o 36 f36 true q2d q2i
theorem qdI:qQ prog qa 36 (q9 q2d q2i uP):=sk q7o qc q8 aln aln (b1 func36) func36
def q9r:FIn:=⟨[(.imm [(.int .i64),(.int .i64)])],[]⟩
def q8S:List FOut:=[⟨(.tuple [(.agg [.str,.str]),.str,(.imm [(.int .i64)]),(.int .i64)]),[],none⟩]
noncomputable def qgm:=qe [(33,q9 qde qcU q4D),(34,q9 qaD qaV q0F),(35,q9 q8R q9f q1Z),(36,q9 q2d q2i uP)] [(11,f11)] [] 0
noncomputable def q1X:=qu qgm 11 f11 true q9r q8S
theorem qk7:qQ prog qa 11 (q9 q9r q8S q1X):=sk qgm qc q8 (alc qnZ (alc qmB (alc qkG (alc qdI aln)))) aln (b1 func11) func11
def qai:FIn:=⟨[.str],[]⟩
def qa1:List FOut:=[⟨(.int .i64),[],none⟩]
def qbr:Tmpl:={ t:=(.str::.any::.any::(.int .i64)::qz 11 []),h:=[] }
def qb3:List Out:=[⟨(.exit 0),{ t:=(qz 15 []),h:=[] }⟩,⟨.ret,{ t:=(.any::.any::(.int .i64)::qz 12 []),h:=[] }⟩]
noncomputable def q78:=qe [] [(39,f39)] [] 0
noncomputable def q3b:=vj q78 39 f39 3 qbr qb3
theorem qlf:ql prog qa q78.nimp (qD prog q78.iter 39) (zm f39 3) (qk qbr qb3 (qh q3b)):=gk q78 qc q8 aln aln (b1 func39) func39
noncomputable def qlD:=qe [] [(39,f39)] [((39,3),qk qbr qb3 (qh q3b))] 0
noncomputable def q1D:=qu qlD 39 f39 true qai qa1
theorem qgf:qQ prog qa 39 (q9 qai qa1 q1D):=sk qlD qc q8 aln (alc (lk func39 qlf) aln) (b1 func39) func39
def q9I:FIn:=⟨[.str],[]⟩
def qar:List FOut:=[⟨(.tuple [.str,.str]),[],none⟩]
noncomputable def ql5:=qe [(39,q9 qai qa1 q1D)] [(37,f37)] [] 0
noncomputable def ue:=qu ql5 37 f37 true q9I qar
theorem qgI:qQ prog qa 37 (q9 q9I qar ue):=sk ql5 qc q8 (alc qgf aln) aln (b1 func37) func37
def jq:FIn:=⟨[.str],[]⟩
def jn:List FOut:=[⟨.str,[],none⟩]
noncomputable def qom:=qe [] [(65,f65)] [] 0
noncomputable def qx:=qu qom 65 f65 true jq jn
theorem wR:qQ prog qa 65 (q9 jq jn qx):=sk qom qc q8 aln aln (b1 func65) func65
def qfB:FIn:=⟨[.str],[]⟩
def qff:List FOut:=[⟨(.int .i64),[],none⟩]
def qaW:Tmpl:={ t:=(.any::.any::.any::.str::(.int .i64)::qz 38 []),h:=[] }
def qaC:List Out:=[⟨(.exit 0),{ t:=(.any::.any::.any::.str::qz 39 []),h:=[] }⟩,⟨.ret,{ t:=(.any::.any::(.int .i64)::qz 40 []),h:=[] }⟩]
noncomputable def q6r:=qe [(65,q9 jq jn qx)] [(38,f38)] [] 0
noncomputable def q3c:=vj q6r 38 f38 7 qaW qaC
theorem qkV:ql prog qa q6r.nimp (qD prog q6r.iter 38) (zm f38 7) (qk qaW qaC (qh q3c)):=gk q6r qc q8 (alc wR aln) aln (b1 func38) func38
noncomputable def qmG:=qe [(65,q9 jq jn qx)] [(38,f38)] [((38,7),qk qaW qaC (qh q3c))] 0
noncomputable def q3F:=qu qmG 38 f38 true qfB qff
theorem qp2:qQ prog qa 38 (q9 qfB qff q3F):=sk qmG qc q8 (alc wR aln) (alc (lk func38 qkV) aln) (b1 func38) func38
def jZ:FIn:=⟨[.str],[]⟩
def jL:List FOut:=[⟨.bool,[],none⟩]
noncomputable def qli:=qe [] [(67,f67)] [] 0
noncomputable def qI:=qu qli 67 f67 true jZ jL
theorem jp:qQ prog qa 67 (q9 jZ jL qI):=sk qli qc q8 aln aln (b1 func67) func67
def q0g:FIn:=⟨[.str,.bool],[]⟩
def q06:List FOut:=[⟨.str,[],none⟩]
noncomputable def qjC:=qe [] [(68,f68)] [] 0
noncomputable def zk:=qu qjC 68 f68 true q0g q06
theorem q0O:qQ prog qa 68 (q9 q0g q06 zk):=sk qjC qc q8 aln aln (b1 func68) func68
def ui:FIn:=⟨[.str],[]⟩
def uh:List FOut:=[⟨.str,[],none⟩]
noncomputable def qjf:=qe [(65,q9 jq jn qx),(67,q9 jZ jL qI),(68,q9 q0g q06 zk)] [(72,f72)] [] 0
noncomputable def w8:=qu qjf 72 f72 true ui uh
theorem un:qQ prog qa 72 (q9 ui uh w8):=sk qjf qc q8 (alc wR (alc jp (alc q0O aln))) aln (b1 func72) func72
def qfe:FIn:=⟨[(.int .i64)],[]⟩
def qfo:List FOut:=[⟨.str,[],none⟩]
def qfj:Tmpl:={ t:=((.int .i64)::.any::.any::.str::qz 33 []),h:=[] }
def qfa:List Out:=[⟨(.exit 0),{ t:=((.int .i64)::.any::.any::.str::qz 33 []),h:=[] }⟩]
noncomputable def qa6:=qe [(72,q9 ui uh w8)] [] [] 0
noncomputable def qam:=vj qa6 44 f44 9 qfj qfa
theorem qp6:ql prog qa qa6.nimp (qD prog qa6.iter 44) (zm f44 9) (qk qfj qfa (qh qam)):=gk qa6 qc q8 (alc un aln) aln aln func44
noncomputable def qqV:=qe [(72,q9 ui uh w8)] [] [((44,9),qk qfj qfa (qh qam))] 0
noncomputable def q5z:=qu qqV 44 f44 true qfe qfo
theorem qjM:qQ prog qa 44 (q9 qfe qfo q5z):=sk qqV qc q8 (alc un aln) (alc (lk func44 qp6) aln) aln func44
def q5H:FIn:=⟨[(.int .i64)],[]⟩
def q5S:List FOut:=[⟨.str,[],none⟩]
def qhw:Tmpl:={ t:=((.int .i64)::.any::.any::.str::qz 33 []),h:=[] }
def qhV:List Out:=[⟨(.exit 0),{ t:=((.int .i64)::.any::.any::.str::qz 33 []),h:=[] }⟩]
noncomputable def qcw:=qe [(44,q9 qfe qfo q5z),(72,q9 ui uh w8)] [] [] 0
noncomputable def qch:=vj qcw 44 f44 9 qhw qhV
theorem qrc:ql prog qa qcw.nimp (qD prog qcw.iter 44) (zm f44 9) (qk qhw qhV (qh qch)):=gk qcw qc q8 (alc qjM (alc un aln)) aln aln func44
noncomputable def qsN:=qe [(44,q9 qfe qfo q5z),(72,q9 ui uh w8)] [] [((44,9),qk qhw qhV (qh qch))] 0
noncomputable def zA:=qu qsN 44 f44 true q5H q5S
theorem q3v:qQ prog qa 44 (q9 q5H q5S zA):=sk qsN qc q8 (alc qjM (alc un aln)) (alc (lk func44 qrc) aln) aln func44
def qdD:FIn:=⟨[.str],[]⟩
def qd2:List FOut:=[⟨(.int .i64),[],none⟩]
def q9b:Tmpl:={ t:=(.str::.any::.any::(.int .i64)::.str::(.int .i64)::qz 21 []),h:=[] }
def q9j:List Out:=[⟨(.exit 0),{ t:=(.str::.any::.any::(.int .i64)::qz 23 []),h:=[] }⟩]
noncomputable def q54:=qe [(65,q9 jq jn qx),(67,q9 jZ jL qI)] [(99,f99)] [] 0
noncomputable def kq:=vj q54 99 f99 4 q9b q9j
theorem qkT:ql prog qa q54.nimp (qD prog q54.iter 99) (zm f99 4) (qk q9b q9j (qh kq)):=gk q54 qc q8 (alc wR (alc jp aln)) aln (b1 func99) func99
noncomputable def qjh:=qe [(65,q9 jq jn qx),(67,q9 jZ jL qI)] [(99,f99)] [((99,4),qk q9b q9j (qh kq))] 0
noncomputable def ul:=qu qjh 99 f99 true qdD qd2
theorem qmY:qQ prog qa 99 (q9 qdD qd2 ul):=sk qjh qc q8 (alc wR (alc jp aln)) (alc (lk func99 qkT) aln) (b1 func99) func99
def q3Q:FIn:=⟨[.str,.str],[]⟩
def q3r:List FOut:=[⟨(.tuple [(.int .i64),(.int .i64),.bool]),[],none⟩]
noncomputable def qmg:=qe [(65,q9 jq jn qx),(99,q9 qdD qd2 ul)] [(69,f69)] [] 0
noncomputable def j9:=qu qmg 69 f69 true q3Q q3r
theorem q4Z:qQ prog qa 69 (q9 q3Q q3r j9):=sk qmg qc q8 (alc wR (alc qmY aln)) aln (b1 func69) func69
def q8v:FIn:=⟨[.str],[]⟩
def q8G:List FOut:=[⟨.str,[],none⟩]
def qdM:Tmpl:={ t:=(.str::qz 13 []),h:=[] }
def qdn:List Out:=[⟨(.exit 0),{ t:=(.str::qz 13 []),h:=[] }⟩]
noncomputable def q85:=qe [] [(141,f141)] [] 0
noncomputable def q4P:=vj q85 141 f141 2 qdM qdn
theorem qmU:ql prog qa q85.nimp (qD prog q85.iter 141) (zm f141 2) (qk qdM qdn (qh q4P)):=gk q85 qc q8 aln aln (b1 func141) func141
noncomputable def qor:=qe [] [(141,f141)] [((141,2),qk qdM qdn (qh q4P))] 0
noncomputable def uk:=qu qor 141 f141 true q8v q8G
theorem qbE:qQ prog qa 141 (q9 q8v q8G uk):=sk qor qc q8 aln (alc (lk func141 qmU) aln) (b1 func141) func141
def qhr:FIn:=⟨[.str,(.int .i64)],[]⟩
def qhv:List FOut:=[⟨.str,[],none⟩]
def qdw:Tmpl:={ t:=(.str::(.int .i64)::.any::.any::.any::(.vec 0)::(.int .i64)::qz 20 []),h:=[.vec 5 [(.int .u8)]] }
def qd3:List Out:=[⟨(.exit 0),{ t:=(.str::(.int .i64)::.any::.any::.any::(.vec 0)::qz 21 []),h:=[.vec 5 [(.int .u8)]] }⟩]
noncomputable def q8k:=qe [] [(185,f185)] [] 0
noncomputable def q27:=vj q8k 185 f185 4 qdw qd3
theorem qnk:ql prog qa q8k.nimp (qD prog q8k.iter 185) (zm f185 4) (qk qdw qd3 (qh q27)):=gk q8k qc q8 aln aln (b1 func185) func185
noncomputable def qoB:=qe [] [(185,f185)] [((185,4),qk qdw qd3 (qh q27))] 0
noncomputable def q5T:=qu qoB 185 f185 true qhr qhv
theorem qqi:qQ prog qa 185 (q9 qhr qhv q5T):=sk qoB qc q8 aln (alc (lk func185 qnk) aln) (b1 func185) func185
def qd9:FIn:=⟨[(.int .u8),(.int .u8),(.int .i64),.bool],[]⟩
def qdh:List FOut:=[⟨(.tuple [(.int .u8),(.int .i64)]),[],none⟩]
noncomputable def qjc:=qe [] [(186,f186)] [] 0
noncomputable def q4u:=qu qjc 186 f186 true qd9 qdh
theorem qnK:qQ prog qa 186 (q9 qd9 qdh q4u):=sk qjc qc q8 aln aln (b1 func186) func186
def q9N:FIn:=⟨[.str,.str,.bool],[]⟩
def qah:List FOut:=[⟨.str,[],none⟩]
def qaR:Tmpl:={ t:=(.str::.str::.bool::qz 5 ((.vec 0)::(.int .i64)::(.int .i64)::qz 38 [])),h:=[.vec 5 [(.int .u8)]] }
def qbu:List Out:=[⟨(.exit 0),{ t:=(qz 8 ((.vec 0)::qz 40 [])),h:=[.vec 5 [(.int .u8)]] }⟩]
noncomputable def qdt:List (FuncId×zw):=[(141,q9 q8v q8G uk),(185,q9 qhr qhv q5T),(186,q9 qd9 qdh q4u)]
theorem qhz:∀x,x∈qdt->qQ prog qa x.1 x.2:=(alc qbE (alc qqi (alc qnK aln)))
noncomputable def q76:=qe qdt [(139,f139)] [] 0
noncomputable def q0M:=vj q76 139 f139 7 qaR qbu
theorem qmw:ql prog qa q76.nimp (qD prog q76.iter 139) (zm f139 7) (qk qaR qbu (qh q0M)):=gk q76 qc q8 qhz aln (b1 func139) func139
noncomputable def qmJ:=qe qdt [(139,f139)] [((139,7),qk qaR qbu (qh q0M))] 0
noncomputable def ud:=qu qmJ 139 f139 true q9N qah
theorem qgy:qQ prog qa 139 (q9 q9N qah ud):=sk qmJ qc q8 qhz (alc (lk func139 qmw) aln) (b1 func139) func139
def qcD:FIn:=⟨[.str,.str],[]⟩
def qcz:List FOut:=[⟨.bool,[],none⟩]
noncomputable def qou:=qe [] [(140,f140)] [] 0
noncomputable def q2Y:=qu qou 140 f140 true qcD qcz
theorem qij:qQ prog qa 140 (q9 qcD qcz q2Y):=sk qou qc q8 aln aln (b1 func140) func140
def qhP:FIn:=⟨[.str,.str],[]⟩
def qhs:List FOut:=[⟨.str,[],none⟩]
noncomputable def qow:=qe [(44,q9 q5H q5S zA),(65,q9 jq jn qx),(67,q9 jZ jL qI),(68,q9 q0g q06 zk),(69,q9 q3Q q3r j9),(139,q9 q9N qah ud),(140,q9 qcD qcz q2Y)] [(98,f98)] [] 0
noncomputable def q8I:=qu qow 98 f98 true qhP qhs
theorem qpW:qQ prog qa 98 (q9 qhP qhs q8I):=sk qow qc q8 (alc q3v (alc wR (alc jp (alc q0O (alc q4Z (alc qgy (alc qij aln))))))) aln (b1 func98) func98
def q9J:FIn:=⟨[.str,.str],[]⟩
def q9L:List FOut:=[⟨.str,[],none⟩]
noncomputable def qma:=qe [(72,q9 ui uh w8),(98,q9 qhP qhs q8I)] [(66,f66)] [] 0
noncomputable def u6:=qu qma 66 f66 true q9J q9L
theorem qgp:qQ prog qa 66 (q9 q9J q9L u6):=sk qma qc q8 (alc un (alc qpW aln)) aln (b1 func66) func66
def qfs:FIn:=⟨[.str,.str],[]⟩
def qfm:List FOut:=[⟨(.int .i64),[],none⟩]
noncomputable def qml:=qe [(66,q9 q9J q9L u6),(67,q9 jZ jL qI)] [(40,f40)] [] 0
noncomputable def q6E:=qu qml 40 f40 true qfs qfm
theorem qoH:qQ prog qa 40 (q9 qfs qfm q6E):=sk qml qc q8 (alc qgp (alc jp aln)) aln (b1 func40) func40
def qbQ:FIn:=⟨[.str,.str],[]⟩
def qba:List FOut:=[⟨.str,[],none⟩]
def q7U:Tmpl:={ t:=(.str::.str::.any::.any::.any::(.vec 0)::(.int .i64)::(.int .i64)::qz 69 []),h:=[.vec 3 [(.int .i64)]] }
def q7F:List Out:=[⟨(.exit 2),{ t:=(.str::.str::.any::.any::.any::(.vec 0)::(.int .i64)::qz 70 []),h:=[.vec 3 [(.int .i64)]] }⟩]
noncomputable def q1S:List (FuncId×zw):=[(141,q9 q8v q8G uk)]
theorem q3m:∀x,x∈q1S->qQ prog qa x.1 x.2:=(alc qbE aln)
noncomputable def q3K:=qe q1S [(101,f101)] [] 0
noncomputable def um:=vj q3K 101 f101 9 q7U q7F
theorem qiY:ql prog qa q3K.nimp (qD prog q3K.iter 101) (zm f101 9) (qk q7U q7F (qh um)):=gk q3K qc q8 q3m aln (b1 func101) func101
def q7K:Tmpl:={ t:=(.str::.str::.any::.any::.any::(.vec 0)::(.int .i64)::qz 70 []),h:=[.vec 3 [(.int .i64)]] }
def q7L:List Out:=[⟨(.exit 0),{ t:=(qz 5 ((.vec 0)::qz 71 [])),h:=[.vec 3 [(.int .i64)]] }⟩]
noncomputable def q3l:=qe q1S [(101,f101)] [((101,9),qk q7U q7F (qh um))] 0
noncomputable def uu:=vj q3l 101 f101 4 q7K q7L
theorem qj0:ql prog qa q3l.nimp (qD prog q3l.iter 101) (zm f101 4) (qk q7K q7L (qh uu)):=gk q3l qc q8 q3m (alc (lk func101 qiY) aln) (b1 func101) func101
def q6C:Tmpl:={ t:=(qz 5 ((.vec 0)::.any::.any::(.vec 1)::(.int .i64)::(.int .i64)::qz 66 [])),h:=[.vec 3 [(.int .i64)],.vec 5 [(.int .u8)]] }
def q6S:List Out:=[⟨(.exit 4),{ t:=(qz 8 ((.vec 1)::qz 68 [])),h:=[.dead,.vec 5 [(.int .u8)]] }⟩]
noncomputable def q2G:=qe q1S [(101,f101)] [] 0
noncomputable def yk:=vj q2G 101 f101 17 q6C q6S
theorem qhq:ql prog qa q2G.nimp (qD prog q2G.iter 101) (zm f101 17) (qk q6C q6S (qh yk)):=gk q2G qc q8 q3m aln (b1 func101) func101
noncomputable def qi5:=qe q1S [(101,f101)] [((101,4),qk q7K q7L (qh uu)),((101,17),qk q6C q6S (qh yk))] 0
noncomputable def q36:=qu qi5 101 f101 true qbQ qba
theorem qlO:qQ prog qa 101 (q9 qbQ qba q36):=sk qi5 qc q8 q3m (alc (lk func101 qj0) (alc (lk func101 qhq) aln)) (b1 func101) func101
def qaa:FIn:=⟨[.str,.str],[]⟩
def qad:List FOut:=[⟨.str,[],none⟩]
noncomputable def qlz:=qe [(44,q9 q5H q5S zA),(65,q9 jq jn qx),(67,q9 jZ jL qI),(68,q9 q0g q06 zk),(69,q9 q3Q q3r j9),(101,q9 qbQ qba q36)] [(71,f71)] [] 0
noncomputable def vg:=qu qlz 71 f71 true qaa qad
theorem qgo:qQ prog qa 71 (q9 qaa qad vg):=sk qlz qc q8 (alc q3v (alc wR (alc jp (alc q0O (alc q4Z (alc qlO aln)))))) aln (b1 func71) func71
def qbO:FIn:=⟨[.str,.str],[]⟩
def qb7:List FOut:=[⟨(.tuple [.str,.str]),[],none⟩]
def q71:Tmpl:={ t:=(.str::.str::qz 4 (.str::.str::(.int .i64)::(.int .u8)::qz 31 [])),h:=[] }
def q6Q:List Out:=[⟨(.exit 2),{ t:=(.str::.str::qz 4 (.str::.str::(.int .i64)::(.int .u8)::qz 31 [])),h:=[] }⟩]
noncomputable def q5b:List (FuncId×zw):=[(139,q9 q9N qah ud),(140,q9 qcD qcz q2Y),(141,q9 q8v q8G uk)]
theorem q7T:∀x,x∈q5b->qQ prog qa x.1 x.2:=(alc qgy (alc qij (alc qbE aln)))
noncomputable def q2E:=qe q5b [(100,f100)] [] 0
noncomputable def yD:=vj q2E 100 f100 11 q71 q6Q
theorem qho:ql prog qa q2E.nimp (qD prog q2E.iter 100) (zm f100 11) (qk q71 q6Q (qh yD)):=gk q2E qc q8 q7T aln (b1 func100) func100
def q7Y:Tmpl:={ t:=(.str::.str::qz 4 (.str::.str::(.int .i64)::qz 32 [])),h:=[] }
def q7Z:List Out:=[⟨(.exit 0),{ t:=(qz 6 (.str::.str::qz 33 [])),h:=[] }⟩]
noncomputable def q3j:=qe q5b [(100,f100)] [((100,11),qk q71 q6Q (qh yD))] 0
noncomputable def q18:=vj q3j 100 f100 4 q7Y q7Z
theorem qj1:ql prog qa q3j.nimp (qD prog q3j.iter 100) (zm f100 4) (qk q7Y q7Z (qh q18)):=gk q3j qc q8 q7T (alc (lk func100 qho) aln) (b1 func100) func100
noncomputable def qh8:=qe q5b [(100,f100)] [((100,4),qk q7Y q7Z (qh q18))] 0
noncomputable def q2S:=qu qh8 100 f100 true qbO qb7
theorem qlE:qQ prog qa 100 (q9 qbO qb7 q2S):=sk qh8 qc q8 q7T (alc (lk func100 qj1) aln) (b1 func100) func100
def q8i:FIn:=⟨[.str,.str],[]⟩
def q8e:List FOut:=[⟨(.tuple [.str,.str]),[],none⟩]
noncomputable def qjv:=qe [(44,q9 q5H q5S zA),(65,q9 jq jn qx),(66,q9 q9J q9L u6),(67,q9 jZ jL qI),(68,q9 q0g q06 zk),(69,q9 q3Q q3r j9),(71,q9 qaa qad vg),(100,q9 qbO qb7 q2S)] [(70,f70)] [] 0
noncomputable def vZ:=qu qjv 70 f70 true q8i q8e
theorem qea:qQ prog qa 70 (q9 q8i q8e vZ):=sk qjv qc q8 (alc q3v (alc wR (alc qgp (alc jp (alc q0O (alc q4Z (alc qgo (alc qlE aln)))))))) aln (b1 func70) func70
def q8l:FIn:=⟨[.str,.str],[]⟩
def q8a:List FOut:=[⟨.str,[],none⟩]
def q7N:Tmpl:={ t:=(qz 5 ((.int .i64)::(.int .i64)::qz 36 [])),h:=[] }
def q7t:List Out:=[⟨(.exit 2),{ t:=(qz 5 ((.int .i64)::qz 37 [])),h:=[] }⟩]
noncomputable def q79:List (FuncId×zw):=[(44,q9 q5H q5S zA),(65,q9 jq jn qx),(68,q9 q0g q06 zk),(69,q9 q3Q q3r j9),(70,q9 q8i q8e vZ)]
theorem q99:∀x,x∈q79->qQ prog qa x.1 x.2:=(alc q3v (alc wR (alc q0O (alc q4Z (alc qea aln)))))
noncomputable def q3N:=qe q79 [(41,f41)] [] 0
noncomputable def ur:=vj q3N 41 f41 10 q7N q7t
theorem qj8:ql prog qa q3N.nimp (qD prog q3N.iter 41) (zm f41 10) (qk q7N q7t (qh ur)):=gk q3N qc q8 q99 aln (b1 func41) func41
def q9l:Tmpl:={ t:=(.str::.str::qz 41 []),h:=[] }
def q93:List Out:=[⟨(.exit 0),{ t:=(.str::qz 42 []),h:=[] }⟩,⟨.ret,{ t:=(qz 4 (.str::qz 38 [])),h:=[] }⟩]
noncomputable def q51:=qe q79 [(41,f41)] [((41,10),qk q7N q7t (qh ur))] 0
noncomputable def q1V:=vj q51 41 f41 3 q9l q93
theorem qjZ:ql prog qa q51.nimp (qD prog q51.iter 41) (zm f41 3) (qk q9l q93 (qh q1V)):=gk q51 qc q8 q99 (alc (lk func41 qj8) aln) (b1 func41) func41
noncomputable def qjR:=qe q79 [(41,f41)] [((41,3),qk q9l q93 (qh q1V))] 0
noncomputable def q09:=qu qjR 41 f41 true q8l q8a
theorem qee:qQ prog qa 41 (q9 q8l q8a q09):=sk qjR qc q8 q99 (alc (lk func41 qjZ) aln) (b1 func41) func41
def qeT:FIn:=⟨[.str],[]⟩
def qfi:List FOut:=[⟨(.int .i64),[],none⟩]
noncomputable def qlw:=qe [(37,q9 q9I qar ue),(38,q9 qfB qff q3F),(39,q9 qai qa1 q1D),(40,q9 qfs qfm q6E),(41,q9 q8l q8a q09)] [(12,f12)] [] 0
noncomputable def q6t:=qu qlw 12 f12 true qeT qfi
theorem qoY:qQ prog qa 12 (q9 qeT qfi q6t):=sk qlw qc q8 (alc qgI (alc qp2 (alc qgf (alc qoH (alc qee aln))))) aln (b1 func12) func12
def qb1:FIn:=⟨[.str,.str],[]⟩
def qbl:List FOut:=[⟨(.imm [.str]),[],none⟩]
noncomputable def qhI:=qe [(37,q9 q9I qar ue),(71,q9 qaa qad vg)] [(42,f42)] [] 0
noncomputable def q34:=qu qhI 42 f42 true qb1 qbl
theorem qmC:qQ prog qa 42 (q9 qb1 qbl q34):=sk qhI qc q8 (alc qgI (alc qgo aln)) aln (b1 func42) func42
def q83:FIn:=⟨[.str,.str],[]⟩
def q8o:List FOut:=[⟨.str,[],none⟩]
noncomputable def qjs:=qe [(41,q9 q8l q8a q09),(67,q9 jZ jL qI),(70,q9 q8i q8e vZ),(72,q9 ui uh w8)] [(43,f43)] [] 0
noncomputable def q08:=qu qjs 43 f43 true q83 q8o
theorem qeG:qQ prog qa 43 (q9 q83 q8o q08):=sk qjs qc q8 (alc qee (alc jp (alc qea (alc un aln)))) aln (b1 func43) func43
end Go.Eng

namespace Go.Eng
open Go.Proofs
open Tryz
def qeP:FIn:=⟨[.str,.str],[]⟩
def qfU:List FOut:=[⟨.str,[],none⟩]
noncomputable def qm7:=qe [(42,q9 qb1 qbl q34),(43,q9 q83 q8o q08)] [(13,f13)] [] 0
noncomputable def q6d:=qu qm7 13 f13 true qeP qfU
theorem qpd:qQ prog qa 13 (q9 qeP qfU q6d):=sk qm7 qc q8 (alc qmC (alc qeG aln)) aln (b1 func13) func13
def qi4:FIn:=⟨[(.int .i64),(.int .i64)],[]⟩
def qig:List FOut:=[⟨.str,[],none⟩]
noncomputable def qoa:=qe [(43,q9 q83 q8o q08),(44,q9 q5H q5S zA)] [(14,f14)] [] 0
noncomputable def q8H:=qu qoa 14 f14 true qi4 qig
theorem qq4:qQ prog qa 14 (q9 qi4 qig q8H):=sk qoa qc q8 (alc qeG (alc q3v aln)) aln (b1 func14) func14
def qfV:FIn:=⟨[(.int .i64)],[]⟩
def qeM:List FOut:=[⟨.str,[],none⟩]
noncomputable def qmo:=qe [(44,q9 q5H q5S zA)] [(15,f15)] [] 0
noncomputable def q3T:=qu qmo 15 f15 true qfV qeM
theorem qph:qQ prog qa 15 (q9 qfV qeM q3T):=sk qmo qc q8 (alc q3v aln) aln (b1 func15) func15
def q90:FIn:=⟨[(.agg [.str,.str,.str]),(.agg [.str,.str])],[]⟩
def q8P:List FOut:=[⟨(.tuple [.bool,(.int .i64)]),[],none⟩]
def q6i:Tmpl:={ t:=(.any::.any::(.ptr 0 0)::(.ptr 1 0)::qz 17 ((.vec 2)::(.int .i64)::(.int .i64)::qz 33 [])),h:=[.cells [.str,.str,.str],.cells [.str,.str],.vec 30 [.str]] }
def q6l:List Out:=[⟨(.exit 0),{ t:=(.any::.any::(.ptr 0 0)::(.ptr 1 0)::qz 53 []),h:=[.cells [.str,.str,.str],.cells [.str,.str]] }⟩,⟨.ret,{ t:=(qz 4 (.bool::(.int .i64)::qz 51 [])),h:=[] }⟩]
noncomputable def q7R:List (FuncId×zw):=[(47,q9 q3u q3H jM),(48,q9 yd ya qP),(49,q9 q2B q2r jh),(50,q9 q4X q58 yO)]
theorem qck:∀x,x∈q7R->qQ prog qa x.1 x.2:=(alc q5a (alc jr (alc q8u (alc qaL aln))))
noncomputable def q2H:=qe q7R [(18,f18)] [] 0
noncomputable def kF:=vj q2H 18 f18 7 q6i q6l
theorem qhj:ql prog qa q2H.nimp (qD prog q2H.iter 18) (zm f18 7) (qk q6i q6l (qh kF)):=gk q2H qc q8 qck aln (b1 func18) func18
noncomputable def qgb:=qe q7R [(18,f18)] [((18,7),qk q6i q6l (qh kF))] 0
noncomputable def kr:=qu qgb 18 f18 true q90 q8P
theorem qkm:qQ prog qa 18 (q9 q90 q8P kr):=sk qgb qc q8 qck (alc (lk func18 qhj) aln) (b1 func18) func18
def qF:FIn:=⟨[(.imm [(.int .i64),(.int .i64)]),(.fn 8 [] [])],[]⟩
def qG:List FOut:=[⟨.bool,[],none⟩]
def qB:Tmpl:={ t:=((.imm [(.int .i64),(.int .i64)])::(.fn 8 [] [])::qz 5 ((.int .i64)::(.int .i64)::qz 10 [])),h:=[],fs:=[[(.imm [(.int .i64),(.int .i64)]),(.fn 8 [] []),.any,.any,(.blit false),(.imm [(.int .i64),(.int .i64)]),(.fn 8 [] []),.any,.any],[]] }
def qA:List Out:=[⟨(.exit 0),{ t:=(qz 19 []),h:=[],fs:=[[(.imm [(.int .i64),(.int .i64)]),(.fn 8 [] []),.any,.any,(.blit false),(.imm [(.int .i64),(.int .i64)]),(.fn 8 [] []),.any,.any],[]] }⟩,⟨.ret,{ t:=(qz 4 ((.int .i64)::qz 14 [])),h:=[],fs:=[[(.imm [(.int .i64),(.int .i64)]),(.fn 8 [] []),.any,.any,(.blit false),(.imm [(.int .i64),(.int .i64)]),(.fn 8 [] []),.any,.any],[]] }⟩]
noncomputable def qp:=qe [(8,q9 jx jv zv)] [(7,f7),(28,f28)] [] 0
noncomputable def qf:=vj qp 28 f28 3 qB qA
theorem zS:ql prog qa qp.nimp (qD prog qp.iter 28) (zm f28 3) (qk qB qA (qh qf)):=gk qp qc q8 (alc kS aln) aln (alc (bk func7) (alc (bk func28) aln)) func28
noncomputable def z6:=qe [(8,q9 jx jv zv)] [(7,f7),(28,f28)] [((28,3),qk qB qA (qh qf))] 0
noncomputable def qj:=qu z6 7 f7 true qF qG
theorem wu:qQ prog qa 7 (q9 qF qG qj):=sk z6 qc q8 (alc kS aln) (alc (lk func28 zS) aln) (alc (bk func7) (alc (bk func28) aln)) func7
def q49:FIn:=⟨[(.imm [(.int .i64),(.int .i64)]),(.int .u8)],[]⟩
def q41:List FOut:=[⟨.bool,[],none⟩]
def q1s:Tmpl:={ t:=(qz 5 ((.ptr 0 0)::.str::.any::.any::.str::(.vec 1)::(.vec 2)::qz 49 ((.imm [(.int .i64),(.int .i64)])::(.int .i64)::(.int .i64)::qz 65 []))),h:=[.cells [.str,.str],.vec 43 [.str,.str,.str],.vec 43 [.str,.str,.str]],pro:=[(10,43,[.str,.str,.str]),(11,43,[.str,.str,.str])] }
def q1J:List Out:=[⟨(.exit 0),{ t:=(qz 5 ((.ptr 0 0)::.str::.any::.any::.any::(.vec 1)::(.vec 2)::qz 117 [])),h:=[.cells [.str,.str],.vec 43 [.str,.str,.str],.vec 43 [.str,.str,.str]] }⟩]
noncomputable def q33:List (FuncId×zw):=[(6,q9 qg0 qfA q1y),(8,q9 jx jv zv),(10,q9 qfb qfQ q3k),(11,q9 q9r q8S q1X),(12,q9 qeT qfi q6t),(13,q9 qeP qfU q6d),(14,q9 qi4 qig q8H),(15,q9 qfV qeM q3T),(16,q9 qcG qcy zI),(17,q9 q81 q8h vY),(18,q9 q90 q8P kr),(7,q9 qF qG qj)]
theorem q7m:∀x,x∈q33->qQ prog qa x.1 x.2:=(alc qpf (alc kS (alc qoZ (alc qk7 (alc qoY (alc qpd (alc qq4 (alc qph (alc qhi (alc qeD (alc qkm (alc wu aln))))))))))))
noncomputable def u5:=qe q33 [(3,f3)] [] 0
noncomputable def wg:=vj u5 3 f3 12 q1s q1J
theorem qc4:ql prog qa u5.nimp (qD prog u5.iter 3) (zm f3 12) (qk q1s q1J (qh wg)):=gk u5 qc q8 q7m aln (b1 func3) func3
noncomputable def wF:=qe q33 [(3,f3)] [((3,12),qk q1s q1J (qh wg))] 0
noncomputable def yW:=qu wF 3 f3 true q49 q41
theorem qfJ:qQ prog qa 3 (q9 q49 q41 yW):=sk wF qc q8 q7m (alc (lk func3 qc4) aln) (b1 func3) func3
end Go.Eng

