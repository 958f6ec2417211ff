/- Texts of the proof, merged: what the code computes, and plain laws. No statement stands here. -/
import Derived.Shelf.Strings.SlTrimAscii
import Derived.Shelf.Strings.Search2
import Derived.Shelf.Small.Strs
import Derived.Shelf.Strconv.Itoa3
import Derived.Shelf.Strconv.Atoi
import Derived.Shelf.Strings.BuilderK
import Derived.Shelf.LaysM
import Derived.Test.YtjdhkocjkfdebaaGreatDoorProg
import Derived.WalkKit
import Derived.BigCall
import Derived.Deep.RegionWith
import Derived.Laws.Externs
import Derived.Lib.Builder
import Derived.Lib.AppendStr
import Derived.Shelf.SlicesG.Clone
import Derived.WalkSpells
import Derived.KernelRfl
import Derived.Test.YtjdhkocjkfdebaaGreatDoorG4
namespace Go.Eng
def su:Nat->(Nat->Rat)->Rat
 | 0,_=>0
 | n+1,f=>su n f+f n
theorem ql:∀{n:Nat} {f g:Nat->Rat},(∀i,i<n->f i=g i)->su n f=su n g
 | 0,_,_,_=>rfl
 | n+1,f,g,h=>by simp only[su];rw[ql (fun i hi=>h i (by omega)),h n (by omega)]
theorem q6a:∀(n:Nat) (f g:Nat->Rat),su n (fun i=>f i+g i)=su n f+su n g
 | 0,_,_=>by show (0:Rat)=0+0;grind
 | n+1,f,g=>by simp only[su];rw[q6a n f g];grind
theorem wD:∀(n:Nat) (a:Rat) (f:Nat->Rat),su n (fun i=>a*f i)=a*su n f
 | 0,a,_=>by simp[su]
 | n+1,a,f=>by simp only[su];rw[wD n a f];grind
theorem q9x(n:Nat)(f g:Nat->Rat):su n (fun i=>f i-g i)=su n f-su n g:=by have h:=q6a n f (fun i=>(-1)*g i);rw[wD] at h;rw[ql (g:=fun i=>f i+(-1)*g i) (fun i _=>by grind),h];grind
theorem qa8:∀(n:Nat),su n (fun _=>0)=0
 | 0=>rfl
 | n+1=>by simp only[su];rw[qa8 n];grind
theorem qI4:∀{n:Nat} {f:Nat->Rat},(∀i,i<n->0<=f i)->0<=su n f
 | 0,_,_=>qPD
 | n+1,f,h=>by
  have a:=qI4 (n:=n) (f:=f) (fun i hi=>h i (by omega));have b:=h n (by omega);simp only[su];grind
theorem qAO:∀(m n:Nat) (f:Nat->Nat->Rat),su m (fun i=>su n (f i))=su n (fun j=>su m (fun i=>f i j))
 | 0,n,f=>by simp only[su];rw[qa8]
 | m+1,n,f=>by simp only[su];rw[qAO m n f,q6a]
theorem q9v:∀{n k:Nat} (f:Nat->Rat),k<n->(∀i,i<n->i≠k->f i=0)->su n f=f k
 | 0,k,f,h,_=>by omega
 | n+1,k,f,h,hz=>by
  simp only[su];by_cases hk:k=n
  ·subst hk;rw[ql (g:=fun _=>0) (fun i hi=>hz i (by omega) (by omega)),qa8];grind
  ·rw[q9v f (by omega:k<n) (fun i hi hne=>hz i (by omega) hne),hz n (by omega) (by omega)];grind
theorem qws:∀{n:Nat} {f:Nat->Rat},su n f≠0->∃i,i<n/\f i≠0
 | 0,_,h=>absurd rfl h
 | n+1,f,h=>by
  by_cases hn:f n=0
  ·obtain⟨i,hi,h'⟩:=qws (n:=n) (f:=f) (by simp only[su] at h;rw[hn] at h;grind);exact⟨i,by omega,h'⟩
  ·exact⟨n,by omega,hn⟩
def qrn(m n:Nat)(M:Nat->Nat->Rat)(b x:Nat->Rat):Prop:=∀i,i<m->su n (fun j=>M i j*x j)=b i
def qL5(m n:Nat)(M:Nat->Nat->Rat)(b y:Nat->Rat):Prop:=(∀j,j<n->su m (fun i=>y i*M i j)=0)/\su m (fun i=>y i*b i)≠0
theorem qx0(m:Nat):∀(n:Nat) (M:Nat->Nat->Rat) (b:Nat->Rat),(∃x,qrn m n M b x)\/∃y,qL5 m n M b y
 | 0,M,b=>by
  by_cases h:∀i,i<m->b i=0
  ·exact .inl ⟨fun _=>0,fun i hi=>(h i hi).symm⟩
  ·right;obtain⟨k,hk⟩:=qQh.1 h;obtain⟨hk,hb⟩:=qQ0.1 hk;refine⟨fun i=>if i=k then 1 else 0,fun j hj=>by omega,?_⟩;rw[q9v _ hk (fun i _ hne=>by simp[hne])];simpa using hb
 | n+1,M,b=>by
  by_cases h:∀i,i<m->M i n=0
  ·rcases qx0 m n M b with⟨x,hx⟩|⟨y,h1,h2⟩
   ·refine .inl ⟨fun j=>if j=n then 0 else x j,fun i hi=>?_⟩;simp only[su];rw[<-hx i hi,h i hi,ql (g:=fun j=>M i j*x j) (fun j hj=>by rw[if_neg (by omega)])];grind
   ·refine .inr ⟨y,fun j hj=>?_,h2⟩;by_cases hjn:j=n
    ·subst hjn;rw[ql (g:=fun _=>0) (fun i hi=>by rw[h i hi];grind),qa8]
    ·exact h1 j (by omega)
  ·obtain⟨k,hk⟩:=qQh.1 h;obtain⟨hk,ha⟩:=qQ0.1 hk;have inv:M k n*(M k n)⁻¹=1:=qQ9 _ ha;rcases qx0 m n (fun i j=>M i j-M i n*(M k n)⁻¹*M k j) (fun i=>b i-M i n*(M k n)⁻¹*b k) with⟨x,hx⟩|⟨y,h1,h2⟩
   ·refine .inl ⟨fun j=>if j=n then (M k n)⁻¹*(b k-su n (fun j=>M k j*x j)) else x j,fun i hi=>?_⟩;have e:=hx i hi;simp only[su,if_true];rw[ql (g:=fun j=>M i j*x j) (fun j hj=>by rw[if_neg (by omega)])];have e2:su n (fun j=>(M i j-M i n*(M k n)⁻¹*M k j)*x j)=su n (fun j=>M i j*x j)-M i n*(M k n)⁻¹*su n (fun j=>M k j*x j):=by rw[<-wD,<-q9x];exact ql fun j _=>by grind
    rw[e2] at e;grind
   ·refine .inr ⟨fun i=>y i-(if i=k then su m (fun i=>y i*M i n)*(M k n)⁻¹ else 0),fun j hj=>?_,?_⟩
    ·have e1:su m (fun i=>(y i-(if i=k then su m (fun i=>y i*M i n)*(M k n)⁻¹ else 0))*M i j)=su m (fun i=>y i*M i j)-su m (fun i=>y i*M i n)*(M k n)⁻¹*M k j:=by have s:=q9v (n:=m) (k:=k) (fun i=>(if i=k then su m (fun i=>y i*M i n)*(M k n)⁻¹ else 0)*M i j) hk (fun i _ hne=>by simp[hne]);simp only[if_true] at s;rw[<-s,<-q9x];exact ql fun i _=>by grind
     rw[e1];by_cases hjn:j=n
     ·subst hjn;grind
     ·have:=h1 j (by omega);have e2:su m (fun i=>y i*(M i j-M i n*(M k n)⁻¹*M k j))=su m (fun i=>y i*M i j)-su m (fun i=>y i*M i n)*((M k n)⁻¹*M k j):=by rw[show su m (fun i=>y i*M i n)*((M k n)⁻¹*M k j)=((M k n)⁻¹*M k j)*su m (fun i=>y i*M i n) from by grind,<-wD,<-q9x];exact ql fun i _=>by grind
      rw[e2] at this;grind
    ·have e1:su m (fun i=>(y i-(if i=k then su m (fun i=>y i*M i n)*(M k n)⁻¹ else 0))*b i)=su m (fun i=>y i*b i)-su m (fun i=>y i*M i n)*(M k n)⁻¹*b k:=by have s:=q9v (n:=m) (k:=k) (fun i=>(if i=k then su m (fun i=>y i*M i n)*(M k n)⁻¹ else 0)*b i) hk (fun i _ hne=>by simp[hne]);simp only[if_true] at s;rw[<-s,<-q9x];exact ql fun i _=>by grind
     rw[e1];have e2:su m (fun i=>y i*(b i-M i n*(M k n)⁻¹*b k))=su m (fun i=>y i*b i)-su m (fun i=>y i*M i n)*((M k n)⁻¹*b k):=by rw[show su m (fun i=>y i*M i n)*((M k n)⁻¹*b k)=((M k n)⁻¹*b k)*su m (fun i=>y i*M i n) from by grind,<-wD,<-q9x];exact ql fun i _=>by grind
     rw[e2] at h2;intro h0;apply h2;grind
variable {n:Nat}
structure V3 where
 x:Rat
 y:Rat
 z:Rat
def qbX(a b:V3):Rat:=a.x*b.x+a.y*b.y+a.z*b.z
def d2(a b:V3):Rat:=(a.x-b.x)*(a.x-b.x)+(a.y-b.y)*(a.y-b.y)+(a.z-b.z)*(a.z-b.z)
theorem qzm (a b:V3):d2 a b=qbX a a-2*qbX a b+qbX b b:=by unfold d2 qbX;grind
theorem qtH (a:Rat):0<=a*a:=by
 rcases Rat.le_total (a:=0) (b:=a) with h|h
 ·exact qPs h h
 ·have:=qPs (show 0<=-a by grind) (show 0<=-a by grind);grind
theorem qBr (a b:V3):0<=d2 a b:=by have h1:=qtH (a.x-b.x);have h2:=qtH (a.y-b.y);have h3:=qtH (a.z-b.z);unfold d2;grind
theorem qxi {a:Rat}(h:a*a<=0):a=0:=by
 have h1:=qtH a;have h2:a*a=0:=by grind
 rcases Rat.mul_eq_zero.1 h2 with h|h<;>exact h
theorem qAy {a b:V3}(h:d2 a b<=0):a=b:=by have h1:=qtH (a.x-b.x);have h2:=qtH (a.y-b.y);have h3:=qtH (a.z-b.z);unfold d2 at h;have e1:=qxi (a:=a.x-b.x) (by grind);have e2:=qxi (a:=a.y-b.y) (by grind);have e3:=qxi (a:=a.z-b.z) (by grind);cases a;cases b;simp only[V3.mk.injEq];refine⟨?_,?_,?_⟩<;>simp only at e1 e2 e3<;>grind
def cen(n:Nat)(w:Nat->Rat)(p:Nat->V3):V3:=⟨su n fun i=>w i*(p i).x,su n fun i=>w i*(p i).y,su n fun i=>w i*(p i).z⟩
theorem qCS (n:Nat)(w:Nat->Rat)(p:Nat->V3)(c:V3):su n (fun i=>w i*qbX c (p i))=qbX c (cen n w p):=by unfold qbX cen;simp only;rw[<-wD,<-wD,<-wD,<-q6a,<-q6a];exact ql fun i _=>by grind
theorem qL6 (n:Nat)(w:Nat->Rat)(p:Nat->V3)(c:V3):su n (fun i=>w i*d2 c (p i))=qbX c c*su n w-2*qbX c (cen n w p)+su n (fun i=>w i*qbX (p i) (p i)):=by rw[<-qCS,<-wD,<-wD,<-q9x,<-q6a];exact ql fun i _=>by rw[qzm];grind
def en(n:Nat)(p:Nat->V3)(w:Nat->Rat):Rat:=su n fun i=>w i*d2 (cen n w p) (p i)
theorem qwF {w:Nat->Rat}(p:Nat->V3)(h:su n w=1)(c:V3):su n (fun i=>w i*d2 c (p i))=en n p w+d2 c (cen n w p):=by unfold en;rw[qL6,qL6,h,qzm];grind
structure Wt (n:Nat) (w:Nat->Rat):Prop where
 nn:∀i,i<n->0<=w i
 one:su n w=1
def qBC(n:Nat)(p:Nat->V3)(w:Nat->Rat)(s:Rat):Prop:=Wt n w/\∀i,i<n->w i≠0->d2 (cen n w p) (p i)=s
theorem qkN {w f:Nat->Rat}{s:Rat}(h1:su n w=1)(h:∀i,i<n->w i≠0->f i=s):su n (fun i=>w i*f i)=s:=by
 rw[ql (g:=fun i=>s*w i) (fun i hi=>by
  by_cases hw:w i=0
  ·rw[hw];grind
  ·rw[h i hi hw];grind),wD,h1];grind
theorem qBC.en {p:Nat->V3}{w:Nat->Rat}{s:Rat}(h:qBC n p w s):en n p w=s:=qkN h.1.one h.2
def cnt:Nat->(Nat->Rat)->Nat
 | 0,_=>0
 | n+1,w=>cnt n w+if w n=0 then 0 else 1
theorem qJH:∀{n:Nat} {w v:Nat->Rat},(∀i,i<n->w i=0->v i=0)->cnt n v<=cnt n w
 | 0,_,_,_=>qOe _
 | n+1,w,v,h=>by
  have a:=qJH (n:=n) (w:=w) (v:=v) fun i hi=>h i (by omega);have b:=h n (by omega);simp only[cnt];by_cases hw:w n=0
  ·rw[if_pos hw,if_pos (b hw)];omega
  ·rw[if_neg hw];split<;>omega
theorem qCt:∀{n:Nat} {w v:Nat->Rat} {k:Nat},(∀i,i<n->w i=0->v i=0)->k<n->w k≠0->v k=0->cnt n v<cnt n w
 | 0,_,_,_,_,hk,_,_=>by omega
 | n+1,w,v,k,h,hk,hw,hv=>by
  simp only[cnt];by_cases e:k=n
  ·subst e;have a:=qJH (n:=k) (w:=w) (v:=v) fun i hi=>h i (by omega);rw[if_neg hw,if_pos hv];omega
  ·have a:=qCt (n:=n) (w:=w) (v:=v) (k:=k) (fun i hi=>h i (by omega)) (by omega) hw hv;have b:=h n (by omega);by_cases hwn:w n=0
   ·rw[if_pos hwn,if_pos (b hwn)];omega
   ·rw[if_neg hwn];split<;>omega
theorem qzF:∀(n:Nat) (w v:Nat->Rat),(∀i,i<n->v i<0->0<w i)->(∃k,k<n/\v k<0)->∃t,0<t/\∃k,k<n/\v k<0/\w k+t*v k=0/\∀i,i<n->v i<0->0<=w i+t*v i
 | 0,_,_,_,⟨k,hk,_⟩=>by omega
 | n+1,w,v,h,⟨k,hk,hv⟩=>by
  have own:v n<0->0<w n*(-(v n))⁻¹/\w n+(w n*(-(v n))⁻¹)*v n=0:=fun hn=>by
   have h1:0 < -(v n):=by grind
   have h2:-(v n)*(-(v n))⁻¹=1:=qQ9 _ (by grind);exact⟨Rat.mul_pos (h n (by omega) hn) (Rat.inv_pos.2 h1),by grind⟩
  by_cases hex:∃k,k<n/\v k<0
  ·obtain⟨t,t0,k,hk,hv,hz,hall⟩:=qzF n w v (fun i hi=>h i (by omega)) hex;by_cases hn:v n<0/\w n+t*v n<0
   ·obtain⟨o1,o2⟩:=own hn.1;refine⟨w n*(-(v n))⁻¹,o1,n,by omega,hn.1,o2,fun i hi hvi=>?_⟩;by_cases e:i=n
    ·subst e;rw[o2];exact qPD
    ·have a:=hall i (by omega) hvi;have lt:w n*(-(v n))⁻¹<t:=by apply qOR;intro hh;have:=qPs (show 0<=w n*(-(v n))⁻¹-t by grind) (show 0<=-(v n) by grind);grind
     have:=qPs (show 0<=t-w n*(-(v n))⁻¹ by grind) (show 0<=-(v i) by grind);grind
   ·refine⟨t,t0,k,by omega,hv,hz,fun i hi hvi=>?_⟩;by_cases e:i=n
    ·subst e;apply qOR;intro hh;exact hn ⟨hvi,by grind⟩
    ·exact hall i (by omega) hvi
  ·have e:k=n:=by apply qOR;intro hh;exact hex ⟨k,by omega,hv⟩
   subst e;obtain⟨o1,o2⟩:=own hv;refine⟨_,o1,k,by omega,hv,o2,fun i hi hvi=>?_⟩;have:i=k:=by apply qOR;intro hh;exact hex ⟨i,by omega,hvi⟩
   subst this;rw[o2];exact qPD
theorem qGh {w v:Nat->Rat}(hw:Wt n w)(h0:su n v=0)(hz:∀i,i<n->w i=0->v i=0)(hk:∃k,k<n/\v k<0) :∃t,0<t/\Wt n (fun i=>w i+t*v i)/\cnt n (fun i=>w i+t*v i)<cnt n w/\∀i,i<n->w i=0->w i+t*v i=0:=by
 obtain⟨t,t0,k,hk,hv,he,hall⟩:=qzF n w v (fun i hi hv=>by
  have a:=hw.nn i hi;have b:w i≠0:=fun e=>by rw[hz i hi e] at hv;exact absurd hv (by grind)
  grind) hk
 have zz:∀i,i<n->w i=0->w i+t*v i=0:=fun i hi e=>by rw[e,hz i hi e];grind
 refine⟨t,t0,⟨fun i hi=>?_,?_⟩,qCt zz hk (fun e=>?_) he,zz⟩
 ·by_cases hvi:v i<0
  ·exact hall i hi hvi
  ·have:=qPs (show 0<=t by grind) (show 0<=v i by grind);have:=hw.nn i hi;grind
 ·rw[q6a,wD,h0,hw.one];grind
 ·rw[hz k hk e] at hv;exact absurd hv (by grind)
theorem qpU:∀{n:Nat} {f:Nat->Rat},(∀i,i<n->0<=f i)->su n f=0->∀i,i<n->f i=0
 | 0,_,_,_,i,hi=>by omega
 | n+1,f,h,hs,i,hi=>by
  have a:=qI4 (n:=n) (f:=f) (fun i hi=>h i (by omega));have b:=h n (by omega);simp only[su] at hs;by_cases e:i=n
  ·subst e;grind
  ·exact qpU (n:=n) (f:=f) (fun i hi=>h i (by omega)) (by grind) i (by omega)
theorem qsf (n:Nat)(w v:Nat->Rat)(t:Rat)(p:Nat->V3):cen n (fun i=>w i+t*v i) p=⟨(cen n w p).x+t*(cen n v p).x,(cen n w p).y+t*(cen n v p).y,(cen n w p).z+t*(cen n v p).z⟩:=by unfold cen;simp only[V3.mk.injEq];refine⟨?_,?_,?_⟩<;>rw[<-wD,<-q6a]<;>exact ql fun i _=>by grind
end Go.Eng

namespace Go.Eng
variable {n:Nat}{p:Nat->V3}
theorem qKg {v:Nat->Rat}{S:Nat->Prop}(hv:∀i,i<n->¬S i->v i=0){r:Rat}(h0:su n v=0)(h:∀j,j<n->S j->2*qbX (cen n v p) (p j)+r=0):cen n v p=⟨0,0,0⟩:=by
 have e:su n (fun j=>v j*(2*qbX (cen n v p) (p j)+r))=0:=by
  rw[ql (g:=fun _=>0) (fun j hj=>by
   by_cases hs:S j
   ·rw[h j hj hs];grind
   ·rw[hv j hj hs];grind),qa8]
 have e2:su n (fun j=>v j*(2*qbX (cen n v p) (p j)+r))=2*qbX (cen n v p) (cen n v p)+r*su n v:=by rw[<-qCS,<-wD,<-wD,<-q6a];exact ql fun i _=>by grind
 rw[e2,h0] at e;have:d2 (cen n v p) ⟨0,0,0⟩<=0:=by rw[qzm];unfold qbX at *;simp only at *;grind
 exact qAy this
theorem qGt (n:Nat)(p:Nat->V3)(w:Nat->Rat)(h1:su n w=1) :(∃x s,su n x=1/\(∀i,i<n->w i=0->x i=0)/\∀i,i<n->w i≠0->d2 (cen n x p) (p i)=s) \/∃v,(∀i,i<n->w i=0->v i=0)/\su n v=0/\cen n v p=⟨0,0,0⟩/\0<su n (fun i=>v i*qbX (p i) (p i)):=by
 rcases qx0 (n+1) (n+1) (fun i j=>if i=n then (if j=n then 0 else 1) else if w i=0 then (if j=i then 1 else 0) else if j=n then 1 else 2*qbX (p i) (p j))
  (fun i=>if i=n then 1 else if w i=0 then 0 else qbX (p i) (p i)) with⟨x,hx⟩|⟨y,h2,h3⟩
 ·left;have xz:∀i,i<n->w i=0->x i=0:=fun i hi hw=>by have:=hx i (by omega);simp only[show ¬i=n by omega,if_false,hw,if_true] at this;rw[q9v (k:=i) _ (by omega) (fun j _ hne=>by rw[if_neg hne];grind)] at this;simpa using this
  have x1:su n x=1:=by have:=hx n (by omega);simp only[if_true,su] at this;rw[ql (g:=x) (fun j hj=>by rw[if_neg (by omega)];grind)] at this;grind
  refine⟨x,qbX (cen n x p) (cen n x p)+x n,x1,xz,fun i hi hw=>?_⟩;have:=hx i (by omega);simp only[show ¬i=n by omega,if_false,hw,su,if_true] at this;rw[ql (g:=fun j=>2*(x j*qbX (p i) (p j))) (fun j hj=>by rw[if_neg (by omega)];grind),wD,qCS] at this;rw[qzm];have sym:qbX (cen n x p) (p i)=qbX (p i) (cen n x p):=by unfold qbX;grind
  rw[sym];grind
 ·right;obtain⟨m,hm⟩:∃m:Nat->Rat,m=fun i=>if w i=0 then 0 else y i:=⟨_,rfl⟩
  have mz:∀i,i<n->w i=0->m i=0:=fun i _ hw=>by rw[hm];simp[hw]
  have m0:su n m=0:=by
   have:=h2 n (by omega);simp only[su,if_true] at this;rw[ql (g:=m) (fun i hi=>by
    rw[hm];by_cases hw:w i=0
    ·simp only[show ¬i=n by omega,show ¬n=i by omega,if_false,hw,if_true];grind
    ·simp only[show ¬i=n by omega,if_false,hw];grind)] at this
   grind
  have md:∀j,j<n->w j≠0->2*qbX (cen n m p) (p j)+y n=0:=fun j hj hw=>by
   have:=h2 j (by omega);simp only[su,if_true,show ¬j=n by omega,if_false] at this;rw[ql (g:=fun i=>2*(m i*qbX (p j) (p i))) (fun i hi=>by
    rw[hm];by_cases hw':w i=0
    ·have hne:¬j=i:=fun e=>hw (e▸hw');simp only[show ¬i=n by omega,if_false,hw',if_true,hne];grind
    ·simp only[show ¬i=n by omega,if_false,hw'];unfold qbX;grind),wD,qCS] at this
   have sym:qbX (cen n m p) (p j)=qbX (p j) (cen n m p):=by unfold qbX;grind
   rw[sym];grind
  have mc:cen n m p=⟨0,0,0⟩:=qKg (S:=fun i=>w i≠0) (r:=y n) (fun i hi hs=>mz i hi (Classical.not_not.1 hs)) m0 md;have yn:y n=0:=by obtain⟨j,hj,hw⟩:=qws (n:=n) (f:=w) (by rw[h1];decide);have:=md j hj hw;rw[mc] at this;unfold qbX at this;grind
  have mk:su n (fun i=>m i*qbX (p i) (p i))≠0:=by
   intro e;apply h3;simp only[su,if_true,yn];rw[ql (g:=fun i=>m i*qbX (p i) (p i)) (fun i hi=>by
    rw[hm];by_cases hw:w i=0
    ·simp only[show ¬i=n by omega,if_false,hw,if_true];grind
    ·simp only[show ¬i=n by omega,if_false,hw]),e]
   grind
  by_cases pos:0<su n (fun i=>m i*qbX (p i) (p i))
  ·exact⟨m,mz,m0,mc,pos⟩
  ·refine⟨fun i=>(-1)*m i,fun i hi hw=>by show (-1)*m i=0;rw[mz i hi hw];grind,by rw[wD,m0];grind,?_,?_⟩
   ·have:cen n (fun i=>(-1)*m i) p=⟨(-1)*(cen n m p).x,(-1)*(cen n m p).y,(-1)*(cen n m p).z⟩:=by unfold cen;simp only[V3.mk.injEq];refine⟨?_,?_,?_⟩<;>rw[<-wD]<;>exact ql fun i _=>by grind
    rw[this,mc];simp only[V3.mk.injEq];refine⟨?_,?_,?_⟩<;>grind
   ·rw[ql (g:=fun i=>(-1)*(m i*qbX (p i) (p i))) (fun i _=>by grind),wD];grind
theorem qMv (n:Nat)(w:Nat->Rat)(p:Nat->V3)(h:su n w=1):en n p w=su n (fun i=>w i*qbX (p i) (p i))-qbX (cen n w p) (cen n w p):=by unfold en;rw[qL6,h];grind
theorem qJP (n:Nat)(p:Nat->V3):∀(c:Nat) (w:Nat->Rat),Wt n w->cnt n w<=c->∃w' s,qBC n p w' s/\en n p w<=s/\∀i,i<n->w i=0->w' i=0:=by
 intro c;induction c with
 | zero=>
  intro w hw hc;obtain⟨j,hj,hne⟩:=qws (n:=n) (f:=w) (by rw[hw.one];decide);have:=qCt (n:=n) (w:=w) (v:=fun _=>0) (k:=j) (fun _ _ _=>rfl) hj hne rfl;omega
 | succ c ih=>
  intro w hw hc;have again:∀v:Nat->Rat,su n v=0->(∀i,i<n->w i=0->v i=0)->(∃k,k<n/\v k<0)->(∀t:Rat,0<t->Wt n (fun i=>w i+t*v i)->en n p w<=en n p (fun i=>w i+t*v i)) ->
    ∃w' s,qBC n p w' s/\en n p w<=s/\∀i,i<n->w i=0->w' i=0:=by
   intro v v0 vz hk he;obtain⟨t,t0,a1,a2,a3⟩:=qGh hw v0 vz hk;obtain⟨w',s,g1,g2,g3⟩:=ih _ a1 (by omega);exact⟨w',s,g1,Rat.le_trans (he t t0 a1) g2,fun i hi hz=>g3 i hi (a3 i hi hz)⟩
  rcases qGt n p w hw.one with⟨x,s,x1,xz,xs⟩|⟨v,vz,v0,vc,vp⟩
  ·have sw:su n (fun i=>w i*d2 (cen n x p) (p i))=s:=qkN hw.one xs;have e1:=qwF p hw.one (cen n x p);rw[sw] at e1;have dn:=qBr (cen n x p) (cen n w p);by_cases hx:∀i,i<n->0<=x i
   ·refine⟨x,s,⟨⟨hx,x1⟩,fun i hi hne=>xs i hi fun e=>hne (xz i hi e)⟩,by grind,xz⟩
   ·obtain⟨k,hk⟩:=qQh.1 hx;obtain⟨hk,hneg⟩:=qQ0.1 hk;refine again (fun i=>x i-w i) (by rw[q9x,x1,hw.one];grind) (fun i hi e=>by rw[xz i hi e,e];grind) ⟨k,hk,by have:=hw.nn k hk;grind⟩ fun t t0 ht=>?_;have t1:t<=1:=by have a:=ht.nn k hk;have b:=hw.nn k hk;apply qOR;intro hh;have c1:=qPs (show 0<=t-1 by grind) b;have c2:=Rat.mul_pos t0 (show 0 < -(x k) by grind);grind
    have sw':su n (fun i=>(w i+t*(x i-w i))*d2 (cen n x p) (p i))=s:=qkN (w:=fun i=>w i+t*(x i-w i)) ht.one fun i hi hne=>xs i hi fun e=>hne (by rw[e,xz i hi e];grind);have e2:=qwF p ht.one (cen n x p);rw[sw'] at e2;have cm:=qsf n w (fun i=>x i-w i) t p;have cx:cen n (fun i=>x i-w i) p=⟨(cen n x p).x-(cen n w p).x,(cen n x p).y-(cen n w p).y,(cen n x p).z-(cen n w p).z⟩:=by unfold cen;simp only[V3.mk.injEq];refine⟨?_,?_,?_⟩<;>rw[<-q9x]<;>exact ql fun i _=>by grind
    have dd:d2 (cen n x p) (cen n (fun i=>w i+t*(x i-w i)) p)=(1-t)*(1-t)*d2 (cen n x p) (cen n w p):=by rw[cm,cx];unfold d2;grind
    rw[dd] at e2;have f1:=qPs (show 0<=t by grind) (show 0<=2-t by grind);have f2:=qPs f1 dn;grind
  ·refine again v v0 vz ?_ fun t t0 ht=>?_
   ·apply qOR;intro hh;have all:∀i,i<n->0<=v i:=fun i hi=>by apply qOR;intro h';exact hh ⟨i,hi,by grind⟩
    have z:=qpU all v0;rw[ql (g:=fun _=>0) (fun i hi=>by rw[z i hi];grind),qa8] at vp;exact absurd vp (by decide)
   ·rw[qMv n w p hw.one,qMv n _ p ht.one,qsf,vc];have:su n (fun i=>(w i+t*v i)*qbX (p i) (p i))=su n (fun i=>w i*qbX (p i) (p i))+t*su n (fun i=>v i*qbX (p i) (p i)):=by rw[<-wD,<-q6a];exact ql fun i _=>by grind
    rw[this];have f:=Rat.mul_pos t0 vp;unfold qbX at *;simp only;grind
structure Least (n:Nat) (p:Nat->V3) (w:Nat->Rat) (s:Rat):Prop where
 good:qBC n p w s
 all:∀i,i<n->d2 (cen n w p) (p i)<=s
theorem qH4 {w v:Nat->Rat}{s t:Rat}(hw:qBC n p w s)(hv:qBC n p v t)(h:∀i,i<n->(w i=0↔v i=0)):s=t:=by have a:su n (fun i=>w i*d2 (cen n v p) (p i))=t:=qkN hw.1.one fun i hi hne=>hv.2 i hi fun e=>hne ((h i hi).2 e);have b:su n (fun i=>v i*d2 (cen n w p) (p i))=s:=qkN hv.1.one fun i hi hne=>hw.2 i hi fun e=>hne ((h i hi).1 e);rw[qwF p hw.1.one,hw.en] at a;rw[qwF p hv.1.one,hv.en] at b;have:=qBr (cen n v p) (cen n w p);have:=qBr (cen n w p) (cen n v p);grind
theorem qxe {w:Nat->Rat}{s:Rat}(hw:Least n p w s){c:V3}{r:Rat}(h:∀i,i<n->d2 c (p i)<=r):s+d2 c (cen n w p)<=r:=by
 have a:=qwF p hw.good.1.one c;rw[hw.good.en] at a;have b:0<=su n (fun i=>w i*(r-d2 c (p i))):=qI4 fun i hi=>qPs (hw.good.1.nn i hi) (by have:=h i hi;grind);have e:su n (fun i=>w i*(r-d2 c (p i)))=r-su n (fun i=>w i*d2 c (p i)):=by rw[ql (g:=fun i=>r*w i-w i*d2 c (p i)) (fun i _=>by grind),q9x,wD,hw.good.1.one];grind
 grind
theorem qE1 {w v:Nat->Rat}{s t:Rat}(hw:Least n p w s)(hv:Least n p v t):s=t/\cen n w p=cen n v p:=by have a:=qxe hw (c:=cen n v p) (r:=t) hv.all;have b:=qxe hv (c:=cen n w p) (r:=s) hw.all;have d1:=qBr (cen n v p) (cen n w p);have d3:=qBr (cen n w p) (cen n v p);exact⟨by grind,qAy (by grind)⟩
end Go.Eng

namespace Go.Eng
def qNO:Nat->List (Nat->Bool)
 | 0=>[fun _=>false]
 | n+1=>(qNO n).flatMap fun f=>[fun i=>if i=n then true else f i,fun i=>if i=n then false else f i]
theorem qxu:∀(n:Nat) (w:Nat->Rat),∃b∈qNO n,∀i,i<n->(b i=true↔w i≠0)
 | 0,_=>⟨_,qOF.2 rfl,fun i hi=>by omega⟩
 | n+1,w=>by
  obtain⟨b,hb,h⟩:=qxu n w;by_cases hw:w n=0
  ·refine⟨fun i=>if i=n then false else b i,qQ8.2 ⟨b,hb,by simp⟩,fun i hi=>?_⟩;by_cases e:i=n
   ·subst e;simp[hw]
   ·simp only[e,if_false];exact h i (by omega)
  ·refine⟨fun i=>if i=n then true else b i,qQ8.2 ⟨b,hb,by simp⟩,fun i hi=>?_⟩;by_cases e:i=n
   ·subst e;simp[hw]
   ·simp only[e,if_false];exact h i (by omega)
theorem qyl(n:Nat)(p:Nat->V3):∀L:List (Nat->Bool),(∃w s,qBC n p w s/\∃b∈L,∀i,i<n->(b i=true↔w i≠0)) ->
  ∃w s,qBC n p w s/\∀w' s',qBC n p w' s'->(∃b∈L,∀i,i<n->(b i=true↔w' i≠0))->s'<=s
 | [],⟨_,_,_,b,hb,_⟩=>by cases hb
 | b::L,⟨w0,s0,g0,b0,hb0,h0⟩=>by
  have same:∀w s w' s',qBC n p w s->qBC n p w' s'->(∀i,i<n->(b i=true↔w i≠0))->(∀i,i<n->(b i=true↔w' i≠0))->s=s':=fun w s w' s' g g' h h'=>qH4 g g' fun i hi=>by
   have a:=h i hi;have c:=h' i hi;by_cases e:b i=true
   ·exact⟨fun z=>absurd z (a.1 e),fun z=>absurd z (c.1 e)⟩
   ·exact⟨fun _=>Classical.not_not.1 fun z=>e (c.2 z),fun _=>Classical.not_not.1 fun z=>e (a.2 z)⟩
  by_cases hB:∃w s,qBC n p w s/\∀i,i<n->(b i=true↔w i≠0)
  ·obtain⟨w1,s1,g1,h1⟩:=hB;by_cases hL:∃w s,qBC n p w s/\∃b∈L,∀i,i<n->(b i=true↔w i≠0)
   ·obtain⟨w2,s2,g2,h2⟩:=qyl n p L hL;rcases Rat.le_total (a:=s1) (b:=s2) with hle|hle
    ·refine⟨w2,s2,g2,fun w' s' g' ⟨c,hc,hp⟩=>?_⟩;rcases qOp.1 hc with rfl|hc
     ·rw[<-same w1 s1 w' s' g1 g' h1 hp];exact hle
     ·exact h2 w' s' g' ⟨c,hc,hp⟩
    ·refine⟨w1,s1,g1,fun w' s' g' ⟨c,hc,hp⟩=>?_⟩;rcases qOp.1 hc with rfl|hc
     ·rw[<-same w1 s1 w' s' g1 g' h1 hp];exact qPD
     ·exact Rat.le_trans (h2 w' s' g' ⟨c,hc,hp⟩) hle
   ·refine⟨w1,s1,g1,fun w' s' g' ⟨c,hc,hp⟩=>?_⟩;rcases qOp.1 hc with rfl|hc
    ·rw[<-same w1 s1 w' s' g1 g' h1 hp];exact qPD
    ·exact absurd ⟨w',s',g',c,hc,hp⟩ hL
  ·have hL:∃w s,qBC n p w s/\∃b∈L,∀i,i<n->(b i=true↔w i≠0):=by
    rcases qOp.1 hb0 with rfl|hb0
    ·exact absurd ⟨w0,s0,g0,h0⟩ hB
    ·exact⟨w0,s0,g0,b0,hb0,h0⟩
   obtain⟨w2,s2,g2,h2⟩:=qyl n p L hL;refine⟨w2,s2,g2,fun w' s' g' ⟨c,hc,hp⟩=>?_⟩;rcases qOp.1 hc with rfl|hc
   ·exact absurd ⟨w',s',g',hp⟩ hB
   ·exact h2 w' s' g' ⟨c,hc,hp⟩
theorem qHV{n k:Nat}(p:Nat->V3)(hk:k<n):cen n (fun i=>if i=k then 1 else 0) p=p k:=by unfold cen;rw[q9v (k:=k) _ hk (fun i _ h=>by simp[h]),q9v (k:=k) _ hk (fun i _ h=>by simp[h]),q9v (k:=k) _ hk (fun i _ h=>by simp[h])];simp only[if_true];rcases hp:p k with⟨x,y,z⟩;simp only[V3.mk.injEq];refine⟨?_,?_,?_⟩<;>grind
theorem qFn{n:Nat}(p:Nat->V3)(hn:0<n):∃w s,Least n p w s:=by
 have unit:∀k,k<n->su n (fun i=>if i=k then (1:Rat) else 0)=1:=fun k hk=>by rw[q9v (k:=k) _ hk (fun i _ h=>by rw[if_neg h])];simp
 have w0:Wt n (fun i=>if i=0 then (1:Rat) else 0):=⟨fun i _=>by
  show (0:Rat)<=if i=0 then 1 else 0
  split<;>decide,unit 0 hn⟩
 obtain⟨w1,s1,g1,_⟩:=qJP n p _ _ w0 (qOe _);obtain⟨b,hb,h⟩:=qxu n w1;obtain⟨w,s,g,hmax⟩:=qyl n p (qNO n) ⟨w1,s1,g1,b,hb,h⟩;refine⟨w,s,g,fun k hk=>?_⟩;apply qOR;intro hh;have hD:s<d2 (cen n w p) (p k):=by grind
 obtain⟨D,eD⟩:∃D,D=d2 (cen n w p) (p k):=⟨_,rfl⟩;rw[<-eD] at hD;have s0:0<=s:=by obtain⟨j,hj,hne⟩:=qws (n:=n) (f:=w) (by rw[g.1.one];decide);rw[<-g.2 j hj hne];exact qBr _ _
 have Dp:0<D:=by grind
 have inv:(2*D)*(2*D)⁻¹=1:=qQ9 _ (by grind);have ip:0<(2*D)⁻¹:=Rat.inv_pos.2 (by grind);obtain⟨t,et⟩:∃t,t=(D-s)*(2*D)⁻¹:=⟨_,rfl⟩;have t0:0<t:=by rw[et];exact Rat.mul_pos (by grind) ip
 have tD:t*D*2=D-s:=by rw[et];grind
 have t1:t<=1:=by apply qOR;intro h1;have:=Rat.mul_pos (show 0<t-1 by grind) Dp;grind
 have W:Wt n (fun i=>w i+t*((if i=k then 1 else 0)-w i)):=by
  refine⟨fun i hi=>?_,?_⟩
  ·have a:=qPs (show 0<=1-t by grind) (g.1.nn i hi);by_cases e:i=k
   ·simp only[e,if_true];rw[e] at a;grind
   ·simp only[e,if_false];grind
  ·rw[q6a,wD,q9x,unit k hk,g.1.one];grind
 have e1:=qwF p W.one (cen n w p);have lhs:su n (fun i=>(w i+t*((if i=k then 1 else 0)-w i))*d2 (cen n w p) (p i))=s+t*(D-s):=by
  have a:=qkN (f:=fun i=>d2 (cen n w p) (p i)) g.1.one g.2;have c:su n (fun i=>(if i=k then 1 else 0)*d2 (cen n w p) (p i))=D:=by rw[q9v (k:=k) _ hk (fun i _ h=>by rw[if_neg h];grind),eD];simp
  rw[ql (g:=fun i=>w i*d2 (cen n w p) (p i)+t*((if i=k then 1 else 0)*d2 (cen n w p) (p i)-w i*d2 (cen n w p) (p i))) (fun i _=>by grind),q6a,wD,q9x,a,c]
 have cm:=qsf n w (fun i=>(if i=k then 1 else 0)-w i) t p;have cx:cen n (fun i=>(if i=k then 1 else 0)-w i) p=⟨(p k).x-(cen n w p).x,(p k).y-(cen n w p).y,(p k).z-(cen n w p).z⟩:=by have u:=qHV p hk;have ux:=congrArg V3.x u;have uy:=congrArg V3.y u;have uz:=congrArg V3.z u;rw[<-ux,<-uy,<-uz];unfold cen;simp only[V3.mk.injEq];refine⟨?_,?_,?_⟩<;>rw[<-q9x]<;>exact ql fun i _=>by grind
 have dd:d2 (cen n w p) (cen n (fun i=>w i+t*((if i=k then 1 else 0)-w i)) p)=t*t*D:=by rw[cm,cx,eD];unfold d2;grind
 rw[lhs,dd] at e1;obtain⟨w',s',g',h',_⟩:=qJP n p _ _ W (qOe _);obtain⟨b',hb',hp'⟩:=qxu n w';have:=hmax w' s' g' ⟨b',hb',hp'⟩;have gain:=Rat.mul_pos t0 (show 0<D-s by grind);have:t*t*D*2=t*(D-s):=by rw[<-tD];grind
 grind
def qKq(n:Nat)(p:Nat->V3)(w:Nat->Rat):Prop:=∀v:Nat->Rat,(∀i,i<n->w i=0->v i=0)->su n v=0->cen n v p=⟨0,0,0⟩->∀i,i<n->v i=0
theorem qBv{n:Nat}{p:Nat->V3}:∀(c:Nat) {w:Nat->Rat} {s:Rat},Least n p w s->cnt n w<=c->∃w',Least n p w' s/\qKq n p w':=by
 intro c;induction c with
 | zero=>
  intro w s hw hc;obtain⟨j,hj,hne⟩:=qws (n:=n) (f:=w) (by rw[hw.good.1.one];decide);have:=qCt (n:=n) (w:=w) (v:=fun _=>0) (k:=j) (fun _ _ _=>rfl) hj hne rfl;omega
 | succ c ih=>
  intro w s hw hc;by_cases hi:qKq n p w
  ·exact⟨w,hw,hi⟩
  ·unfold qKq at hi;obtain⟨v,hv⟩:=qQh.1 hi;obtain⟨vz,hv⟩:=qQ0.1 hv;obtain⟨v0,hv⟩:=qQ0.1 hv;obtain⟨vc,hv⟩:=qQ0.1 hv;have neg:∃k,k<n/\v k<0:=by apply qOR;intro hh;exact hv (qpU (fun i hi=>by apply qOR;intro h';exact hh ⟨i,hi,by grind⟩) v0)
   obtain⟨t,t0,a1,a2,a3⟩:=qGh hw.good.1 v0 vz neg;have cs:cen n (fun i=>w i+t*v i) p=cen n w p:=by rw[qsf,vc];rcases hcw:cen n w p with⟨x,y,z⟩;simp only[V3.mk.injEq];refine⟨?_,?_,?_⟩<;>grind
   refine ih (w:=fun i=>w i+t*v i) (s:=s) ⟨⟨a1,fun i hi hne=>?_⟩,fun i hi=>?_⟩ (by omega)
   ·rw[cs];exact hw.good.2 i hi fun e=>hne (a3 i hi e)
   ·rw[cs];exact hw.all i hi
variable {p:Nat->V3}
theorem kernel:∀(m n:Nat) (M:Nat->Nat->Rat),m<n->∃x:Nat->Rat,(∃j,j<n/\x j≠0)/\∀i,i<m->su n (fun j=>M i j*x j)=0
 | 0,n,_,h=>⟨fun _=>1,⟨0,h,by decide⟩,fun i hi=>by omega⟩
 | m+1,0,_,h=>by omega
 | m+1,n+1,M,h=>by
  by_cases hz:∀i,i<m+1->M i n=0
  ·refine⟨fun j=>if j=n then 1 else 0,⟨n,by omega,by simp⟩,fun i hi=>?_⟩;rw[q9v (k:=n) _ (by omega) (fun j _ hne=>by simp[hne])];simp[hz i hi]
  ·obtain⟨k,hk⟩:=qQh.1 hz;obtain⟨hk,ha⟩:=qQ0.1 hk;have inv:M k n*(M k n)⁻¹=1:=qQ9 _ ha;obtain⟨x,⟨j,hj,hx⟩,he⟩:=kernel m n (fun i j=>M (if i=k then m else i) j-M (if i=k then m else i) n*(M k n)⁻¹*M k j) (by omega);refine⟨fun j=>if j=n then -((M k n)⁻¹*su n (fun j=>M k j*x j)) else x j,⟨j,by omega,by simpa[show j≠n by omega] using hx⟩,fun i hi=>?_⟩;simp only[su,if_true];rw[ql (g:=fun j=>M i j*x j) (fun j hj=>by rw[if_neg (by omega)])];by_cases hik:i=k
   ·subst hik;grind
   ·have e:∃i',i'<m/\(if i'=k then m else i')=i:=by
     by_cases him:i=m
     ·exact⟨k,by omega,by simp[him]⟩
     ·exact⟨i,by omega,by simp[hik]⟩
    obtain⟨i',hi',e⟩:=e;have q:=he i' hi';simp only[e] at q;rw[ql (g:=fun j=>M i j*x j-M i n*(M k n)⁻¹*(M k j*x j)) (fun j _=>by grind),q9x,wD] at q;grind
theorem qwQ {n q:Nat}{L:Nat->Nat}(hL:∀j,j<q->L j<n)(u f:Nat->Rat):su n (fun i=>su q (fun j=>if L j=i then u j else 0)*f i)=su q (fun j=>u j*f (L j)):=by rw[ql (g:=fun i=>su q (fun j=>(if L j=i then u j else 0)*f i)) (fun i _=>by rw[show su q (fun j=>if L j=i then u j else 0)*f i=f i*su q (fun j=>if L j=i then u j else 0) from by grind,<-wD];exact ql fun j _=>by grind),qAO];refine ql fun j hj=>?_;rw[q9v (k:=L j) _ (hL j hj) (fun i _ hne=>by simp[show ¬L j=i from fun e=>hne e.symm])];simp
theorem qx4 {n q:Nat}{L:Nat->Nat}(hL:∀j,j<q->L j<n)(u:Nat->Rat):su n (fun i=>su q (fun j=>if L j=i then u j else 0))=su q u:=by have:=qwQ hL u (fun _=>1);rw[ql (g:=fun i=>su q (fun j=>if L j=i then u j else 0)) (fun i _=>by grind)] at this;rw[this];exact ql fun j _=>by grind
theorem qN9 {q:Nat}{L:Nat->Nat}(inj:∀j k,j<q->k<q->L j=L k->j=k)(u:Nat->Rat){k:Nat}(hk:k<q):su q (fun j=>if L j=L k then u j else 0)=u k:=by rw[q9v (k:=k) _ hk (fun j hj hne=>by rw[if_neg fun e=>hne (inj j k hj hk e)])];simp
theorem qsa {n q:Nat}{L:Nat->Nat}(hL:∀j,j<q->L j<n)(u:Nat->Rat)(p:Nat->V3):cen n (fun i=>su q (fun j=>if L j=i then u j else 0)) p=cen q u (fun j=>p (L j)):=by unfold cen;rw[qwQ hL,qwQ hL,qwQ hL]
def qNN(q:Nat)(p:Nat->V3)(L:Nat->Nat):Prop:=∀u:Nat->Rat,su q u=0->cen q u (fun j=>p (L j))=⟨0,0,0⟩->∀j,j<q->u j=0
theorem qJs {q:Nat}{L:Nat->Nat}(h:qNN q p L):q<=4:=by
 apply qOR;intro hq;obtain⟨u,⟨j,hj,hne⟩,he⟩:=kernel 4 q (fun i j=>if i=0 then 1 else if i=1 then (p (L j)).x else if i=2 then (p (L j)).y else (p (L j)).z) (by omega);refine hne (h u ?_ ?_ j hj)
 ·have:=he 0 (by omega);simp only[if_true] at this;rw[<-this];exact ql fun i _=>by grind
 ·have e1:=he 1 (by omega);have e2:=he 2 (by omega);have e3:=he 3 (by omega);simp only[show ¬(1=0) by omega,show ¬(2=0) by omega,show ¬(3=0) by omega,show ¬(2=1) by omega,show ¬(3=1) by omega,show ¬(3=2) by omega,if_true,if_false] at e1 e2 e3;unfold cen;simp only[V3.mk.injEq];refine⟨?_,?_,?_⟩
  ·rw[<-e1];exact ql fun i _=>by grind
  ·rw[<-e2];exact ql fun i _=>by grind
  ·rw[<-e3];exact ql fun i _=>by grind
theorem qFg {q:Nat}{L:Nat->Nat}(h:qNN q p L)(hz:∀j,j<q->(p (L j)).z=0):q<=3:=by
 apply qOR;intro hq;obtain⟨u,⟨j,hj,hne⟩,he⟩:=kernel 3 q (fun i j=>if i=0 then 1 else if i=1 then (p (L j)).x else (p (L j)).y) (by omega);refine hne (h u ?_ ?_ j hj)
 ·have:=he 0 (by omega);simp only[if_true] at this;rw[<-this];exact ql fun i _=>by grind
 ·have e1:=he 1 (by omega);have e2:=he 2 (by omega);simp only[show ¬(1=0) by omega,show ¬(2=0) by omega,show ¬(2=1) by omega,if_true,if_false] at e1 e2;unfold cen;simp only[V3.mk.injEq];refine⟨?_,?_,?_⟩
  ·rw[<-e1];exact ql fun i _=>by grind
  ·rw[<-e2];exact ql fun i _=>by grind
  ·rw[ql (g:=fun _=>0) (fun i hi=>by rw[hz i hi];grind),qa8]
def Asc(q:Nat)(L:Nat->Nat):Prop:=∀j k,j<k->k<q->L j<L k
theorem Asc.inj {q:Nat}{L:Nat->Nat}(h:Asc q L):∀j k,j<q->k<q->L j=L k->j=k:=fun j k hj hk e=>by
 rcases Nat.lt_trichotomy j k with hh|hh|hh
 ·have:=h j k hh hk;omega
 ·exact hh
 ·have:=h k j hh hj;omega
theorem qqV:∀(n:Nat) (w:Nat->Rat),∃(q:Nat) (L:Nat->Nat),q<=n/\Asc q L/\(∀j,j<q->L j<n/\w (L j)≠0)/\∀i,i<n->w i≠0->∃j,j<q/\L j=i
 | 0,_=>⟨0,fun _=>0,by omega,fun j k _ hk=>by omega,fun j hj=>by omega,fun i hi=>by omega⟩
 | n+1,w=>by
  obtain⟨q,L,h0,h1,h2,h3⟩:=qqV n w;by_cases hw:w n=0
  ·refine⟨q,L,by omega,h1,fun j hj=>⟨by have:=(h2 j hj).1;omega,(h2 j hj).2⟩,fun i hi hne=>?_⟩;by_cases e:i=n
   ·subst e;exact absurd hw hne
   ·exact h3 i (by omega) hne
  ·refine⟨q+1,fun j=>if j=q then n else L j,by omega,fun j k hjk hk=>?_,fun j hj=>?_,fun i hi hne=>?_⟩
   ·simp only[show ¬j=q by omega,if_false];by_cases e:k=q
    ·simp only[e,if_true];exact(h2 j (by omega)).1
    ·simp only[e,if_false];exact h1 j k hjk (by omega)
   ·by_cases e:j=q
    ·simp only[e,if_true];exact⟨by omega,hw⟩
    ·simp only[e,if_false];have:=h2 j (by omega);exact⟨by omega,this.2⟩
   ·by_cases e:i=n
    ·exact⟨q,by omega,by simp[e]⟩
    ·obtain⟨j,hj,hL⟩:=h3 i (by omega) hne;exact⟨j,by omega,by simp only[show ¬j=q by omega,if_false];exact hL⟩
structure Sup (n:Nat) (p:Nat->V3) (q:Nat) (L:Nat->Nat) (u:Nat->Rat) (s:Rat):Prop where
 lt:∀j,j<q->L j<n
 asc:Asc q L
 ind:qNN q p L
 one:su q u=1
 eq:∀j,j<q->d2 (cen q u fun j=>p (L j)) (p (L j))=s
 nn:∀j,j<q->0<=u j
 all:∀i,i<n->d2 (cen q u fun j=>p (L j)) (p i)<=s
theorem Sup.least {n q:Nat}{L:Nat->Nat}{u:Nat->Rat}{s:Rat}(h:Sup n p q L u s):Least n p (fun i=>su q (fun j=>if L j=i then u j else 0)) s:=by
 have c:=qsa h.lt u p;refine⟨⟨⟨fun i _=>qI4 fun j hj=>?_,by rw[qx4 h.lt];exact h.one⟩,fun i hi hne=>?_⟩,fun i hi=>by rw[c];exact h.all i hi⟩
 ·show (0:Rat)<=if L j=i then u j else 0
  split
  ·exact h.nn j hj
  ·exact qPD
 ·rw[c];obtain⟨j,hj,hz⟩:=qws hne;by_cases e:L j=i
  ·rw[<-e];exact h.eq j hj
  ·exact absurd (if_neg e) hz
theorem qNh {n:Nat}(p:Nat->V3)(hn:0<n):∃q L u s,Sup n p q L u s/\0<q:=by
 obtain⟨w0,s,h0⟩:=qFn p hn;obtain⟨w,hw,hi⟩:=qBv _ h0 (qOe _);obtain⟨q,L,_,h1,h2,h3⟩:=qqV n w;have e:∀i,i<n->su q (fun j=>if L j=i then w (L j) else 0)=w i:=fun i hi=>by
  by_cases hz:w i=0
  ·rw[ql (g:=fun _=>0) (fun j hj=>by
    by_cases e:L j=i
    ·rw[e,hz];simp
    ·rw[if_neg e]),qa8,hz]
  ·obtain⟨k,hk,hL⟩:=h3 i hi hz;rw[<-hL,qN9 h1.inj (fun j=>w (L j)) hk]
 have lt:∀j,j<q->L j<n:=fun j hj=>(h2 j hj).1;have c:cen q (fun j=>w (L j)) (fun j=>p (L j))=cen n w p:=by rw[<-qsa lt (fun j=>w (L j)) p];unfold cen;simp only[V3.mk.injEq];refine⟨?_,?_,?_⟩<;>exact ql fun i hi=>by rw[e i hi]
 have one:su q (fun j=>w (L j))=1:=by rw[<-qx4 lt (fun j=>w (L j)),ql e,hw.good.1.one]
 refine⟨q,L,fun j=>w (L j),s,⟨lt,h1,fun u hu hc j hj=>?_,one,fun j hj=>by rw[c];exact hw.good.2 _ (lt j hj) (h2 j hj).2,fun j hj=>hw.good.1.nn _ (lt j hj),fun i hi=>by rw[c];exact hw.all i hi⟩,?_⟩
 ·have:=hi (fun i=>su q (fun j=>if L j=i then u j else 0)) (fun i _ hz=>by rw[ql (g:=fun _=>0) (fun j hj=>by rw[if_neg (fun e:L j=_=>(h2 j hj).2 (by rw[e];exact hz))]),qa8]) (by rw[qx4 lt,hu]) (by rw[qsa lt,hc]) (L j) (lt j hj);rw[qN9 h1.inj u hj] at this;exact this
 ·apply Nat.pos_of_ne_zero;intro hq;subst hq;have z:(0:Rat)=1:=one;exact absurd z (by decide)
end Go.Eng

namespace Go.Eng
variable {n:Nat}{p:Nat->V3}
theorem Sup.cen_eq {q:Nat}{L:Nat->Nat}{u:Nat->Rat}{s:Rat}(h:Sup n p q L u s):cen n (fun i=>su q (fun j=>if L j=i then u j else 0)) p=cen q u fun j=>p (L j):=qsa h.lt u p
theorem qCs {q q':Nat}{L L':Nat->Nat}{u u':Nat->Rat}{s s':Rat}(h:Sup n p q L u s)(h':Sup n p q' L' u' s'):s=s'/\cen q u (fun j=>p (L j))=cen q' u' (fun j=>p (L' j)):=by have:=qE1 h.least h'.least;rw[h.cen_eq,h'.cen_eq] at this;exact this
theorem qME {q:Nat}{L:Nat->Nat}{u:Nat->Rat}{s:Rat}(h:Sup n p q L u s){c:V3}{r:Rat}(hc:∀i,i<n->d2 c (p i)<=r):s+d2 c (cen q u fun j=>p (L j))<=r:=by have:=qxe h.least hc;rw[h.cen_eq] at this;exact this
def wts(t:Nat->Rat)(k:Nat):Nat->Rat:=fun j=>if j=0 then 1-su k t else t (j-1)
theorem qe4:∀(k:Nat) (f:Nat->Rat),su (k+1) f=f 0+su k (fun j=>f (j+1))
 | 0,f=>by simp only[su];grind
 | k+1,f=>by
  rw[su,qe4 k f];simp only[su];grind
theorem qMF (t:Nat->Rat)(k:Nat):su (k+1) (wts t k)=1:=by rw[qe4];unfold wts;rw[ql (g:=t) (fun j _=>by simp)];simp only[if_true];grind
def qyh(c:Nat->V3)(i k:Nat):Rat:=2*qbX ⟨(c (i+1)).x-(c 0).x,(c (i+1)).y-(c 0).y,(c (i+1)).z-(c 0).z⟩ ⟨(c (k+1)).x-(c 0).x,(c (k+1)).y-(c 0).y,(c (k+1)).z-(c 0).z⟩
theorem qLk (t:Nat->Rat)(k:Nat)(c:Nat->V3):cen (k+1) (wts t k) c=⟨(c 0).x+su k (fun j=>t j*((c (j+1)).x-(c 0).x)),(c 0).y+su k (fun j=>t j*((c (j+1)).y-(c 0).y)),(c 0).z+su k (fun j=>t j*((c (j+1)).z-(c 0).z))⟩:=by
 have key:∀f:Nat->Rat,su (k+1) (fun j=>wts t k j*f j)=f 0+su k (fun j=>t j*(f (j+1)-f 0)):=fun f=>by
  rw[qe4,ql (g:=fun j=>t j*f (j+1)) (fun j _=>by unfold wts;simp)];have e:su k (fun j=>t j*(f (j+1)-f 0))=su k (fun j=>t j*f (j+1))-f 0*su k t:=by rw[<-wD,<-q9x];exact ql fun j _=>by grind
  rw[e];unfold wts;simp only[if_true];grind
 unfold cen;rw[key fun j=>(c j).x,key fun j=>(c j).y,key fun j=>(c j).z]
theorem qCi (t:Nat->Rat)(k:Nat)(c:Nat->V3)(i:Nat):su k (fun j=>qyh c i j*t j)=d2 (c 0) (c (i+1))+d2 (cen (k+1) (wts t k) c) (c 0)-d2 (cen (k+1) (wts t k) c) (c (i+1)):=by
 rw[qLk];have e:su k (fun j=>qyh c i j*t j)=2*(((c (i+1)).x-(c 0).x)*su k (fun j=>t j*((c (j+1)).x-(c 0).x))+((c (i+1)).y-(c 0).y)*su k (fun j=>t j*((c (j+1)).y-(c 0).y))+((c (i+1)).z-(c 0).z)*su k (fun j=>t j*((c (j+1)).z-(c 0).z))):=by rw[<-wD,<-wD,<-wD,<-q6a,<-q6a,<-wD];exact ql fun j _=>by unfold qyh qbX;grind
 rw[e];unfold d2;simp only;grind
theorem qC0 (t:Nat->Rat)(k:Nat)(c:Nat->V3):(∀i,i<k->su k (fun j=>qyh c i j*t j)=d2 (c 0) (c (i+1)))↔∀j,j<k+1->d2 (cen (k+1) (wts t k) c) (c j)=d2 (cen (k+1) (wts t k) c) (c 0):=by
 constructor
 ·intro h j hj;cases j with
  | zero=>rfl
  | succ i=>
   have:=h i (by omega);rw[qCi] at this;grind
 ·intro h i hi;have:=h (i+1) (by omega);rw[qCi,this];grind
end Go.Eng

namespace Go.Eng
def swI(a b i:Nat):Nat:=if i=a then b else if i=b then a else i
theorem qA0{a b i k:Nat}(ha:a<k)(hb:b<k)(hi:i<k):swI a b i<k:=by unfold swI;split<;>(try split)<;>omega
theorem qF2(a b i:Nat):swI a b (swI a b i)=i:=by
 unfold swI;by_cases h1:i=a
 ·subst h1;by_cases h2:b=i
  ·simp[h2]
  ·simp[h2]
 ·by_cases h2:i=b
  ·subst h2;simp[h1]
  ·simp[h1,h2]
def gs(c i0:Nat)(M:Nat->Nat->Rat):Nat->Nat->Rat:=fun i j=>if i=c then M i0 j*(M i0 c)⁻¹ else M (swI c i0 i) j-M (swI c i0 i) c*(M i0 j*(M i0 c)⁻¹)
def gsb(c i0:Nat)(M:Nat->Nat->Rat)(b:Nat->Rat):Nat->Rat:=fun i=>if i=c then b i0*(M i0 c)⁻¹ else b (swI c i0 i)-M (swI c i0 i) c*(b i0*(M i0 c)⁻¹)
theorem qHt(k c i0:Nat)(M:Nat->Nat->Rat)(x:Nat->Rat)(i:Nat):su k (fun j=>gs c i0 M i j*x j)=gsb c i0 M (fun i=>su k fun j=>M i j*x j) i:=by
 unfold gs gsb;by_cases h:i=c
 ·simp only[h,if_true];rw[ql (g:=fun j=>(M i0 c)⁻¹*(M i0 j*x j)) (fun j _=>by grind),wD];grind
 ·simp only[h,if_false];rw[ql (g:=fun j=>M (swI c i0 i) j*x j-(M (swI c i0 i) c*(M i0 c)⁻¹)*(M i0 j*x j)) (fun j _=>by grind),q9x,wD];grind
theorem qK0{k c i0:Nat}{M:Nat->Nat->Rat}{b x:Nat->Rat}(hc:c<k)(hi0:i0<k)(hp:M i0 c≠0):qrn k k (gs c i0 M) (gsb c i0 M b) x↔qrn k k M b x:=by
 have inv:M i0 c*(M i0 c)⁻¹=1:=qQ9 _ hp;constructor
 ·intro h;have h0:su k (fun j=>M i0 j*x j)=b i0:=by have:=h c hc;rw[qHt] at this;unfold gsb at this;simp only[if_true] at this;grind
  intro i hi;by_cases e:i=i0
  ·rw[e];exact h0
  ·have:=h (swI c i0 i) (qA0 hc hi0 hi);rw[qHt] at this;unfold gsb at this;have ne:swI c i0 i≠c:=by intro z;have:=qF2 c i0 i;rw[z] at this;unfold swI at this;simp at this;exact e this.symm
   simp only[ne,if_false,qF2] at this;rw[h0] at this;grind
 ·intro h i hi;rw[qHt];unfold gsb;have h0:=h i0 hi0;by_cases e:i=c
  ·simp only[e,if_true];rw[h0]
  ·simp only[e,if_false];rw[h0,h _ (qA0 hc hi0 hi)]
def qwK(k c:Nat)(M:Nat->Nat->Rat):Prop:=∀i j,i<k->j<c->M i j=if i=j then 1 else 0
theorem qG9{k c i0:Nat}{M:Nat->Nat->Rat}(h:qwK k c M)(hc:c<k)(hci:c<=i0)(hi0:i0<k)(hp:M i0 c≠0):qwK k (c+1) (gs c i0 M):=by
 have inv:M i0 c*(M i0 c)⁻¹=1:=qQ9 _ hp;intro i j hi hj;unfold gs;by_cases e:j=c
 ·subst e;by_cases ei:i=j
  ·simp only[ei,if_true];exact inv
  ·simp only[ei,if_false];grind
 ·have hj':j<c:=by omega
  have z0:M i0 j=0:=by rw[h i0 j hi0 hj',if_neg (by omega)]
  by_cases ei:i=c
  ·simp only[ei,if_true];rw[z0,if_neg (by omega)];grind
  ·simp only[ei,if_false];rw[z0,h _ j (qA0 hc hi0 hi) hj'];unfold swI;by_cases e0:i=i0
   ·subst e0;simp only[ei,if_false,if_true];rw[if_neg (show ¬c=j by omega),if_neg (show ¬i=j by omega)];grind
   ·simp only[ei,e0,if_false];grind
def qgi(k:Nat)(pv:Nat->(Nat->Nat->Rat)->Option Nat):Nat->Nat->(Nat->Nat->Rat)->Option (Nat->Nat->Rat)
 | 0,_,M=>some M
 | m+1,c,M=>match pv c M with
  | none=>none
  | some i0=>qgi k pv m (c+1) (gs c i0 M)
structure Pivots (k:Nat) (pv:Nat->(Nat->Nat->Rat)->Option Nat):Prop where
 some:∀c M i,c<k->pv c M=some i->c<=i/\i<k/\M i c≠0
 none:∀c M i,pv c M=none->c<=i->i<k->M i c=0
theorem qpJ{k:Nat}{pv:Nat->(Nat->Nat->Rat)->Option Nat}(hpv:Pivots k pv):∀(m c:Nat) (M N:Nat->Nat->Rat),c+m=k->qwK k c M->qgi k pv m c M=some N ->
  qwK k k N/\∀r x,qrn k k N (fun i=>N i r) x↔qrn k k M (fun i=>M i r) x
 | 0,c,M,N,hc,hu,h=>by
  simp only[qgi,qOc] at h;subst h;have:c=k:=by omega
  subst this;exact⟨hu,fun _ _=>Iff.rfl⟩
 | m+1,c,M,N,hc,hu,h=>by
  simp only[qgi] at h;cases hp:pv c M with
  | none=>rw[hp] at h;cases h
  | some i0=>
   rw[hp] at h;obtain⟨p1,p2,p3⟩:=hpv.some c M i0 (by omega) hp;obtain⟨q1,q2⟩:=qpJ hpv m (c+1) _ N (by omega) (qG9 hu (by omega) p1 p2 p3) h;refine⟨q1,fun r x=>(q2 r x).trans ?_⟩;exact qK0 (b:=fun i=>M i r) (by omega) p2 p3
theorem qw6{k:Nat}{pv:Nat->(Nat->Nat->Rat)->Option Nat}(hpv:Pivots k pv):∀(m c:Nat) (M:Nat->Nat->Rat),c+m=k->qwK k c M->qgi k pv m c M=none ->
  ∃x:Nat->Rat,(∃j,j<k/\x j≠0)/\qrn k k M (fun _=>0) x
 | 0,c,M,hc,hu,h=>by simp only[qgi] at h;cases h
 | m+1,c,M,hc,hu,h=>by
  simp only[qgi] at h;cases hp:pv c M with
  | none=>
   refine⟨fun j=>(if j<c then -(M j c) else 0)+(if j=c then 1 else 0),⟨c,by omega,by show (if c<c then -(M c c) else 0)+(if c=c then 1 else 0)≠(0:Rat);rw[if_neg (by omega),if_pos rfl];intro z;grind⟩,fun i hi=>?_⟩;show su k (fun j=>M i j*((if j<c then -(M j c) else 0)+(if j=c then 1 else 0)))=0;rw[ql (g:=fun j=>M i j*(if j<c then -(M j c) else 0)+M i j*(if j=c then 1 else 0)) (fun j _=>by grind),q6a];have e2:su k (fun j=>M i j*(if j=c then 1 else 0))=M i c:=by rw[q9v (k:=c) _ (by omega) (fun j _ hne=>by simp[hne])];simp
   rw[e2];by_cases h3:i<c
   ·rw[q9v (k:=i) _ hi (fun j hj hne=>by
     by_cases hj':j<c
     ·rw[hu i j hi hj',if_neg (fun z=>hne z.symm)];grind
     ·rw[if_neg hj'];grind),if_pos h3,hu i i hi h3,if_pos rfl];grind
   ·rw[ql (g:=fun _=>0) (fun j hj=>by
     by_cases hj':j<c
     ·rw[hu i j hi hj',if_neg (by omega)];grind
     ·rw[if_neg hj'];grind),qa8,hpv.none c M i hp (by omega) hi];grind
  | some i0=>
   rw[hp] at h;obtain⟨p1,p2,p3⟩:=hpv.some c M i0 (by omega) hp;obtain⟨x,hx,hs⟩:=qw6 hpv m (c+1) _ (by omega) (qG9 hu (by omega) p1 p2 p3) h;refine⟨x,hx,(qK0 (b:=fun _=>0) (by omega) p2 p3).1 ?_⟩;intro i hi;rw[hs i hi];unfold gsb;split<;>grind
theorem qmS{k:Nat}{N:Nat->Nat->Rat}(h:qwK k k N)(b x:Nat->Rat):qrn k k N b x↔∀i,i<k->x i=b i:=by
 have e:∀i,i<k->su k (fun j=>N i j*x j)=x i:=fun i hi=>by rw[q9v (k:=i) _ hi (fun j hj hne=>by rw[h i j hi hj,if_neg (fun z=>hne z.symm)];grind),h i i hi hi,if_pos rfl];grind
 constructor
 ·intro hs i hi;rw[<-e i hi];exact hs i hi
 ·intro hs i hi;rw[e i hi];exact hs i hi
variable {k:Nat}
def Ind(q:Nat)(c:Nat->V3):Prop:=∀u:Nat->Rat,su q u=0->cen q u c=⟨0,0,0⟩->∀j,j<q->u j=0
def dif(c:Nat->V3)(t:Nat->Rat)(k:Nat):V3:=⟨su k fun j=>t j*((c (j+1)).x-(c 0).x),su k fun j=>t j*((c (j+1)).y-(c 0).y),su k fun j=>t j*((c (j+1)).z-(c 0).z)⟩
theorem qCl (c:Nat->V3)(t:Nat->Rat)(k i:Nat):su k (fun j=>qyh c i j*t j)=2*(((c (i+1)).x-(c 0).x)*(dif c t k).x+((c (i+1)).y-(c 0).y)*(dif c t k).y+((c (i+1)).z-(c 0).z)*(dif c t k).z):=by unfold dif;simp only;rw[<-wD,<-wD,<-wD,<-q6a,<-q6a,<-wD];exact ql fun j _=>by unfold qyh qbX;grind
theorem qGE (c:Nat->V3)(u:Nat->Rat)(k:Nat)(h:su (k+1) u=0):cen (k+1) u c=dif c (fun j=>u (j+1)) k:=by
 have key:∀f:Nat->Rat,su (k+1) (fun j=>u j*f j)=su k (fun j=>u (j+1)*(f (j+1)-f 0)):=fun f=>by
  have e:su k (fun j=>u (j+1)*(f (j+1)-f 0))=su k (fun j=>u (j+1)*f (j+1))-f 0*su k (fun j=>u (j+1)):=by rw[<-wD,<-q9x];exact ql fun j _=>by grind
  rw[qe4] at h;rw[qe4,e];grind
 unfold cen dif;rw[key fun j=>(c j).x,key fun j=>(c j).y,key fun j=>(c j).z]
theorem qkJ {c:Nat->V3}:Ind (k+1) c↔∀t:Nat->Rat,(∀i,i<k->su k (fun j=>qyh c i j*t j)=0)->∀j,j<k->t j=0:=by
 constructor
 ·intro h t ht j hj;obtain⟨u,hu⟩:∃u:Nat->Rat,u=fun j=>if j=0 then -(su k t) else t (j-1):=⟨_,rfl⟩
  have us:(fun j=>u (j+1))=t:=by funext j;rw[hu];simp
  have u0:su (k+1) u=0:=by rw[qe4,us,hu];simp;try grind
  have dz:dif c t k=⟨0,0,0⟩:=by
   have e:su k (fun i=>t i*su k (fun j=>qyh c i j*t j))=0:=by rw[ql (g:=fun _=>0) (fun i hi=>by rw[ht i hi];grind),qa8]
   have e2:su k (fun i=>t i*su k (fun j=>qyh c i j*t j))=2*qbX (dif c t k) (dif c t k):=by rw[ql (g:=fun i=>2*((dif c t k).x*(t i*((c (i+1)).x-(c 0).x))+(dif c t k).y*(t i*((c (i+1)).y-(c 0).y))+(dif c t k).z*(t i*((c (i+1)).z-(c 0).z)))) (fun i _=>by rw[qCl];grind),wD,q6a,q6a,wD,wD,wD];unfold qbX dif;grind
   rw[e2] at e;have:d2 (dif c t k) ⟨0,0,0⟩<=0:=by rw[qzm];unfold qbX at *;simp only at *;grind
   exact qAy this
  have:=h u u0 (by rw[qGE c u k u0,us,dz]) (j+1) (by omega);rw[hu] at this;simpa using this
 ·intro h u u0 hc j hj;have d:dif c (fun j=>u (j+1)) k=⟨0,0,0⟩:=by rw[<-qGE c u k u0,hc]
  have z:=h (fun j=>u (j+1)) fun i _=>by rw[qCl,d];grind
  cases j with
  | zero=>
   rw[qe4,ql (g:=fun _=>0) (fun j hj=>z j hj),qa8] at u0;grind
  | succ j=>exact z j (by omega)
structure Bl (k:Nat) (c:Nat->V3) (t:Nat->Rat):Prop where
 ind:Ind (k+1) c
 eq:∀i,i<k->su k (fun j=>qyh c i j*t j)=d2 (c 0) (c (i+1))
theorem qKo {c:Nat->V3}{t t':Nat->Rat}(h:Bl k c t)(h':Bl k c t'):∀j,j<k->t j=t' j:=fun j hj=>by have:=qkJ.1 h.ind (fun j=>t j-t' j) (fun i hi=>by rw[ql (g:=fun j=>qyh c i j*t j-qyh c i j*t' j) (fun j _=>by grind),q9x,h.eq i hi,h'.eq i hi];grind) j hj;grind
theorem qIk {n:Nat}{p:Nat->V3}{L:Nat->Nat}{u:Nat->Rat}{s:Rat}(h:Sup n p (k+1) L u s):Bl k (fun j=>p (L j)) (fun j=>u (j+1))/\∀j,j<k+1->u j=wts (fun j=>u (j+1)) k j:=by
 have e:∀j,j<k+1->u j=wts (fun j=>u (j+1)) k j:=fun j hj=>by
  have:=h.one;rw[qe4] at this;unfold wts;cases j with
  | zero=>simp only[if_true];grind
  | succ j=>simp
 refine⟨⟨h.ind,(qC0 _ k _).2 fun j hj=>?_⟩,e⟩;have c:cen (k+1) (wts (fun j=>u (j+1)) k) (fun j=>p (L j))=cen (k+1) u fun j=>p (L j):=by unfold cen;simp only[V3.mk.injEq];refine⟨?_,?_,?_⟩<;>exact ql fun i hi=>by rw[<-e i hi]
 rw[c,h.eq j hj,h.eq 0 (by omega)]
theorem qIx {n:Nat}{p:Nat->V3}{L:Nat->Nat}{t:Nat->Rat}(h:Bl k (fun j=>p (L j)) t)(lt:∀j,j<k+1->L j<n)(asc:Asc (k+1) L)(nn:∀j,j<k+1->0<=wts t k j)(all:∀i,i<n->d2 (cen (k+1) (wts t k) fun j=>p (L j)) (p i)<=d2 (cen (k+1) (wts t k) fun j=>p (L j)) (p (L 0))) :Sup n p (k+1) L (wts t k) (d2 (cen (k+1) (wts t k) fun j=>p (L j)) (p (L 0))):=⟨lt,asc,h.ind,qMF t k,(qC0 t k _).1 h.eq,nn,all⟩
end Go.Eng

namespace Go.Eng
variable {n:Nat}
def nxL(l:List Nat):Nat:=match l.getLast? with
 | none=>0
 | some a=>a+1
def exL(n:Nat)(l:List Nat):List (List Nat):=(List.range' (nxL l) (n-nxL l)).map fun i=>l++[i]
def lsN(n:Nat):Nat->List (List Nat)
 | 0=>[[]]
 | k+1=>(lsN n k).flatMap (exL n)
theorem qHR (l:List Nat)(i:Nat):nxL (l++[i])=i+1:=by unfold nxL;rw[List.getLast?_concat]
theorem qJX {l:List Nat}(h:∀a,a∈l->a<n):nxL l<=n:=by
 unfold nxL;cases e:l.getLast? with
 | none=>exact qPz _
 | some a=>exact h a (List.mem_of_getLast? e)
theorem qN0 {l:List Nat}(h:l.Pairwise (·<·)):∀a,a∈l->a<nxL l:=by
 intro a ha;rcases List.eq_nil_or_concat l with e|⟨l',b,e⟩
 ·subst e;cases ha
 ·rw[List.concat_eq_append] at e;subst e;rw[qHR];rcases qOB.1 ha with q|q
  ·have:=(List.pairwise_append.1 h).2.2 a q b (qOF.2 rfl);omega
  ·rw[qOF.1 q];omega
theorem qEJ {l L:List Nat}:L∈exL n l↔∃i,nxL l<=i/\i<n/\L=l++[i]:=by
 unfold exL;rw[qOP];constructor
 ·rintro ⟨i,hi,e⟩;rw[List.mem_range'] at hi;obtain⟨j,h1,h2⟩:=hi;exact⟨i,by omega,by omega,e.symm⟩
 ·rintro ⟨i,h1,h2,e⟩;exact⟨i,by rw[List.mem_range'];exact⟨i-nxL l,by omega,by omega⟩,e.symm⟩
theorem quL{n:Nat}:∀{k:Nat} {L:List Nat},L∈lsN n k↔L.length=k/\(∀a,a∈L->a<n)/\L.Pairwise (·<·)
 | 0,L=>by
  unfold lsN;rw[qOF];constructor
  ·intro e;subst e;exact⟨rfl,(fun a h=>by cases h),List.Pairwise.nil⟩
  ·intro h;exact qPO h.1
 | k+1,L=>by
  unfold lsN;rw[qQ8];constructor
  ·rintro ⟨l,hl,hL⟩;obtain⟨h1,h2,h3⟩:=quL.1 hl;obtain⟨i,i1,i2,e⟩:=qEJ.1 hL;subst e;refine⟨by rw[qOz,h1];rfl,fun a ha=>?_,List.pairwise_append.2 ⟨h3,List.pairwise_singleton _ _,fun a ha b hb=>?_⟩⟩
   ·rcases qOB.1 ha with q|q
    ·exact h2 a q
    ·rw[qOF.1 q];exact i2
   ·rw[qOF.1 hb];have:=qN0 h3 a ha;omega
  ·rintro ⟨h1,h2,h3⟩;rcases List.eq_nil_or_concat L with e|⟨l,i,e⟩
   ·subst e;cases h1
   ·rw[List.concat_eq_append] at e;subst e;have hp:=List.pairwise_append.1 h3;refine⟨l,quL.2 ⟨by rw[qOz] at h1;exact Nat.succ.inj h1,fun a ha=>h2 a (qP3 _ ha),hp.1⟩,qEJ.2 ⟨i,?_,h2 i (qOQ _ (qOF.2 rfl)),rfl⟩⟩;refine qJX fun a ha=>hp.2.2 a ha i (qOF.2 rfl)
theorem qGl (n:Nat)(l:List Nat):(exL n l).length<=n:=by unfold exL;rw[qOm,List.length_range'];omega
theorem qxJ{α β:Type}(f:α->List β)(n:Nat)(h:∀a,(f a).length<=n):∀l:List α,(l.flatMap f).length<=l.length*n
 | []=>by simp
 | a::l=>by
  rw[List.flatMap_cons,qOz,qON,Nat.succ_mul];have:=qxJ f n h l;have:=h a;omega
theorem qFH(n:Nat):∀k,(lsN n k).length<=n^k
 | 0=>by unfold lsN;simp
 | k+1=>by
  unfold lsN;refine qOh (qxJ _ n (qGl n) _) ?_;rw[qPQ];exact qOE _ (qFH n k)
def qka(P:List Nat->Bool)(n:Nat):Nat->Nat->Option (List Nat)
 | _,0=>none
 | k,m+1=>match (lsN n k).find? P with
  | some L=>some L
  | none=>qka P n (k+1) m
theorem qtt{P:List Nat->Bool}{n:Nat}:∀{m k:Nat} {L:List Nat},qka P n k m=some L->P L=true/\∃j,k<=j/\j<k+m/\L∈lsN n j
 | 0,k,L,h=>by cases h
 | m+1,k,L,h=>by
  unfold qka at h;split at h
  ·next L' e=>cases h;exact⟨qPg e,k,qOe _,by omega,qP0 e⟩
  ·obtain⟨h1,j,h2,h3,h4⟩:=qtt h;exact⟨h1,j,by omega,by omega,h4⟩
theorem qto{P:List Nat->Bool}{n:Nat}:∀{m k:Nat},qka P n k m=none->∀j,k<=j->j<k+m->∀L,L∈lsN n j->P L=false
 | 0,k,_,j,h1,h2,_,_=>by omega
 | m+1,k,h,j,h1,h2,L,hL=>by
  unfold qka at h;split at h
  ·cases h
  ·next e=>
   by_cases q:j=k
   ·subst q;exact(Bool.not_eq_true _).mp (List.find?_eq_none.1 e L hL)
   ·exact qto h j (by omega) (by omega) L hL
theorem qJr {q:Nat}{f:Nat->Nat}(h:Asc q f):((List.range q).map f).Pairwise (·<·):=by rw[List.pairwise_iff_getElem];intro i j hi hj hij;rw[qOm,qOM] at hi hj;rw[List.getElem_map,List.getElem_map,List.getElem_range,List.getElem_range];exact h i j hij hj
theorem qIp {L:List Nat}(h:L.Pairwise (·<·))(d:Nat):Asc L.length (fun j=>L.getD j d):=fun i j hij hj=>by show L.getD i d<L.getD j d;rw[qOd,qOd,qOk hj,qOk (by omega)];exact List.pairwise_iff_getElem.1 h i j (by omega) hj hij
theorem qEo {q:Nat}{f:Nat->Nat}{d j:Nat}(h:j<q):((List.range q).map f).getD j d=f j:=by rw[qOd,qOo,qOW h];rfl
theorem qLo {q:Nat}{u:Nat->Rat}{c c':Nat->V3}(h:∀j,j<q->c j=c' j):cen q u c=cen q u c':=by unfold cen;simp only[V3.mk.injEq];refine⟨?_,?_,?_⟩<;>exact ql fun i hi=>by rw[h i hi]
theorem Sup.congr {p:Nat->V3}{q:Nat}{f g:Nat->Nat}{u:Nat->Rat}{s:Rat}(h:Sup n p q f u s)(e:∀j,j<q->f j=g j):Sup n p q g u s:=by
 have ec:∀v:Nat->Rat,(cen q v fun j=>p (g j))=cen q v fun j=>p (f j):=fun v=>qLo fun j hj=>by rw[e j hj]
 refine⟨fun j hj=>by rw[<-e j hj];exact h.lt j hj,fun j k hjk hk=>by rw[<-e j (by omega),<-e k hk];exact h.asc j k hjk hk,fun v h1 h2=>h.ind v h1 (by rw[<-ec];exact h2),h.one,fun j hj=>?_,h.nn,fun i hi=>?_⟩
 ·rw[ec,<-e j hj];exact h.eq j hj
 ·rw[ec];exact h.all i hi
theorem qIL (p:Nat->V3)(hn:0<n)(d:Nat):∃L:List Nat,∃u s,0<L.length/\L.length<=4/\((∀i,i<n->(p i).z=0)->L.length<=3)/\(∀a,a∈L->a<n)/\L.Pairwise (·<·)/\Sup n p L.length (fun j=>L.getD j d) u s:=by
 obtain⟨q,f,u,s,h,hq⟩:=qNh p hn;refine⟨(List.range q).map f,u,s,by rw[qOm,qOM];exact hq,by rw[qOm,qOM];exact qJs h.ind,fun hz=>by rw[qOm,qOM];exact qFg h.ind fun j hj=>hz _ (h.lt j hj),fun a ha=>?_,qJr h.asc,?_⟩
 ·obtain⟨j,hj,e⟩:=qOP.1 ha;rw[<-e];exact h.lt j (qOV.1 hj)
 ·rw[qOm,qOM];exact h.congr fun j hj=>(qEo hj).symm
end Go.Eng

namespace Go.Eng
open Go.Shelf Go.RowKit Go.Proofs Go.Sort
variable {P:Program}{gl:List (Nat×AV)}
theorem qrf (w:World)(q:Nat)(os:Array Obj):Below w.heap.size w (grow (w.drewN q) os):=
 ⟨rfl,rfl,rfl,by simp[grow],fun i hi=>by show ((w.drewN q).heap++os)[i]?=_;rw[Array.getElem?_append_left (by show i<w.heap.size;omega)];rfl⟩
theorem qyT (w:World)(e:TypeId)(s:ByteArray):Below w.heap.size w (Lib.bytesWorld w e s):=⟨rfl,rfl,rfl,by rw[Lib.bytesWorld_size];omega,fun k hk=>Lib.bytesWorld_at_old w e s k (by omega)⟩
def qzO:List PV->TR
 | [.s s,.s [c]]=>.leaf (0,[.i (Lib.indexByte s c)])
 | _=>.fail
theorem qBf {ρ:Ren}(L:Lays.n219 P ρ)(he:qdN P (ρ.f 219)) :qx P gl (ρ.f 219) (q9 { args:=[.str,.str],h:=[] } [{ res:=.int .i64,h:=[] }] qzO):=
 qkO he rfl fun B X ps j qs vargs hs hg hh ha hk hT=>by
  obtain⟨s,t,rfl⟩:=qxR hk;unfold qzO at hT;split at hT
  ·rename_i s' c hps;simp only[qPx,PV.s.injEq,and_true] at hps;obtain⟨rfl,rfl⟩:=hps;cases hT;have:=qte ha;subst this;refine⟨rfl,rfl,rfl,(Any.stringslite_Index_one L ⟨s.toArray⟩ c X.w).mono fun e w' ⟨h1,h2⟩=>?_⟩;subst h2;exact⟨_,h1,Below.refl _ _,.int _ _⟩
  ·cases hT
def qs6:List PV->TR
 | [.s s,.s t]=>.leaf (0,[.i (Lib.compareBytes s t)])
 | _=>.fail
theorem qxE {ρ:Ren}(L:Lays.n106 P ρ)(he:qdN P (ρ.f 106)) :qx P gl (ρ.f 106) (q9 { args:=[.str,.str],h:=[] } [{ res:=.int .i64,h:=[] }] qs6):=
 qkO he rfl fun B X ps j qs vargs hs hg hh ha hk hT=>by obtain⟨s,t,rfl⟩:=qxR hk;cases hT;have:=qte ha;subst this;refine⟨rfl,rfl,rfl,(Any.strings_Compare L ⟨s.toArray⟩ ⟨t.toArray⟩ X.w).mono fun e w' ⟨h1,h2⟩=>?_⟩;subst h2;exact⟨_,h1,Below.refl _ _,.int _ _⟩
def qEK:List PV->TR
 | [.s s,.s t]=>if s.length<=9223372036854775807/\t.length<4294967281/\t.all (fun b=>decide (b.toNat<128))=true then .leaf (0,[.s (Lib.trimS s t)]) else .fail
 | _=>.fail
theorem qDS {ρ:Ren}(L:Lays.n160 P ρ)(he:qdN P (ρ.f 160))(h116:(P.info? (ρ.t 116)).map (fun i=>(i.zero,i.size))=some (some (.agg (Array.replicate 256 (.bool false))),256)) :qx P gl (ρ.f 160) (q9 { args:=[.str,.str],h:=[] } [{ res:=.str,h:=[] }] qEK):=
 qkO he rfl fun B X ps j qs vargs hs hg hh ha hk hT=>by
  obtain⟨s,t,rfl⟩:=qxR hk;simp only[qEK] at hT;split at hT
  ·rename_i hc;cases hT;have:=qte ha;subst this;refine⟨rfl,rfl,rfl,(Any.strings_Trim_laid L h116 ⟨s.toArray⟩ ⟨t.toArray⟩ X.w (by simpa[ByteArray.size] using hc.1) (by simpa[ByteArray.size] using hc.2.1) (fun j b hj=>?_)).mono fun e w' ⟨h1,h2⟩=>⟨_,h1,h2,.str _⟩⟩;have h3:=hc.2.2;rw[qOI] at h3;simpa using h3 b (qPe hj)
  ·cases hT
def qJF:R:=[Lib.pow10Tab.map U.i]
def qFL:List PV->TR
 | [.i n]=>if -9223372036854775808<=n/\n<=9223372036854775807 then .leaf (0,[.s (Lib.itoa n)]) else .fail
 | _=>.fail
theorem qsu {X:Ctx}{g:Nat}{k:IntKind}{zs:List Int}{name:String}(hn:P.globalNamed name=some g)(hz:zs≠[])(h:qIa X (g,.eptr (zs.map fun _=>.int k) [zs.map U.i] 0 0)):Lib.TabIs P X.w name k zs:=by
 obtain⟨h1,h2,h3⟩:=h;simp only at h1 h2 h3;have hcell:∀j (hj:j<zs.length),X.w.cell? ⟨g,j,none⟩=some (.int k zs[j]):=by
  intro j hj;generalize hv:(Value.pointer (some ⟨g,0,none⟩))=vv at h1;cases h1 with
  | eptr _ _ _ _ a hsp h0 hl hr=>
   simp only[Value.pointer.injEq,qOc,Addr.mk.injEq] at hv;obtain⟨v1,v2,_⟩:=hv;obtain⟨hM,v,e1,e2⟩:=hr 0 j (by simpa using hj) (by simp);have ho:a.off=0:=by omega
   have e1':X.w.cell? ⟨g,j,none⟩=some v:=by rw[Nat.zero_mul,qP1,ho,qPd,<-v1] at e1;exact e1
   rw[e1'];have e2':RepU X.w X.M (.int k) (U.i zs[j]) v:=by simpa[zZ,qOd,hj] using e2
   cases e2';rfl
 unfold Lib.TabIs World.var?;rw[hn];simp only[qOC];have h0:=hcell 0 (qPJ.2 hz);unfold World.cell? at h0;simp only at h0;split at h0
 ·rename_i cs T fr hheap;rw[hheap];simp only;congr 1;have hsz:cs.size<=zs.length:=by
   have h4:X.w.cell? ⟨g,zs.length,none⟩=none:=by simpa[AV.span] using h3
   unfold World.cell? at h4;simp only[hheap] at h4;simpa using h4
  apply Array.ext
  ·simp;rcases qOj cs.size zs.length with hlt|hge
   ·have:=hcell cs.size hlt;unfold World.cell? at this;simp[hheap] at this
   ·omega
  ·intro j hj hj2;have hjz:j<zs.length:=by omega
   have:=hcell j hjz;unfold World.cell? at this;simp only[hheap] at this;simp[hj] at this;simp[this]
 ·cases h0
theorem qDI {ρ:Ren}(L:LaysM.n171 P ρ)(he:qdN P (ρ.f 171)){g:Nat}(hn:P.globalNamed "internal/strconv.uint64pow10" = some g)(hg:(g,AV.eptr (Lib.pow10Tab.map fun _=>.int .u64) qJF 0 0)∈gl) :qx P gl (ρ.f 171) (q9 { args:=[.int .i64],h:=[] } [{ res:=.str,h:=[] }] qFL):=
 qkO he rfl fun B X ps j qs vargs hs hgl hh ha hk hT=>by
  obtain⟨n,rfl⟩:=qLn hk;simp only[qFL] at hT;split at hT
  ·rename_i hc;cases hT;have:=qCj ha;subst this;refine⟨rfl,rfl,rfl,(Any.strconv_Itoa L n hc.1 hc.2 X.w (qsu hn (by decide) (hgl _ hg).2)).mono fun e w' ⟨h1,k,os,h2⟩=>⟨_,h1,?_,.str _⟩⟩;subst h2;exact qrf _ _ _
  ·cases hT
def qGH:List PV->TR
 | [.s s]=>if s.length<=18 then (match Lib.atoi s with|some n=>.leaf (0,[.i n])|none=>.fail) else .fail
 | _=>.fail
theorem qEe {ρ:Ren}(L:Lays.n172 P ρ)(he:qdN P (ρ.f 172)) :qx P gl (ρ.f 172) (q9 { args:=[.str],h:=[] } [{ res:=.tuple [.int .i64,.any],h:=[] }] qGH):=
 qkO he rfl fun B X ps j qs vargs hs hg hh ha hk hT=>by
  obtain⟨s,rfl⟩:=qKD hk;simp only[qGH] at hT;split at hT
  ·rename_i hc;split at hT
   ·rename_i n hn;cases hT;have:=qD5 ha;subst this;refine⟨rfl,rfl,rfl,(Any.strconv_Atoi L ⟨s.toArray⟩ n (by simpa[ByteArray.size] using hc) (by simpa using hn) X.w).mono fun e w' ⟨h1,t,h2⟩=>⟨_,h1,?_,.tuple _ _ (.cons (.int _ _) (.cons (.undef _) .nil))⟩⟩;subst h2;exact qyT _ _ _
   ·cases hT
  ·cases hT
def qGf(s:qOb):List UInt8:=qyH (qpx [48,48,48,48,48,48,48,48,48] (jc s) 9) s
def qp7(w:R):Nat->List UInt8
 | 0=>[]
 | i+1=>qGf (Lib.itoa (cI w i 0))++qp7 w i
def qHI(b:Bool)(n:Int)(w:R):List UInt8:=if n=0 then [48] else (if b then [45] else [])++Lib.itoa (cI w (n-1) 0)++qp7 w (n-1).toNat
def qxc(n:Int)(w:R):Bool:=decide (0<=n)&&decide (n<=232)&&(List.range n.toNat).all fun i=>decide (0<=cI w i 0/\cI w i 0<1000000000)
def qFr:List PV->TR
 | [.b b,.i n,.r w]=>if qxc n w then .leaf (0,[.s (qHI b n w),.b b,.i n,.r w]) else .fail
 | _=>.fail
end Go.Eng

namespace Go.Proofs
open Go.Shelf
open Tryz
def lays219_ren:Go.Shelf.Ren:=⟨fun|219=>296|217=>357|225=>358|224=>359|267=>360|266=>393|314=>394|n=>n,fun|9=>9|3=>3|4=>4|5=>5|46=>451|146=>477|51=>457|n=>n,fun|1=>1|n=>n⟩
theorem lays219:Go.Proofs.Lays.n219 prog lays219_ren:={
 mixed:=by kernel_rfl
 f217:=func357.trans (congrArg some (by kernel_rfl))
 f219:=func296.trans (congrArg some (by kernel_rfl))
 f224:=func359.trans (congrArg some (by kernel_rfl))
 f225:=func358.trans (congrArg some (by kernel_rfl))
 f266:=func393.trans (congrArg some (by kernel_rfl))
 f267:=func360.trans (congrArg some (by kernel_rfl))
 f314:=func394.trans (congrArg some (by kernel_rfl))
 t3:=underlying3
 a3:=isAgg3
 z3:=sizeOf3
 v3:=zeroValue3
 t4:=underlying4
 a4:=isAgg4
 z4:=sizeOf4
 v4:=zeroValue4
 t5:=underlying5
 a5:=isAgg5
 z5:=sizeOf5
 v5:=zeroValue5
 t9:=underlying9
 a9:=isAgg9
 z9:=sizeOf9
 v9:=zeroValue9
 t46:=underlying451
 a46:=isAgg451
 z46:=sizeOf451
 v46:=zeroValue451
 t51:=underlying457
 a51:=isAgg457
 z51:=sizeOf457
 v51:=zeroValue457
 t146:=underlying477
 a146:=isAgg477
 z146:=sizeOf477
 v146:=zeroValue477
 g1:=by kernel_rfl }
def lays106_ren:Go.Shelf.Ren:=⟨fun|106=>244|213=>297|265=>361|n=>n,fun|9=>9|3=>3|n=>n,fun|n=>n⟩
theorem lays106:Go.Proofs.Lays.n106 prog lays106_ren:={
 mixed:=by kernel_rfl
 f106:=func244.trans (congrArg some (by kernel_rfl))
 f213:=func297.trans (congrArg some (by kernel_rfl))
 f265:=func361.trans (congrArg some (by kernel_rfl))
 t3:=underlying3
 a3:=isAgg3
 z3:=sizeOf3
 v3:=zeroValue3
 t9:=underlying9
 a9:=isAgg9
 z9:=sizeOf9
 v9:=zeroValue9 }
def lays160_ren:Go.Shelf.Ren:=⟨fun|160=>295|232=>351|231=>350|227=>352|234=>354|233=>353|236=>356|235=>355|228=>389|271=>392|151=>391|197=>390|120=>409|152=>408|260=>407|137=>414|119=>415|224=>359|225=>358|217=>357|266=>393|n=>n,fun|9=>9|4=>4|3=>3|5=>5|117=>446|116=>445|0=>0|124=>449|21=>21|105=>474|46=>451|119=>498|139=>501|138=>500|n=>n,fun|3=>7|4=>8|n=>n⟩
theorem lays160:Go.Proofs.Lays.n160 prog lays160_ren:={
 mixed:=by kernel_rfl
 f119:=func415.trans (congrArg some (by kernel_rfl))
 f120:=func409.trans (congrArg some (by kernel_rfl))
 f137:=func414.trans (congrArg some (by kernel_rfl))
 f151:=func391.trans (congrArg some (by kernel_rfl))
 f152:=func408.trans (congrArg some (by kernel_rfl))
 f160:=func295.trans (congrArg some (by kernel_rfl))
 f197:=func390.trans (congrArg some (by kernel_rfl))
 f217:=func357.trans (congrArg some (by kernel_rfl))
 f224:=func359.trans (congrArg some (by kernel_rfl))
 f225:=func358.trans (congrArg some (by kernel_rfl))
 f227:=func352.trans (congrArg some (by kernel_rfl))
 f228:=func389.trans (congrArg some (by kernel_rfl))
 f231:=func350.trans (congrArg some (by kernel_rfl))
 f232:=func351.trans (congrArg some (by kernel_rfl))
 f233:=func353.trans (congrArg some (by kernel_rfl))
 f234:=func354.trans (congrArg some (by kernel_rfl))
 f235:=func355.trans (congrArg some (by kernel_rfl))
 f236:=func356.trans (congrArg some (by kernel_rfl))
 f260:=func407.trans (congrArg some (by kernel_rfl))
 f266:=func393.trans (congrArg some (by kernel_rfl))
 f271:=func392.trans (congrArg some (by kernel_rfl))
 t0:=underlying0
 a0:=isAgg0
 z0:=sizeOf0
 v0:=zeroValue0
 t3:=underlying3
 a3:=isAgg3
 z3:=sizeOf3
 v3:=zeroValue3
 t4:=underlying4
 a4:=isAgg4
 z4:=sizeOf4
 v4:=zeroValue4
 t5:=underlying5
 a5:=isAgg5
 z5:=sizeOf5
 v5:=zeroValue5
 t9:=underlying9
 a9:=isAgg9
 z9:=sizeOf9
 v9:=zeroValue9
 t21:=underlying21
 a21:=isAgg21
 z21:=sizeOf21
 v21:=zeroValue21
 t46:=underlying451
 a46:=isAgg451
 z46:=sizeOf451
 v46:=zeroValue451
 t105:=underlying474
 a105:=isAgg474
 z105:=sizeOf474
 v105:=zeroValue474
 t116:=underlying445
 a116:=isAgg445
 z116:=sizeOf445
 t117:=underlying446
 a117:=isAgg446
 z117:=sizeOf446
 v117:=zeroValue446
 t119:=underlying498
 a119:=isAgg498
 z119:=sizeOf498
 t124:=underlying449
 a124:=isAgg449
 z124:=sizeOf449
 v124:=zeroValue449
 t138:=underlying500
 a138:=isAgg500
 z138:=sizeOf500
 v138:=zeroValue500
 t139:=underlying501
 a139:=isAgg501
 z139:=sizeOf501
 v139:=zeroValue501
 g3:=by kernel_rfl
 g4:=by kernel_rfl }
def lays172_ren:Go.Shelf.Ren:=⟨fun|172=>292|244=>348|245=>349|247=>384|279=>385|280=>386|281=>387|282=>388|287=>404|316=>405|171=>166|205=>406|321=>412|322=>413|243=>211|246=>263|283=>306|284=>307|285=>308|286=>309|129=>367|317=>366|318=>368|319=>369|320=>370|337=>395|338=>396|n=>n,fun|9=>9|3=>3|75=>391|76=>392|4=>4|5=>5|167=>467|37=>305|0=>0|85=>468|2=>2|168=>470|53=>400|175=>484|46=>451|210=>487|127=>465|145=>497|143=>495|21=>21|171=>399|173=>403|212=>456|51=>457|20=>20|213=>458|232=>490|233=>491|80=>440|n=>n,fun|15=>3|16=>4|17=>2|18=>5|19=>6|n=>n⟩
theorem lays172:Go.Proofs.Lays.n172 prog lays172_ren:={
 mixed:=by kernel_rfl
 f129:=func367.trans (congrArg some (by kernel_rfl))
 f171:=func166.trans (congrArg some (by kernel_rfl))
 f172:=func292.trans (congrArg some (by kernel_rfl))
 f205:=func406.trans (congrArg some (by kernel_rfl))
 f243:=func211.trans (congrArg some (by kernel_rfl))
 f244:=func348.trans (congrArg some (by kernel_rfl))
 f245:=func349.trans (congrArg some (by kernel_rfl))
 f246:=func263.trans (congrArg some (by kernel_rfl))
 f247:=func384.trans (congrArg some (by kernel_rfl))
 f279:=func385.trans (congrArg some (by kernel_rfl))
 f280:=func386.trans (congrArg some (by kernel_rfl))
 f281:=func387.trans (congrArg some (by kernel_rfl))
 f282:=func388.trans (congrArg some (by kernel_rfl))
 f283:=func306.trans (congrArg some (by kernel_rfl))
 f284:=func307.trans (congrArg some (by kernel_rfl))
 f285:=func308.trans (congrArg some (by kernel_rfl))
 f286:=func309.trans (congrArg some (by kernel_rfl))
 f287:=func404.trans (congrArg some (by kernel_rfl))
 f316:=func405.trans (congrArg some (by kernel_rfl))
 f317:=func366.trans (congrArg some (by kernel_rfl))
 f318:=func368.trans (congrArg some (by kernel_rfl))
 f319:=func369.trans (congrArg some (by kernel_rfl))
 f320:=func370.trans (congrArg some (by kernel_rfl))
 f321:=func412.trans (congrArg some (by kernel_rfl))
 f322:=func413.trans (congrArg some (by kernel_rfl))
 f337:=func395.trans (congrArg some (by kernel_rfl))
 f338:=func396.trans (congrArg some (by kernel_rfl))
 t0:=underlying0
 a0:=isAgg0
 z0:=sizeOf0
 v0:=zeroValue0
 t2:=underlying2
 a2:=isAgg2
 z2:=sizeOf2
 v2:=zeroValue2
 t3:=underlying3
 a3:=isAgg3
 z3:=sizeOf3
 v3:=zeroValue3
 t4:=underlying4
 a4:=isAgg4
 z4:=sizeOf4
 v4:=zeroValue4
 t5:=underlying5
 a5:=isAgg5
 z5:=sizeOf5
 v5:=zeroValue5
 t9:=underlying9
 a9:=isAgg9
 z9:=sizeOf9
 v9:=zeroValue9
 t20:=underlying20
 a20:=isAgg20
 z20:=sizeOf20
 v20:=zeroValue20
 t21:=underlying21
 a21:=isAgg21
 z21:=sizeOf21
 v21:=zeroValue21
 t37:=underlying305
 a37:=isAgg305
 z37:=sizeOf305
 v37:=zeroValue305
 t46:=underlying451
 a46:=isAgg451
 z46:=sizeOf451
 v46:=zeroValue451
 t51:=underlying457
 a51:=isAgg457
 z51:=sizeOf457
 v51:=zeroValue457
 t53:=underlying400
 a53:=isAgg400
 z53:=sizeOf400
 v53:=zeroValue400
 t75:=underlying391
 a75:=isAgg391
 z75:=sizeOf391
 v75:=zeroValue391
 t76:=underlying392
 a76:=isAgg392
 z76:=sizeOf392
 v76:=zeroValue392
 t85:=underlying468
 a85:=isAgg468
 z85:=sizeOf468
 v85:=zeroValue468
 t127:=underlying465
 a127:=isAgg465
 z127:=sizeOf465
 v127:=zeroValue465
 t143:=underlying495
 a143:=isAgg495
 z143:=sizeOf495
 v143:=zeroValue495
 t145:=underlying497
 a145:=isAgg497
 z145:=sizeOf497
 v145:=zeroValue497
 t167:=underlying467
 a167:=isAgg467
 z167:=sizeOf467
 v167:=zeroValue467
 t168:=underlying470
 a168:=isAgg470
 z168:=sizeOf470
 v168:=zeroValue470
 t171:=underlying399
 a171:=isAgg399
 z171:=sizeOf399
 v171:=zeroValue399
 t173:=underlying403
 a173:=isAgg403
 z173:=sizeOf403
 v173:=zeroValue403
 t175:=underlying484
 a175:=isAgg484
 z175:=sizeOf484
 v175:=zeroValue484
 t210:=underlying487
 a210:=isAgg487
 z210:=sizeOf487
 v210:=zeroValue487
 t212:=underlying456
 a212:=isAgg456
 z212:=sizeOf456
 v212:=zeroValue456
 t213:=underlying458
 a213:=isAgg458
 z213:=sizeOf458
 t232:=underlying490
 a232:=isAgg490
 z232:=sizeOf490
 v232:=zeroValue490
 t233:=underlying491
 a233:=isAgg491
 z233:=sizeOf491
 v233:=zeroValue491
 g15:=by kernel_rfl
 g16:=by kernel_rfl
 g17:=by kernel_rfl
 g18:=by kernel_rfl
 g19:=by kernel_rfl }
def lays169_ren:Go.Shelf.Ren:=⟨fun|169=>344|n=>n,fun|70=>436|9=>9|0=>0|72=>438|37=>305|127=>465|3=>3|5=>5|n=>n,fun|n=>n⟩
theorem lays169:Go.Proofs.Lays.n169 prog lays169_ren:={
 mixed:=by kernel_rfl
 f169:=func344.trans (congrArg some (by kernel_rfl))
 t0:=underlying0
 a0:=isAgg0
 z0:=sizeOf0
 v0:=zeroValue0
 t3:=underlying3
 a3:=isAgg3
 z3:=sizeOf3
 v3:=zeroValue3
 t9:=underlying9
 a9:=isAgg9
 z9:=sizeOf9
 v9:=zeroValue9
 t37:=underlying305
 a37:=isAgg305
 z37:=sizeOf305
 v37:=zeroValue305
 t70:=underlying436
 a70:=isAgg436
 z70:=sizeOf436
 v70:=zeroValue436
 t72:=underlying438
 a72:=isAgg438
 z72:=sizeOf438
 v72:=zeroValue438
 t127:=underlying465
 a127:=isAgg465
 z127:=sizeOf465
 v127:=zeroValue465 }
def laysM171_ren:Go.Shelf.Ren:=⟨fun|171=>166|243=>211|246=>263|283=>306|284=>307|285=>308|286=>309|129=>367|317=>366|318=>368|319=>369|320=>370|337=>395|338=>396|n=>n,fun|3=>3|9=>9|2=>2|4=>4|171=>399|0=>0|53=>400|37=>305|5=>5|173=>403|212=>456|51=>457|20=>20|213=>458|46=>451|232=>490|233=>491|n=>n,fun|17=>2|18=>5|19=>6|n=>n⟩
theorem laysM171:Go.Proofs.LaysM.n171 prog laysM171_ren:={
 mixed:=by kernel_rfl
 f129:=func367.trans (congrArg some (by kernel_rfl))
 f171:=func166.trans (congrArg some (by kernel_rfl))
 f243:=func211.trans (congrArg some (by kernel_rfl))
 f246:=func263.trans (congrArg some (by kernel_rfl))
 f283:=func306.trans (congrArg some (by kernel_rfl))
 f284:=func307.trans (congrArg some (by kernel_rfl))
 f285:=func308.trans (congrArg some (by kernel_rfl))
 f286:=func309.trans (congrArg some (by kernel_rfl))
 f317:=func366.trans (congrArg some (by kernel_rfl))
 f318:=func368.trans (congrArg some (by kernel_rfl))
 f319:=func369.trans (congrArg some (by kernel_rfl))
 f320:=func370.trans (congrArg some (by kernel_rfl))
 f337:=func395.trans (congrArg some (by kernel_rfl))
 f338:=func396.trans (congrArg some (by kernel_rfl))
 t0:=underlying0
 a0:=isAgg0
 z0:=sizeOf0
 v0:=zeroValue0
 t2:=underlying2
 a2:=isAgg2
 z2:=sizeOf2
 v2:=zeroValue2
 t3:=underlying3
 a3:=isAgg3
 z3:=sizeOf3
 v3:=zeroValue3
 t4:=underlying4
 a4:=isAgg4
 z4:=sizeOf4
 v4:=zeroValue4
 t5:=underlying5
 a5:=isAgg5
 z5:=sizeOf5
 v5:=zeroValue5
 t9:=underlying9
 a9:=isAgg9
 z9:=sizeOf9
 v9:=zeroValue9
 t20:=underlying20
 a20:=isAgg20
 z20:=sizeOf20
 v20:=zeroValue20
 t37:=underlying305
 a37:=isAgg305
 z37:=sizeOf305
 v37:=zeroValue305
 t46:=underlying451
 a46:=isAgg451
 z46:=sizeOf451
 v46:=zeroValue451
 t51:=underlying457
 a51:=isAgg457
 z51:=sizeOf457
 v51:=zeroValue457
 t53:=underlying400
 a53:=isAgg400
 z53:=sizeOf400
 v53:=zeroValue400
 t171:=underlying399
 a171:=isAgg399
 z171:=sizeOf399
 v171:=zeroValue399
 t173:=underlying403
 a173:=isAgg403
 z173:=sizeOf403
 v173:=zeroValue403
 t212:=underlying456
 a212:=isAgg456
 z212:=sizeOf456
 v212:=zeroValue456
 t213:=underlying458
 a213:=isAgg458
 z213:=sizeOf458
 t232:=underlying490
 a232:=isAgg490
 z232:=sizeOf490
 v232:=zeroValue490
 t233:=underlying491
 a233:=isAgg491
 z233:=sizeOf491
 v233:=zeroValue491
 g17:=by kernel_rfl
 g18:=by kernel_rfl
 g19:=by kernel_rfl
 i0:=by kernel_rfl
 i2:=by kernel_rfl
 i3:=by kernel_rfl
 i4:=by kernel_rfl
 i5:=by kernel_rfl
 i9:=by kernel_rfl
 i20:=by kernel_rfl
 i37:=by kernel_rfl
 i46:=by kernel_rfl
 i51:=by kernel_rfl
 i53:=by kernel_rfl
 i171:=by kernel_rfl
 i173:=by kernel_rfl
 i212:=by kernel_rfl
 i232:=by kernel_rfl
 i233:=by kernel_rfl
 m17:=by kernel_rfl
 m18:=by kernel_rfl
 m19:=by kernel_rfl }
end Go.Proofs

namespace Go.Eng
open Go.Shelf Go.RowKit Go.Proofs
open Tryz
set_option maxHeartbeats 2000000 in
set_option maxRecDepth 100000 in
theorem qIW(b:Nat)(w:World)(h0:w.cell? ⟨b,0,none⟩=some (.pointer (some ⟨b,0,none⟩))) :Calls prog 382 #[.pointer (some ⟨b,0,none⟩)] w fun e w'=>e=.returned (.tuple #[])/\w'=w:=by
 obtain⟨j,hj,_⟩:=qPR.1 (show (prog.info? 438).map (·.size)=some 2 by kernel_rfl)
 go_enter func382,ntmps382
 go_wp2
 rw[Lib.run_neq_ptr_same w ⟨b,0,none⟩ underlying436 hj]
 go_wp2
 go_end0
 exact⟨rfl,rfl⟩
set_option maxHeartbeats 2000000 in
set_option maxRecDepth 100000 in
theorem qER(b:Nat)(w:World)(h0:w.cell? ⟨b,0,none⟩=some (.pointer none))(hsh:w.shape? b=some (438,2))(hfz:w.frozen? ⟨b,0,none⟩=false) :Calls prog 382 #[.pointer (some ⟨b,0,none⟩)] w fun e w'=>e=.returned (.tuple #[])/\w'=w.setCell ⟨b,0,none⟩ (.pointer (some ⟨b,0,none⟩)):=by
 obtain⟨j,hj,hjs⟩:=qPR.1 (show (prog.info? 438).map (·.size)=some 2 by kernel_rfl)
 go_enter func382,ntmps382
 go_wp2
 rw[Lib.run_to_unsafe w ⟨b,0,none⟩ underlying436 underlying482 hj (by rw[hjs];decide) hsh (Nat.zero_lt_succ 1)];simp only[Result.andThen];rw[Oper.upon_value]
 go_wp2
 rw[run_callFunc_extern func403 (by kernel_rfl) (by kernel_rfl) (by kernel_rfl) (e:=Extern.AbiNoEscape.same) (by kernel_rfl)];rw[Lib.run_noEscape];simp only[Result.andThen];rw[Oper.upon_value]
 go_wp2
 rw[Lib.run_from_unsafe w ⟨b,0,none⟩ underlying482 underlying436 hj hsh (by kernel_rfl)];simp only[Result.andThen];rw[Oper.upon_value]
 go_wp2
 go_end0
 exact⟨rfl,rfl⟩
abbrev BtB(B b:Nat)(bs:List Value)(w:World):Prop:=Lib.IsBuilder 438 5 B b bs w
set_option maxHeartbeats 2000000 in
set_option maxRecDepth 100000 in
theorem qz7(B b:Nat)(bs:List Value)(w:World)(h:BtB B b bs w) :Calls prog 382 #[.pointer (some ⟨b,0,none⟩)] w fun e w'=>e=.returned (.tuple #[])/\Lib.BuilderAt 438 5 B b (.pointer (some ⟨b,0,none⟩)) bs w'/\Below B w w':=by
 rcases h with h|h
 ·refine(qER b w h.cell0 h.shape h.frozen0).mono ?_;rintro e w' ⟨rfl,rfl⟩;exact⟨rfl,h.used _,(Below.refl B w).setCell (p:=⟨b,0,none⟩) h.1 _⟩
 ·refine(qIW b w h.cell0).mono ?_;rintro e w' ⟨rfl,rfl⟩;exact⟨rfl,h,Below.refl B _⟩
set_option maxHeartbeats 2000000 in
set_option maxRecDepth 100000 in
theorem qIo(B b:Nat)(bs:List Value)(c:Int)(w:World)(h:BtB B b bs w)(hlen:bs.length+1<=140737488355328)(hBw:B<=w.heap.size) :Calls prog 342 #[.pointer (some ⟨b,0,none⟩),.int .u8 c] w fun e w'=>e=.returned .nilIface/\BtB B b (bs++[.int .u8 c]) w'/\Below B w w':=by
 obtain⟨i0,hi,hz0,hz1,hz2⟩:=info_parts (show (prog.info? 5).map (fun i=>(i.zero,i.size,i.bytes))=some (some (.int .u8 0),1,1) by kernel_rfl)
 go_enter func342,ntmps342
 go_wp2_with (go_at_call 382;refine(qz7 B b bs _ h).mono ?_)
 rintro e w1 ⟨rfl,h1,hb1⟩;obtain⟨hB,v,hbk,hown,hne⟩:=h1;have c0:w1.cell? ⟨b,0,none⟩=some (.pointer (some ⟨b,0,none⟩)):=by rw[Lib.cell_of_heap hbk];rfl
 have c1:w1.cell? ⟨b,1,none⟩=some v:=by rw[Lib.cell_of_heap hbk];rfl
 have hsz1:=hb1.size
 go_wp2_with (at_builtin;refine wpList_append_own _ rfl _ _ 305 rfl B 5 i0 (.int .u8 0) 1 1 underlying305 hi hz0 hz1 hz2 rfl (by decide) _ _ _ rfl (hown.alloc _) ⟨w1.heap.size,0,none⟩ 1 1 [.int .u8 c] rfl rfl ?c1 ?c2 ?c3 ?c4 ?c5 ?_)
 case c1=>
  intro j u hj
  match j,hj with
  | 0,hj=>simp at hj;subst hj;simp[Addr.add]
 case c2=>intro u hu;simp at hu;subst hu;rfl
 case c3=>unfold maxLen;omega
 case c4=>omega
 case c5=>simp;omega
 intro v' w2 hown' hgrow _;have hlt:b<w1.heap.size:=by
  rcases qOj b w1.heap.size with h'|h'
  ·exact h'
  ·simp[Array.getElem?_eq_none h'] at hbk
 have hb2:w2.heap[b]?=some (.cells #[.pointer (some ⟨b,0,none⟩),v] 438 (0,0)):=by rw[hgrow.block b (by simp;omega) (fun e=>hne e.symm),Lib.alloc_old w1 _ b hlt];exact hbk
 have d0:w2.cell? ⟨b,0,none⟩=some (.pointer (some ⟨b,0,none⟩)):=by rw[Lib.cell_of_heap hb2];rfl
 have d1:w2.cell? ⟨b,1,none⟩=some v:=by rw[Lib.cell_of_heap hb2];rfl
 have f1:w2.frozen? ⟨b,1,none⟩=false:=Lib.frozen_of_heap hb2 1;obtain⟨ao,n',cap,rfl⟩:∃ao n' cap,v'=.slice ao n' cap:=by
  rcases hown'.2 with⟨hv,_⟩|⟨g,cap,cur,hv,_⟩
  ·exact⟨_,_,_,hv⟩
  ·exact⟨_,_,_,hv⟩
 go_wp2
 go_ret
 refine⟨rfl,.inr ?_,?_⟩
 ·exact Lib.BuilderAt.put (T:=438) (e:=5) hB hb2 (bs':=bs++[.int .u8 c]) (by simpa using hown') (by decide)
 ·exact((hb1.alloc (by omega) _).grown hgrow (by simp;omega) (fun k hk=>(hown.lt k hk).1)).setCell (p:=⟨b,1,none⟩) hB _
set_option maxHeartbeats 2000000 in
set_option maxRecDepth 100000 in
theorem qFe(B b:Nat)(bs:List Value)(s:ByteArray)(w:World)(h:BtB B b bs w)(hlen:bs.length+s.size<=140737488355328)(hBw:B<=w.heap.size) :Calls prog 343 #[.pointer (some ⟨b,0,none⟩),.string s] w fun e w'=>e=.returned (.tuple #[.int .i64 s.size,.nilIface])/\BtB B b (bs++Lib.strCells s) w'/\Below B w w':=by
 obtain⟨i0,hi,hz0,hz1,hz2⟩:=info_parts (show (prog.info? 5).map (fun i=>(i.zero,i.size,i.bytes))=some (some (.int .u8 0),1,1) by kernel_rfl)
 go_enter func343,ntmps343
 go_wp2_with (go_at_call 382;refine(qz7 B b bs _ h).mono ?_)
 rintro e w1 ⟨rfl,h1,hb1⟩;obtain⟨hB,v,hbk,hown,hne⟩:=h1;have c0:w1.cell? ⟨b,0,none⟩=some (.pointer (some ⟨b,0,none⟩)):=by rw[Lib.cell_of_heap hbk];rfl
 have c1:w1.cell? ⟨b,1,none⟩=some v:=by rw[Lib.cell_of_heap hbk];rfl
 have hsz1:=hb1.size
 go_wp2_with (at_builtin;refine Lib.wpList_append_own_string _ rfl _ _ 305 9 rfl B 5 i0 underlying305 underlying9 hi hz0 hz1 hz2 _ _ _ rfl hown s rfl ?c3 ?c4 ?c5 ?_)
 case c3=>unfold maxLen;omega
 case c4=>omega
 case c5=>omega
 intro v' w2 hown' hgrow _;have hlt:b<w1.heap.size:=by
  rcases qOj b w1.heap.size with h'|h'
  ·exact h'
  ·simp[Array.getElem?_eq_none h'] at hbk
 have hb2:w2.heap[b]?=some (.cells #[.pointer (some ⟨b,0,none⟩),v] 438 (0,0)):=by rw[hgrow.block b hlt (fun e=>hne e.symm)];exact hbk
 have d0:w2.cell? ⟨b,0,none⟩=some (.pointer (some ⟨b,0,none⟩)):=by rw[Lib.cell_of_heap hb2];rfl
 have d1:w2.cell? ⟨b,1,none⟩=some v:=by rw[Lib.cell_of_heap hb2];rfl
 have f1:w2.frozen? ⟨b,1,none⟩=false:=Lib.frozen_of_heap hb2 1;obtain⟨ao,n',cap,rfl⟩:∃ao n' cap,v'=.slice ao n' cap:=by
  rcases hown'.2 with⟨hv,_⟩|⟨g,cap,cur,hv,_⟩
  ·exact⟨_,_,_,hv⟩
  ·exact⟨_,_,_,hv⟩
 go_wp2
 go_ret2
 refine⟨rfl,.inr ?_,?_⟩
 ·exact Lib.BuilderAt.put (T:=438) (e:=5) hB hb2 (bs':=bs++Lib.strCells s) (by simpa[Lib.strCells_length] using hown') (by decide)
 ·exact(hb1.grown hgrow (by omega) (fun k hk=>(hown.lt k hk).1)).setCell (p:=⟨b,1,none⟩) hB _
theorem qH1:Builder.Extra prog lays169_ren where
 sizeBuilder:=by kernel_rfl
 liesBuilder:=by kernel_rfl
 t5:=underlying5
 a5:=isAgg5
 z5:=sizeOf5
 v5:=zeroValue5
 infoByte:=by kernel_rfl
 cellsByte:=by kernel_rfl
 sizeByte:=by kernel_rfl
 neB5:=by decide
set_option maxHeartbeats 2000000 in
set_option maxRecDepth 100000 in
theorem qDi(B b:Nat)(l:qOb)(w:World)(h:BtB B b (Lib.byteCells l) w)(h0:l≠[]) :Calls prog 344 #[.pointer (some ⟨b,0,none⟩)] w fun e w'=>e=.returned (.string ⟨l.toArray⟩)/\Below B w w':=Any.Builder_String lays169 qH1 B b l w h h0
def qoa(f:Nat->Int):Nat->List UInt8
 | 0=>[]
 | i+1=>qGf (Lib.itoa (f i))++qoa f i
def qCW(b:Bool)(n:Nat)(f:Nat->Int):List UInt8:=if n=0 then [48] else (if b then [45] else [])++Lib.itoa (f (n-1))++qoa f (n-1)
theorem qC4 (n:Int)(h:-9223372036854775808<=n/\n<=9223372036854775807)(w:World)(ht:Lib.TabIs prog w "internal/strconv.uint64pow10" .u64 Lib.pow10Tab) :Calls prog 166 #[.int .i64 n] w fun e w'=>e=.returned (.string ⟨(Lib.itoa n).toArray⟩)/\Below w.heap.size w w':=(Any.strconv_Itoa laysM171 n h.1 h.2 w ht).mono fun e w' ⟨h1,k,os,h2⟩=>⟨h1,by subst h2;exact qrf _ _ _⟩
theorem quF{P:Program}{w w':World}{name:String}{k:IntKind}{zs:List Int}(h:Lib.TabIs P w name k zs)(hb:Below w.heap.size w w'):Lib.TabIs P w' name k zs:=by
 unfold Lib.TabIs World.var? at *;cases hg:P.globalNamed name with
 | none=>rw[hg] at h;cases h
 | some g=>
  rw[hg] at h;simp only[qOC] at h ⊢;by_cases hlt:g<w.heap.size
  ·rw[hb.block g hlt];exact h
  ·rw[Array.getElem?_eq_none (by omega)] at h;cases h
theorem qkC{w w':World}(hb:Below w.heap.size w w'){n:Nat}(hn:n<w.heap.size)(o:Nat):w'.cell? ⟨n,o,none⟩=w.cell? ⟨n,o,none⟩:=qP7 (hb.block n hn)
theorem qzi{B b:Nat}{bs:List Value}{w w':World}(h:BtB B b bs w)(hb:Below w.heap.size w w'):BtB B b bs w':=by
 have key:∀p,Lib.BuilderAt 438 5 B b p bs w->Lib.BuilderAt 438 5 B b p bs w':=by
  intro p h;have hlt:=h.lt;obtain⟨hB,v,hbk,⟨hl,hown⟩,hne⟩:=h;refine⟨hB,v,(hb.block b hlt).trans hbk,⟨hl,?_⟩,hne⟩;rcases hown with h|⟨g,cap,cur,h1,h2,h3,h4⟩
  ·exact .inl h
  ·exact .inr ⟨g,cap,cur,h1,h2,(hb.block g (qOi.1 h3).1).trans h3,h4⟩
 exact h.elim (fun x=>.inl (key _ x)) (fun x=>.inr (key _ x))
theorem qI2{B b:Nat}{bs:List Value}{w:World}(h:BtB B b bs w):BtB B b bs w.drew:=h.elim (fun x=>.inl x.drew) (fun x=>.inr x.drew)
theorem qFN:∀(k n:Nat),n<10^(k+1)->(Lib.decDigits n).length<=k+1
 | 0,n,h=>by rw[Lib.decDigits,dif_pos (by omega)];simp
 | k+1,n,h=>by
  rw[Lib.decDigits];split
  ·simp
  ·have:=qFN k (n/10) (by rw[qPQ] at h;omega);simp;omega
theorem qJb{pre l:qOb}{k:Nat}(hp:pre.length<=k)(hl:l.length<=9)(hk:k<=100000:=by omega):(Lib.byteCells pre).length+(⟨l.toArray⟩:ByteArray).size<=140737488355328:=by
 rw[Lib.byteCells_length];have:(⟨l.toArray⟩:ByteArray).size=l.length:=by simp[ByteArray.size]
 omega
theorem qCQ{x:Int}(h:0<=x/\x<1000000000):(Lib.itoa x).length<=9:=by unfold Lib.itoa;rw[if_neg (by omega)];exact qFN 8 _ (by omega)
theorem qBU{l:qOb}(h:l.length<=9):(qGf l).length=9:=by unfold qGf qyH qpx jc;simp;omega
theorem qFD{l:qOb}(h:l.length<=9):(⟨#[48,48,48,48,48,48,48,48,48]⟩:ByteArray).extract l.length 9++⟨l.toArray⟩=⟨(qGf l).toArray⟩:=by
 have key:∀k:Nat,k<=9->(⟨#[48,48,48,48,48,48,48,48,48]⟩:ByteArray).extract k 9=⟨(qpx [48,48,48,48,48,48,48,48,48] (k:Int) 9).toArray⟩:=by
  intro k hk;have:k=0\/k=1\/k=2\/k=3\/k=4\/k=5\/k=6\/k=7\/k=8\/k=9:=by omega
  rcases this with rfl|rfl|rfl|rfl|rfl|rfl|rfl|rfl|rfl|rfl<;>rfl
 rw[key _ h];unfold qGf qyH jc;apply ByteArray.ext;simp
theorem qHw(l:qOb):Lib.strCells ⟨l.toArray⟩=Lib.byteCells l:=rfl
theorem qIQ(x:Int):0<(Lib.itoa x).length:=by
 unfold Lib.itoa;split
 ·simp
 ·rw[Lib.decDigits];split<;>simp
set_option maxHeartbeats 4000000 in
set_option maxRecDepth 1000000 in
theorem qIS(n0:Nat)(b:Bool)(n:Nat)(f:Nat->Int)(w:World)(hlt:n0<w.heap.size)(h0:w.cell? ⟨n0,0,none⟩=some (.bool b))(h1:w.cell? ⟨n0,1,none⟩=some (.int .i64 (n:Int)))(hw:∀i,i<232->w.cell? ⟨n0,2+i,none⟩=some (.int .i64 (f i)))(hn:n<=232) (hf:∀i,i<n->0<=f i/\f i<1000000000) (ht:Lib.TabIs prog w "internal/strconv.uint64pow10" .u64 Lib.pow10Tab) :Calls prog 288 #[.pointer (some ⟨n0,0,none⟩)] w fun e w'=>e=.returned (.string ⟨(qCW b n f).toArray⟩)/\Below w.heap.size w w':=by
 rcases qPo n with rfl|hpos
 ·go_enter func288,ntmps288
  go_wp2
  go_ret
  exact⟨rfl,Below.refl _ _⟩
 obtain⟨m,rfl⟩:∃m,n=m+1:=⟨n-1,by omega⟩;have hne:(((m+1:Nat):Int)==0)=false:=by simp;omega
 have w1:IntKind.i64.wrap (((m+1:Nat):Int)-1)=(m:Int):=by unfold IntKind.wrap;simp[IntKind.signed,IntKind.bits];omega
 have w1':IntKind.i64.wrap (m:Int)=(m:Int):=by unfold IntKind.wrap;simp[IntKind.signed,IntKind.bits];omega
 have hi:0<=(m:Int)/\(m:Int)<232:=by omega
 have hwm:=hw m (by omega);have w2:IntKind.i64.wrap (((m+1:Nat):Int)-2)=(m:Int)-1:=by unfold IntKind.wrap;simp[IntKind.signed,IntKind.bits];omega
 have hitm:=qCQ (hf m (by omega));cases b
 case' false=>
  go_enter func288,ntmps288
  go_wp2
  have hB0:=Lib.fresh_isBuilder 438 5 w;have hb0:=(Below.refl w.heap.size w).alloc (qOe _) (.cells #[.pointer none,.slice none 0 0] 438);generalize w.alloc (.cells #[.pointer none,.slice none 0 0] 438)=W0 at *;obtain⟨pre,hpre⟩:∃pre:List UInt8,pre=if false=true then [45] else []:=⟨_,rfl⟩
  replace hB0:BtB w.heap.size w.heap.size (Lib.byteCells pre) W0:=by subst hpre;exact hB0
 case' true=>
  go_enter func288,ntmps288
  go_wp2_with (go_at_call 342;refine(qIo w.heap.size w.heap.size [] 45 _ (Lib.fresh_isBuilder 438 5 w) (by simp) (by simp)).mono ?_)
  rintro e W0 ⟨rfl,hB0,hb0⟩;replace hb0:=((Below.refl w.heap.size w).alloc (qOe _) (.cells #[.pointer none,.slice none 0 0] 438)).trans hb0;obtain⟨pre,hpre⟩:∃pre:List UInt8,pre=if true=true then [45] else []:=⟨_,rfl⟩
  replace hB0:BtB w.heap.size w.heap.size (Lib.byteCells pre) W0:=by subst hpre;exact hB0
  go_wp2
 all_goals
  have hp1:pre.length<=1:=by subst hpre;split<;>simp
  have hs0:=hb0.size;have d1:=(qkC hb0 hlt 1).trans h1;have dm:=(qkC hb0 hlt (2+m)).trans hwm
  go_region_with (first
   | (go_at_call 166;refine(qC4 (f m) (by have:=hf m (by omega);omega) _ (quF ht hb0.drew)).mono ?_;rintro e W1 ⟨rfl,b1⟩)
   | (go_at_call 343;refine(qFe w.heap.size w.heap.size _ _ _ (qzi (qI2 hB0) b1) (qJb hp1 hitm) (qOh hs0 b1.size)).mono ?_;rintro e W2 ⟨rfl,hB2,b2⟩))
  have b02:Below w.heap.size w W2:=(hb0.drew.trans (b1.mono hs0)).trans b2;have e1:=(qkC b02 hlt 1).trans h1;replace hB2:BtB w.heap.size w.heap.size (Lib.byteCells (pre++Lib.itoa (f m))) W2:=by rw[Lib.byteCells_append];exact hB2
  go_wp2
  go_loopw [4] (fun vi wr=>∃(k:Nat) (acc:qOb),vi=.int .i64 ((k:Int)-1)/\k<=m/\BtB w.heap.size w.heap.size (Lib.byteCells acc) wr/\Below w.heap.size w wr/\acc++qoa f k=pre++Lib.itoa (f m)++qoa f m/\acc.length<=10+9*(m-k)) (fun vi _=>(intOf vi+1).toNat)
  case atStart=>exact⟨m,_,by congr 1<;>omega,qOe _,hB2,b02,rfl,by simp;omega⟩
  case round=>
   obtain⟨k,acc,rfl,hkm,hI,hbw,hacc,hal⟩:=hrel;have hbs:=hbw.size;rcases qPo k with rfl|hk0
   ·go_wp2_with (go_at_call 344;refine(qDi w.heap.size w.heap.size acc _ hI ?hne).mono ?_)
    case hne=>intro h0;subst h0;have:=congrArg List.length hacc;have h9:=qIQ (f m);simp[qoa] at this;omega
    rintro e W3 ⟨rfl,b3⟩
    go_wp2
    go_ret
    refine⟨?_,hbw.trans b3⟩;simp only[qoa,qPf] at hacc;rw[hacc,hpre];simp[qCW]
   ·obtain⟨q,rfl⟩:∃q,k=q+1:=⟨k-1,by omega⟩;have x1:(((q+1:Nat):Int)-1)=(q:Int):=by omega
    have x2:(0:Int)<=(q:Int)/\(q:Int)<232:=by omega
    have x3:(q:Int).toNat=q:=qOw q;have dq:=(qkC hbw hlt (2+q)).trans (hw q (by omega));have hq9:=qCQ (hf q (by omega));rw[x1]
    go_wp2_with (go_at_call 166;refine(qC4 (f q) (by have:=hf q (by omega);omega) _ (quF ht hbw)).mono ?_)
    rintro e W3 ⟨rfl,b3⟩;clear w1 w1' w2 hi hwm hne h1 hf hw ht;have hl9:((⟨(Lib.itoa (f q)).toArray⟩:ByteArray).size:Int)<=9:=by simp[ByteArray.size];omega
    go_wp2_with (go_at_call 343;refine(qFe w.heap.size w.heap.size (Lib.byteCells acc) _ _ (qzi hI b3) ?hl (qOh hbs b3.size)).mono ?_)
    case hl=>rw[qFD hq9,Lib.byteCells_length];have:=qBU hq9;simp[ByteArray.size];omega
    rintro e W4 ⟨rfl,hB4,b4⟩;rw[qFD hq9,qHw,<-Lib.byteCells_append] at hB4
    go_wp2
    go_roundw
    case rel=>
     refine⟨q,_,by congr 1<;>omega,by omega,hB4,(hbw.trans (b3.mono hbs)).trans b4,?_,?_⟩
     ·rw[<-hacc];simp[qoa]
     ·have:=qBU hq9;simp;omega
    case measure=>simp[intOf]
theorem qCk(w:R):∀i,qp7 w i=qoa (fun i=>cI w i 0) i
 | 0=>rfl
 | i+1=>by unfold qp7 qoa;rw[qCk w i]
theorem qIr(b:Bool)(n:Nat)(w:R):qHI b (n:Int) w=qCW b n (fun i=>cI w i 0):=by
 unfold qHI qCW;by_cases h:n=0
 ·subst h;rfl
 ·rw[if_neg (by omega),if_neg h,qCk];have e:((n:Int)-1)=((n-1:Nat):Int):=by omega
  rw[e,qOw]
theorem qG2{ps:List PV}(h:ps.map PV.kind=[.b,.i,.r]):∃b n w,ps=[.b b,.i n,.r w]:=by
 match ps,h with
 | [.b b,.i n,.r w],_=>exact⟨b,n,w,rfl⟩
theorem qEl{gl:List (Nat×AV)}(hg:(2,AV.eptr (Lib.pow10Tab.map fun _=>.int .u64) qJF 0 0)∈gl) :qx prog gl 288 (q9 { args:=[.ptr 0 0],h:=[.big [.bool,.int .i64] .i64 232] } [{ res:=.str,h:=[.big [.bool,.int .i64] .i64 232] }] qFr):=
 qkO (uu func288 (by kernel_rfl) (by kernel_rfl)) rfl fun B X ps j qs vargs hs hgl hh ha hk hT=>by
  obtain⟨b,n,r,rfl⟩:=qG2 hk;simp only[qFr] at hT;split at hT
  ·rename_i hc;cases hT;unfold qxc at hc;simp only[qOr,decide_eq_true_eq,qOI,qOV] at hc;obtain⟨⟨c1,c2⟩,c3⟩:=hc;obtain⟨m,rfl⟩:∃m:Nat,n=(m:Int):=⟨n.toNat,by omega⟩;have hb0:X.h[0]?=some (.big [.bool b,.int .i64 (m:Int)] .i64 232 r):=by rw[hh];rfl
   obtain⟨n0,c,T,vs,hσ,hheap,hrep,hcl,hrl⟩:=hs.blk 0 _ hb0;have hvs:vs=[.bool b,.int .i64 (m:Int)]:=by
    cases hrep with
    | cons h t=>cases h;rw[qCj t]
   subst hvs;have hva:vargs=[.pointer (some ⟨n0,0,none⟩)]:=by
    cases ha with
    | cons h t=>
     cases t;cases h with
     | ptr _ _ n1 hb hσ2=>
      have:n1=n0:=qOO (hσ2.symm.trans hσ);rw[this]
   subst hva;have hlt:n0<X.w.heap.size:=(qOi.1 hheap).1;have hcell:∀o,X.w.cell? ⟨n0,o,none⟩=c[o]?:=fun o=>by unfold World.cell?;simp only[hheap];rfl
   have g0:X.w.cell? ⟨n0,0,none⟩=some (.bool b):=by rw[hcell,<-qQb,hcl];rfl
   have g1:X.w.cell? ⟨n0,1,none⟩=some (.int .i64 (m:Int)):=by rw[hcell,<-qQb,hcl];rfl
   have gw:∀i,i<232->X.w.cell? ⟨n0,2+i,none⟩=some (.int .i64 (cI r (i:Int) 0)):=fun i hi=>by rw[hcell];exact qyq (vs:=[.bool b,.int .i64 (m:Int)]) hcl (by omega)
   refine⟨rfl,rfl,rfl,?_⟩;have hT:=qsu (k:=.u64) (zs:=Lib.pow10Tab) (show prog.globalNamed "internal/strconv.uint64pow10" = some 2 by kernel_rfl) (by decide) (hgl _ hg).2;refine(qIS n0 b m (fun i=>cI r (i:Int) 0) X.w hlt g0 g1 gw (by omega) (fun i hi=>c3 i (by omega)) hT).mono fun e w' ⟨k1,k2⟩=>⟨_,k1,k2,?_⟩;rw[<-qIr];exact .str _
  ·cases hT
end Go.Eng

namespace Go.Eng
open Go.Shelf Go.RowKit Go.Lib Go.Proofs
def qCH:FIn:=⟨[(.imm [(.int .i64)])],[]⟩
def qzM(e:TypeId):List FOut:=[⟨(.vec 0),[.vec e [(.int .i64)]],none⟩]
def qFj:List PV->TR
 | [.r x]=>.br (ile (qg x) 17592186044416) (.leaf (0,[.r x])) .fail
 | _=>.fail
theorem qEp{args:List AV}{h:List Blk}{ps:List PV}(hp:qCH.take args h=some ps):∃l,(args=[.imm [.int .i64] l]\/(args=[.nils]/\l=[]))/\h=[]/\ps=[.r l]:=by
 unfold FIn.take qCH at hp;obtain⟨x,y,g1,g2,rfl⟩:=q12 hp;have hh:h=[]/\y=[]:=by
  cases h with
  | nil=>simp only[BP.takeL] at g2;cases g2;exact⟨rfl,rfl⟩
  | cons b t=>simp only[BP.takeL] at g2;cases g2
 obtain⟨rfl,rfl⟩:=hh;cases args with
 | nil=>simp only[AP.takeL] at g1;cases g1
 | cons a t=>
  simp only[AP.takeL] at g1;obtain⟨x1,x2,q1,q2,rfl⟩:=q12 g1;cases t with
  | cons b t=>simp only[AP.takeL] at q2;cases q2
  | nil=>
   simp only[AP.takeL] at q2;cases q2;cases a with
   | imm sh l=>
    simp only[AP.take] at q1;split at q1
    ·rename_i he;cases q1;obtain rfl:=Sh.beqL_eq _ _ he;exact⟨l,.inl rfl,rfl,rfl⟩
    ·cases q1
   | nils=>
    simp only[AP.take] at q1;cases q1;exact⟨[],.inr ⟨rfl,rfl⟩,rfl,rfl⟩
   | _=>exact absurd q1 (by simp[AP.take])
theorem qwz(e:TypeId){T:List PV->TR}{x y:R}(h:(T [.r x]).run=some (0,[.r y])){r:AV×List Blk}:(qGD (T [.r x]) (qzM e) 0).run=some r↔r=(.vec 0,[.vec e [.int .i64] y]):=by
 have h1:(qGD (T [.r x]) (qzM e) 0).run=some ((.vec 0,[.vec e [.int .i64] (gR (T [.r x]) 0)]):AV×List Blk):=rfl;have h2:gR (T [.r x]) 0=y:=by unfold gR pR;rw[h];rfl
 rw[h1,h2];constructor
 ·intro q;cases q;rfl
 ·intro q;rw[q]
theorem qE9{P:Program}{ρ:Ren}(L:SlLaysN.n41 P ρ){gl:List (Nat×AV)}{T:List PV->TR}(h0:qx P gl (ρ.f 41) (q9 qCH (qzM (ρ.t 23)) T))(hT:∀x,0<qg x->qg x<=17592186044416->(T [.r x]).run=some (0,[.r x])):qx P gl (ρ.f 41) (q9 qCH (qzM (ρ.t 23)) qFj):=by
 refine⟨h0.1,fun B X args vargs r hs hen hgl ha hr=>?_⟩;obtain⟨ps,j,qs,h1,h2,h3⟩:=qoB hr;obtain⟨l,hargs,hX,rfl⟩:=qEp h1;have h2':Tree.run (Tree.br (ile (qg l) 17592186044416) (.leaf ((0,[PV.r l]):Nat×List PV)) .fail)=some (j,qs):=h2;have g1:ile (qg l) 17592186044416=true:=by
  cases hb:ile (qg l) 17592186044416 with
  | true=>rfl
  | false=>rw[hb] at h2';cases h2'
 have hle:qg l<=17592186044416:=of_decide_eq_true g1;have hrr:=(qwz (ρ.t 23) (T:=qFj) (x:=l) (y:=l) (by show Tree.run (.br (ile (qg l) 17592186044416) (.leaf (0,[PV.r l])) .fail)=_;rw[show ile (qg l) 17592186044416=true from g1];rfl)).1 h3;by_cases hpos:0<qg l
 ·refine h0.2 B X _ vargs r hs hen hgl ha ?_;have hrun:=hT l hpos hle;have hok:okR (T [.r l])=true:=by unfold okR;rw[hrun];rfl
  unfold q9;rw[h1];show Tree.run (.br (okR (T [.r l])) (qGD (T [.r l]) (qzM (ρ.t 23)) 0) .fail)=_;rw[hok];exact(qwz (ρ.t 23) hrun).2 hrr
 ·have hl:l=[]:=qPO (by unfold qg at hpos;omega);subst hl;subst hrr;have hv:∃v,vargs=[v]/\qh9 X.w X.M [.int .i64] [] v:=by
   rcases hargs with rfl|⟨rfl,_⟩
   ·cases ha with
    | cons hv ht=>
     cases ht;cases hv with
     | imm _ _ v himm=>exact⟨_,rfl,himm⟩
   ·cases ha with
    | cons hv ht=>
     cases ht;cases hv;exact⟨_,rfl,.inl ⟨rfl,rfl⟩⟩
  obtain⟨v,rfl,himm⟩:=hv
  ·rcases himm with⟨rfl,_⟩|⟨a,cap,rfl,_⟩
   ·refine(AnyG.slices_Clone_int_nil L 0 0 X.w).mono fun x w' ⟨e1,e2⟩=>?_;subst e2;have hpw:=PushW.same X;refine⟨.slice none 0 0,X.pushW (.vec (ρ.t 23) [.int .i64] []) none X.w,e1,rfl,?_,by show X.h++_=_;rw[hX];rfl,hs.push hpw (.inl ⟨by simp[Ctx.pushW],rfl⟩),rfl⟩;have e0:(0:Nat)=X.h.length:=by rw[hX];rfl
    show Rep _ (.vec 0) _;rw[e0];exact .vec _ _ _ _ (by simp[Ctx.pushW]) fun sh' m' _=>by unfold qyv;simp[Ctx.pushW,hX]
   ·refine(AnyG.slices_Clone_int_zero L a cap X.w).mono fun x w' ⟨v,e1,e2,e3,e4⟩=>?_;rcases e2.2 with⟨q,_⟩|⟨g,c2,cur,q1,q2,q3,q4,q5,q6,q7⟩
    ·exact absurd q e3
    ·have hpw:PushW X (some g) w':=⟨fun m hm=>e4.block m hm,e4.size,e4.os,e4.tape,e4.output,fun m h=>by cases h;exact q2⟩;have hk:jw (X.pushW (.vec (ρ.t 23) [.int .i64] []) (some g) w') X.h.length (.vec (ρ.t 23) [.int .i64] []):=
      .inr ⟨g,cur,by simp[Ctx.pushW],q3,fun r j hj hr=>absurd hr (qQ5 r)⟩
     refine⟨v,X.pushW (.vec (ρ.t 23) [.int .i64] []) (some g) w',e1,rfl,?_,by show X.h++_=_;rw[hX];rfl,hs.push hpw hk,rfl⟩;have e0:(0:Nat)=X.h.length:=by rw[hX];rfl
     show Rep _ (.vec 0) _;rw[e0,q1];exact qtP (l:=[]) (qPz _) q5 q3 (by rw[q6];rfl)
theorem qHW{T:List PV->TR}(h:∀x:R,T [.r x]=.br (ilt 0 (qg x)) (.br (ile ((qg [])+(qg x)) 17592186044416) (.leaf (0,[(.r (yB [] x))])) .fail) .fail)(x:R)(h1:0<qg x)(h2:qg x<=17592186044416) :(T [.r x]).run=some (0,[.r x]):=by have e1:ilt 0 (qg x)=true:=decide_eq_true h1;have e2:ile ((qg [])+(qg x)) 17592186044416=true:=decide_eq_true (by have:qg ([]:R)=0:=rfl;rw[this,Int.zero_add];exact h2);rw[h,e1,e2];rfl
end Go.Eng

namespace Go.Eng
open Go.RowKit
variable {P:Program}{a:Act}{o:Oper}{v:Value}{w:World}{w':World}
theorem qGL {K:Act->World->Prop}{Q:Exit->Act->World->Prop}{E:Prop}(hg:o.guard=none){y:Nat->Option Bool}(h:Oper.wp P o a w K Q) :if Region.wanted o y=true then Oper.wp P o a w K Q else E:=by
 have hw:Region.wanted o y=true:=by simp[Region.wanted,hg]
 rw[if_pos hw];exact h
theorem qts {ops:Array Oper}{K:Act->World->Prop}{Q:Exit->Act->World->Prop}{E:Prop}(hg:o.guard=none) (s x:Operand) (t:TypeId) (ho:o.op=.call { callee:=.builtin .append,args:=#[s,x],argTypes:=#[t,t] })(base:Nat) (e:TypeId) (i:TypeInfo) (z:Value) (size bytes:Nat) (ht:P.underlying t=some (.slice e)) (hi:P.info? e=some i) (hz:i.zero=some z)(hsize:i.size=size) (hby:i.bytes=bytes) (hzs:z.cells.size=size) (hsz:0<size)(v:Value) (n:Nat) (xs:List Value) (hs:a.eval s=v) (hown:w.ownsRow base e size v n xs)(ad:Addr) (m c:Nat) (news:List Value) (hx:a.eval x=.slice (some ad) m c) (hl:news.length=m*size) (hnews:∀j u,news[j]?=some u->w.cell? (ad.add j)=some u) (h1:∀u∈news,u.oneCell'=true)(h63:n+m<=maxLen) (hbytes:(n+m)*bytes<=140737488355328) (hbase:base<=w.heap.size)(h:∀v' w',w'.ownsRow base e size v' (n+m) (xs++news)->w.grownBy w' v.ownBlock->(v'=.slice none 0 0↔v=.slice none 0 0/\m=0)->K (a.put o.dst v') w') :if Region.wanted o (yielded ops a.tmps)=true then Oper.wp P o a w K Q else E:=by
 have hw:Region.wanted o (yielded ops a.tmps)=true:=by simp[Region.wanted,hg]
 rw[if_pos hw];exact wp_append_own w s x t ho base e i z size bytes ht hi hz hsize hby hzs hsz v n xs hs hown ad m c news hx hl hnews h1 h63 hbytes hbase h
theorem qCc {K:Act->World->Prop}{Q:Exit->Act->World->Prop}(f:FuncId)(caps:Array Value)(hen:qdN P f)(x:Operand)(az:Array Operand)(ts:Array TypeId)(ho:o.op=.call { callee:=.value x,args:=az,argTypes:=ts }) (hx:a.eval x=.func (.func f) #[] caps) (args:Array Value) (has:az.map a.eval++caps=args) {R:Ending->World->Prop} (hc:Calls P f args w R)(h:∀e w',R e w'->∃v,e=.returned v/\K (a.put o.dst v) w'):Oper.wp P o a w K Q:=by
 have hr:(execOp a.eval o).run P w=.ok (.enter f args) w:=by subst has;unfold execOp;simp only[ho,resolve,Deferred.ofValue,invoke,qOg,qOH,qOl,hx,Array.empty_append];exact hen _ _
 unfold Oper.wp;rw[hr,Oper.upon_enter];exact hc.mono fun e w' hR=>by obtain⟨v,rfl,hK⟩:=h e w' hR;exact hK
theorem qHL {ops:Array Oper}{K:Act->World->Prop}{Q:Exit->Act->World->Prop}{E:Prop}(hg:o.guard=none)(f:FuncId)(caps:Array Value)(hen:qdN P f)(x:Operand)(az:Array Operand)(ts:Array TypeId)(ho:o.op=.call { callee:=.value x,args:=az,argTypes:=ts }) (hx:a.eval x=.func (.func f) #[] caps) (args:Array Value) (has:az.map a.eval++caps=args) {R:Ending->World->Prop} (hc:Calls P f args w R)(h:∀e w',R e w'->∃v,e=.returned v/\K (a.put o.dst v) w'):if Region.wanted o (yielded ops a.tmps)=true then Oper.wp P o a w K Q else E:=by
 have hw:Region.wanted o (yielded ops a.tmps)=true:=by simp[Region.wanted,hg]
 rw[if_pos hw];exact qCc f caps hen x az ts ho hx args has hc h
theorem qGJ {ad:Addr}{u:Value}(h:w'.cell? ad=some u):∀(j:Nat) (v:Value),[u][j]?=some v->w'.cell? (ad.add j)=some v:=by
 intro j v hj
 match j,hj with
 | 0,hj=>simp at hj;subst hj;simpa[Addr.add] using h
theorem qxb (w:World)(u:Value)(e:TypeId):(w.alloc (.cells #[u] e)).cell? ⟨w.heap.size,0,none⟩=some u:=by rw[cell_of_row (w.alloc (.cells #[u] e)) w.heap.size 0 #[u] e (0,0) (heap_alloc_new w _)];rfl
theorem q7w {B:Nat}{e:TypeId}{z n:Nat}{xs:List Value}(h:w.ownsRow B e z v n xs):∃ao n' cap,v=.slice ao n' cap:=by
 rcases h.2 with⟨hv,_⟩|⟨g,cap,cur,hv,_⟩
 ·exact⟨_,_,_,hv⟩
 ·exact⟨_,_,_,hv⟩
theorem qCP {l:List Bs}:∀u∈l.map q0l,u.oneCell'=true:=fun u hu=>by obtain⟨x,_,rfl⟩:=qOP.1 hu;rfl
structure MSt (B m q:Nat) (tM tE:TypeId) (w0 w:World) (r c:Nat) (v:Value) (xs:List Bs):Prop where
 bm:B<=m
 st:w.heap[m]?=some (.cells #[qoZ r,qoZ c,v] tM (0,0))
 res:w.heap[q]?=some (.cells #[qoZ 0,qoZ 0,.slice none 0 0] tM (0,0))
 mq:m≠q
 own:w.ownsRow B tE 1 v xs.length (xs.map q0l)
 ne:tM≠tE
 below:Below B w0 w
section
variable {B m q:Nat} {tM tE:TypeId} {w0 w:World} {r c:Nat} {v:Value} {xs:List Bs}
theorem MSt.lt (h:MSt B m q tM tE w0 w r c v xs):m<w.heap.size:=(qOi.1 h.st).1
theorem MSt.cell (h:MSt B m q tM tE w0 w r c v xs):w.cell? ⟨m,0,none⟩=some (qoZ r)/\w.cell? ⟨m,1,none⟩=some (qoZ c)/\w.cell? ⟨m,2,none⟩=some v:=by refine⟨?_,?_,?_⟩<;>rw[cell_of_row w m _ _ tM (0,0) h.st]<;>rfl
theorem MSt.cellq (h:MSt B m q tM tE w0 w r c v xs):w.cell? ⟨q,0,none⟩=some (qoZ 0)/\w.cell? ⟨q,1,none⟩=some (qoZ 0)/\w.cell? ⟨q,2,none⟩=some (.slice none 0 0):=by refine⟨?_,?_,?_⟩<;>rw[cell_of_row w q _ _ tM (0,0) h.res]<;>rfl
theorem MSt.free (h:MSt B m q tM tE w0 w r c v xs)(o:Nat):w.frozen? ⟨m,o,none⟩=false:=frozen_of_row w m o _ tM h.st
theorem MSt.freeq (h:MSt B m q tM tE w0 w r c v xs)(o:Nat):w.frozen? ⟨q,o,none⟩=false:=frozen_of_row w q o _ tM h.res
theorem MSt.grow (h:MSt B m q tM tE w0 w r c v xs)(hb:Below w.heap.size w w')(hB:B<=w.heap.size):MSt B m q tM tE w0 w' r c v xs:=⟨h.bm,by rw[hb.block m h.lt];exact h.st,by rw[hb.block q (qOi.1 h.res).1];exact h.res,h.mq,q1a h.own hb,h.ne,h.below.trans (hb.mono hB)⟩
theorem MSt.hB (h:MSt B m q tM tE w0 w r c v xs)(h0:B<=w0.heap.size):B<=w.heap.size:=qOh h0 h.below.size
theorem MSt.keep (h:MSt B m q tM tE w0 w r c v xs)(hg:w.grownBy w' v.ownBlock):w'.heap[m]?=some (.cells #[qoZ r,qoZ c,v] tM (0,0))/\w'.heap[q]?=some (.cells #[qoZ 0,qoZ 0,.slice none 0 0] tM (0,0)):=by
 have key:∀(b:Nat) (cs:Array Value),w.heap[b]?=some (Obj.cells cs tM (0,0))->w'.heap[b]?=some (Obj.cells cs tM (0,0)):=fun b cs hb=>by rw[hg.block b (qOi.1 hb).1 (fun hv=>by obtain⟨c2,hc2⟩:=zl h.own hv.symm;exact qdt hb hc2 h.ne rfl)];exact hb
 exact⟨key _ _ h.st,key _ _ h.res⟩
theorem MSt.keepCell (h:MSt B m q tM tE w0 w r c v xs)(hg:w.grownBy w' v.ownBlock):w'.cell? ⟨m,2,none⟩=some v/\w'.frozen? ⟨m,2,none⟩=false:=⟨by rw[cell_of_row w' m _ _ tM (0,0) (h.keep hg).1];rfl,frozen_of_row w' m _ _ tM (h.keep hg).1⟩
theorem MSt.app (h:MSt B m q tM tE w0 w r c v xs){v':Value}{ys:List Bs}(hg:w.grownBy w' v.ownBlock)(hB:B<=w.heap.size)(ho:w'.ownsRow B tE 1 v' ys.length (ys.map q0l)) :MSt B m q tM tE w0 (w'.setCell ⟨m,2,none⟩ v') r c v' ys:=by obtain⟨hm,hq⟩:=h.keep hg;refine⟨h.bm,by rw[heap_setCell_same w' m 2 _ tM _ hm];rfl,by rw[heap_setCell_other w' ⟨m,2,none⟩ q _ h.mq.symm];exact hq,h.mq,qz ho (fun hv=>?_) _,h.ne,(h.below.grown hg hB (fun k hk=>(h.own.lt k hk).1)).setCell h.bm v'⟩;obtain⟨c1,hc1⟩:=zl ho hv;exact qdt hm hc1 h.ne rfl
end
theorem MSt.fin {B m q:Nat}{tM tE:TypeId}{w0 w:World}{r c:Nat}{xs:List Bs}(h:MSt B m q tM tE w0 w r c v xs)(hq:B<=q)(x y z:Value) :Below B w0 (((w.setCell ⟨q,0,none⟩ x).setCell ⟨q,1,none⟩ y).setCell ⟨q,2,none⟩ z)/\(((w.setCell ⟨q,0,none⟩ x).setCell ⟨q,1,none⟩ y).setCell ⟨q,2,none⟩ z).ownsRow B tE 1 v xs.length (xs.map q0l):=by
 have hn:v.ownBlock≠some q:=fun hv=>by obtain⟨c1,hc1⟩:=zl h.own hv;exact qdt h.res hc1 h.ne rfl
 exact⟨((h.below.setCell hq x).setCell hq y).setCell hq z,qz (qz (qz h.own hn x) hn y) hn z⟩
theorem jo (w:World)(o:Obj):(w.alloc o).heap.size=w.heap.size+1:=by show (w.heap.push o).size=_;rw[Array.size_push]
theorem qlZ (w:World)(o o':Obj):((w.alloc o).alloc o').heap[w.heap.size]?=some o:=by show ((w.alloc o).heap.push o')[w.heap.size]?=_;rw[Array.getElem?_push_lt (by rw[jo];omega)];have:=heap_alloc_new w o;rw[qPP (by rw[jo];omega)] at this;exact this
theorem MSt.start (w:World)(tM tE:TypeId)(hne:tM≠tE)(r c:Nat)(o:Obj)(ho:o=.cells #[qoZ 0,qoZ 0,.slice none 0 0] tM)(o':Obj)(ho':o'=.cells #[qoZ r,qoZ c,.slice none 0 0] tM) :MSt w.heap.size (w.heap.size+1) w.heap.size tM tE w ((w.alloc o).alloc o') r c (.slice none 0 0) []:=by
 subst ho;subst ho';have h1:(w.alloc (.cells #[qoZ 0,qoZ 0,.slice none 0 0] tM)).heap.size=w.heap.size+1:=jo _ _;refine⟨by omega,?_,?_,by omega,World.ownsRow_nil _ _ _ _,hne,((Below.refl w.heap.size w).alloc (qOe _) _).alloc (by omega) _⟩
 ·rw[<-h1];exact heap_alloc_new _ _
 ·show ((w.alloc _).heap.push _)[w.heap.size]?=_;rw[Array.getElem?_push_lt (by omega)];have:=heap_alloc_new w (.cells #[qoZ 0,qoZ 0,.slice none 0 0] tM);rw[qPP (by omega)] at this;exact this
def mkL(F:Nat->Nat->Bs)(c:Nat):Nat->List Bs
 | 0=>[]
 | i+1=>mkL F c i++(List.range c).map (F i)
theorem qkm(F:Nat->Nat->Bs)(c:Nat):∀i,(mkL F c i).length=i*c
 | 0=>by simp[mkL]
 | i+1=>by rw[mkL,qOz,qkm F c i];simp[qOy]
theorem qAk(F:Nat->Nat->Bs)(c:Nat):∀(n i k:Nat),i<n->k<c->(mkL F c n)[i*c+k]?=some (F i k)
 | 0,i,k,h,_=>by omega
 | n+1,i,k,h,hk=>by
  rw[mkL];by_cases hi:i<n
  ·have:i*c+k<n*c:=by have:=qOE c (show i+1<=n by omega);rw[qOy] at this;omega
   rw[qOn (by rw[qkm];exact this)];exact qAk F c n i k hi hk
  ·have:i=n:=by omega
   subst this;rw[qOv (by rw[qkm];omega),qkm,show i*c+k-i*c=k by omega];simp[hk]
theorem Sch.addRow {B S:Nat}{tS tR tE tI:TypeId}{N C:Nat}{ek K vR vL:Value}{H:List Value}{Z:Mx}{det:Bs}{lead:List Nat}(h:Sch B S tS tR tE tI N C ek K w vR vL H Z det lead){w':World} {vR' hd:Value} {row:List Bs} (hr:w.ownsRow B tE 1 hd C (row.map q0l)) (hnew:∀(j:Nat) (a:Value) (b:Nat),H[j]?=some a->a.ownBlock=some b->hd.ownBlock≠some b) (hg:w.grownBy w' vR.ownBlock) (ho:w'.ownsRow B tR 1 vR' (N+1) (H++[hd])) :Sch B S tS tR tE tI (N+1) C ek K (w'.setCell ⟨S,1,none⟩ vR') vR' vL (H++[hd]) (Z++[row]) det lead:=by
 have hrl:row.length=C:=by have:=hr.1;rw[qOm] at this;omega
 have hb:∀b,(∃(cur:Array Value) (e:TypeId),w.heap[b]?=some (Obj.cells cur e (0,0))/\e≠tR)->w'.heap[b]?=w.heap[b]?:=fun b ⟨cur,e,hc,hne⟩=>hg.block b (qOi.1 hc).1 (fun hv=>by obtain⟨c2,hc2⟩:=zl h.outer hv.symm;exact qdt hc hc2 hne rfl);have hS:w'.heap[S]?=some (.cells #[ek,vR,K,vL,q0l det] tS (0,0)):=by rw[hb S ⟨_,_,h.st,h.ne.1⟩];exact h.st
 have keep:∀{e:TypeId} {n:Nat} {a:Value} {xs:List Value},e≠tR->tS≠e->w.ownsRow B e 1 a n xs->(w'.setCell ⟨S,1,none⟩ vR').ownsRow B e 1 a n xs:=by
  intro e n a xs hne hSe hr;have h1:w'.ownsRow B e 1 a n xs:=hr.kept hg (by
   cases hv:a.ownBlock with
   | none=>exact .inl rfl
   | some b=>
    right;intro he;obtain⟨c1,hc1⟩:=zl hr hv;obtain⟨c2,hc2⟩:=zl h.outer he.symm;exact qdt hc1 hc2 hne rfl)
  refine qz h1 (fun hv=>?_) _;obtain⟨c1,hc1⟩:=zl h1 hv;exact qdt hS hc1 hSe rfl
 have hl:=h.hlen;have hz:=h.dim.n;have key:∀j a,(H++[hd])[j]?=some a->(j<N/\H[j]?=some a/\(Z++[row])[j]?=Z[j]?)\/(j=N/\a=hd/\(Z++[row])[j]?=some row):=by
  intro j a hj;by_cases hjn:j<N
  ·rw[qOn (by omega)] at hj;exact .inl ⟨hjn,hj,qOn (by omega)⟩
  ·have:j<(H++[hd]).length:=(qPK.1 hj).1;rw[qOz,List.length_singleton] at this;have:j=N:=by omega
   subst this;rw[qOv (by omega),show j-H.length=0 by omega] at hj;simp at hj;exact .inr ⟨rfl,hj.symm,by rw[qOv (by omega),show j-Z.length=0 by omega];rfl⟩
 refine⟨h.bs,by rw[heap_setCell_same w' S 1 _ tS _ hS];rfl,⟨by simp[hz],fun r hr'=>?_⟩,qz ho (fun hv=>?_) _,fun j a r e1 e2=>?_,keep h.ne.2.2.2.2.1.symm h.ne.2.2.1 h.own,fun i j a a' b hij e1 e2 e3=>?_,h.ne⟩
 ·rcases qOB.1 hr' with hr'|hr'
  ·exact h.dim.c r hr'
  ·rw[qOF.1 hr'];exact hrl
 ·obtain⟨c1,hc1⟩:=zl ho hv;exact qdt hS hc1 h.ne.1 rfl
 ·rcases key j a e1 with⟨q1,q2,q3⟩|⟨_,q2,q3⟩
  ·rw[q3] at e2;exact keep h.ne.2.2.2.1.symm h.ne.2.1 (h.inner j a r q2 e2)
  ·rw[q3] at e2;cases e2;subst q2;exact keep h.ne.2.2.2.1.symm h.ne.2.1 hr
 ·rcases key i a e1 with⟨q1,q2,_⟩|⟨q1,q2,_⟩
  ·rcases key j a' e2 with⟨p1,p2,_⟩|⟨p1,p2,_⟩
   ·exact h.ap i j a a' b hij q2 p2 e3
   ·subst p2;exact hnew i a b q2 e3
  ·rcases key j a' e2 with⟨p1,p2,_⟩|⟨p1,p2,_⟩
   ·subst q2;intro hb';exact hnew j a' b p2 hb' e3
   ·omega
theorem q6f {B B':Nat}{e:TypeId}{z n:Nat}{xs:List Value}(h:w.ownsRow B e z v n xs)(hB:B'<=B):w.ownsRow B' e z v n xs:=by
 refine⟨h.1,?_⟩;rcases h.2 with h|⟨g,c,cur,a1,a2,a3⟩
 ·exact .inl h
 ·exact .inr ⟨g,c,cur,a1,by omega,a3⟩
theorem Sch.start {B S:Nat}{tS tR tE tI:TypeId}{C:Nat}{ek K:Value}{det:Bs}(bs:B<=S)(st:w.heap[S]?=some (.cells #[ek,.slice none 0 0,K,.slice none 0 0,q0l det] tS (0,0)))(ne:tS≠tR/\tS≠tE/\tS≠tI/\tR≠tE/\tR≠tI/\tE≠tI):Sch B S tS tR tE tI 0 C ek K w (.slice none 0 0) (.slice none 0 0) [] [] det []:=⟨bs,st,⟨rfl,fun r hr=>(by cases hr)⟩,World.ownsRow_nil _ _ _ _,fun j h r e1 _=>(by simp at e1),World.ownsRow_nil _ _ _ _,fun i j h h' b _ e1 _ _=>(by simp at e1),ne⟩
theorem Sch.heads {B S:Nat}{tS tR tE tI:TypeId}{N C:Nat}{ek K vR vL:Value}{H:List Value}{Z:Mx}{det:Bs}{lead:List Nat}(h:Sch B S tS tR tE tI N C ek K w vR vL H Z det lead){w':World} {e:TypeId} {z n:Nat} {hd:Value} {xs:List Value} (ho:w'.ownsRow w.heap.size e z hd n xs):∀(j:Nat) (a:Value) (b:Nat),H[j]?=some a->a.ownBlock=some b->hd.ownBlock≠some b:=by
 intro j a b hj ha hb;have hjN:j<N:=by have:=(qPK.1 hj).1;rw[h.hlen] at this;exact this
 obtain⟨hd',r,e1,_,e3⟩:=h.hrow hjN;rw[hj] at e1;cases e1;have:=e3.lt b ha;have:=ho.lt b hb;omega
theorem qCq {w w':World}{B:Nat}{t tR:TypeId}{z n b:Nat}{xs:List Value}{cs:Array Value}(ho:w.ownsRow B tR z v n xs)(hb:w.heap[b]?=some (.cells cs t (0,0)))(hne:t≠tR)(hg:w.grownBy w' v.ownBlock):w'.heap[b]?=some (.cells cs t (0,0)):=by rw[hg.block b (qOi.1 hb).1 (fun hv=>by obtain⟨c2,hc2⟩:=zl ho hv.symm;exact qdt hb hc2 hne rfl)];exact hb
theorem q6r {b:Nat}{x y z:Value}{t:TypeId}(h:w.heap[b]?=some (.cells #[x,y,z] t (0,0))):w.cell? ⟨b,0,none⟩=some x/\w.cell? ⟨b,1,none⟩=some y/\w.cell? ⟨b,2,none⟩=some z:=by refine⟨?_,?_,?_⟩<;>rw[cell_of_row w b _ _ t (0,0) h]<;>rfl
theorem Sch.rowCell {B S:Nat}{tS tR tE tI:TypeId}{N C:Nat}{ek K vR vL:Value}{H:List Value}{Z:Mx}{det:Bs}{lead:List Nat}(h:Sch B S tS tR tE tI N C ek K w vR vL H Z det lead)(hg:w.grownBy w' vR.ownBlock) :w'.cell? ⟨S,1,none⟩=some vR/\w'.frozen? ⟨S,1,none⟩=false:=by have hS:=qCq h.outer h.st h.ne.1 hg;exact⟨by rw[cell_of_row w' S 1 _ tS (0,0) hS];rfl,frozen_of_row w' S 1 _ tS hS⟩
end Go.Eng

namespace Go.Eng
open Go.RowKit Go.Proofs
open Tryz
theorem qot{n:Int}(h:-9223372036854775808<=n/\n<=9223372036854775807):wrap64 n=n:=by unfold wrap64;omega
set_option maxHeartbeats 2000000 in
set_option maxRecDepth 100000 in
theorem qND(i k:Nat)(_:i<=1000)(hk:k<=1000)(w:World) :Calls prog 377 #[.int .i64 i,.int .i64 k] w fun e w'=>e=.returned (q0l (if i=k then [49] else [48]))/\w'=w:=by
 have hs:q0l (if i=k then [49] else [48])=if i=k then .string ⟨#[49]⟩ else .string ⟨#[48]⟩:=by split<;>rfl
 rw[hs]
 go_enter func377,ntmps377
 by_cases h:i=k
 ·subst h
  go_wp2
  go_ret
  exact⟨rfl,rfl⟩
 ·have hb:((i:Int)==(k:Int))=false:=by simp;omega
  go_wp2
  go_ret
  exact⟨rfl,rfl⟩
set_option maxHeartbeats 2000000 in
set_option maxRecDepth 100000 in
theorem qNJ(b5 b1 g L cap i n:Nat)(w:World)(h5:w.cell? ⟨b5,2,none⟩=some (.slice (some ⟨g,0,none⟩) L cap))(h1:w.cell? ⟨b1,0,none⟩=some (qoZ n))(hi:i<=1000)(hn:0<n)(hn2:n<=1000)(hL:(i+1)*n<=L)(hc:L<=cap) :Calls prog 331 #[.int .i64 i,.pointer (some ⟨b5,0,none⟩),.pointer (some ⟨b1,0,none⟩)] w fun e w'=>e=.returned (.slice (some ⟨g,i*n,none⟩) n (cap-i*n))/\w'=w:=by
 unfold qoZ at h1;obtain⟨lo,hlo⟩:∃lo,lo=i*n:=⟨_,rfl⟩;have hm:i*n<=1000*1000:=qOS hi hn2;have hhi:(i+1)*n=lo+n:=by rw[hlo,qOy,qPX]
 have e1:wrap64 ((i:Int)*(n:Int))=(lo:Int):=by rw[hlo,qot (by rw[<-qPC];omega)];simp
 have e2:wrap64 (((i:Int)+1)*(n:Int))=((lo+n:Nat):Int):=by
  have:((i:Int)+1)*(n:Int)=((lo+n:Nat):Int):=by rw[<-hhi];simp
  rw[this,qot (by omega)]
 rw[hhi] at hL;rw[<-hlo];have g1:¬cap=lo:=by omega
 clear hm hhi hlo
 go_enter func331,ntmps331
 go_wp2
 go_ret
 rw[Nat.add_sub_cancel_left];exact⟨rfl,rfl⟩
set_option maxHeartbeats 4000000 in
set_option maxRecDepth 1000000 in
theorem qHK(g:Nat)(hen:qdN prog g)(caps:Array Value)(r c:Nat)(hr:r<=16)(hc:c<=16)(F:Nat->Nat->Bs)(w:World)(hF:∀i k w',i<r->k<c->Below w.heap.size w w'->Calls prog g (#[.int .i64 i,.int .i64 k]++caps) w' fun e w''=>e=.returned (q0l (F i k))/\Below w'.heap.size w' w'') :Calls prog 326 #[.int .i64 r,.int .i64 c,.func (.func g) #[] caps] w fun e w'=>∃v,e=.returned (.agg #[.int .i64 r,.int .i64 c,v])/\Below w.heap.size w w'/\w'.ownsRow w.heap.size 108 1 v (r*c) ((mkL F c r).map q0l):=by
 obtain⟨i0,hi,hz0,hz1,hz2⟩:=info_parts (show (prog.info? 108).map (fun i=>(i.zero,i.size,i.bytes))=some (some (.string ⟨#[]⟩),1,16) by kernel_rfl);obtain⟨B,hB⟩:∃B,B=w.heap.size:=⟨_,rfl⟩;have HF:=Lib.hid hF;clear hF
 go_enter func326,ntmps326
 go_wp2
 go_loopg [14] r (fun g i wr=>∃(ii:Nat) (v:Value),ii<=r/\g=r-ii/\i=.int .i64 ii/\MSt w.heap.size (w.heap.size+1) w.heap.size 370 108 w wr r c v (mkL F c ii))
 case atStart=>exact⟨0,.slice none 0 0,by omega,by omega,rfl,MSt.start w 370 108 (by decide) r c _ rfl _ rfl⟩
 case round=>
  obtain⟨ii,v,hii,rfl,rfl,hM⟩:=hrel;by_cases hlt:ii<r
  ·have HM:=Lib.hid hM;clear hM
   go_wp2
   go_loopg [18] c (fun g k wx=>∃(kk:Nat) (v:Value),kk<=c/\g=c-kk/\k=.int .i64 kk/\MSt w.heap.size (w.heap.size+1) w.heap.size 370 108 w wx r c v (mkL F c ii++(List.range kk).map (F ii)))
   case atStart=>exact⟨0,v,by omega,rfl,rfl,by simpa using HM.out⟩
   case round=>
    clear HM;obtain⟨kk,v,hkk,rfl,rfl,hM⟩:=hrel;have HM:=Lib.hid hM;by_cases hk:kk<c
    ·have c2:=hM.cell.2.2;have hW:Below w.heap.size w wr.drew:=hM.below.drew;have key:=Lib.hid (HF.out ii kk wr.drew hlt hk hW);have own:=Lib.hid hM.own;have hsz:w.heap.size<=wr.heap.size:=hM.below.size;have hl:(mkL F c ii++(List.range kk).map (F ii)).length<=1000:=by rw[qOz,qkm,qOm,qOM];have:=qOS (show ii<=16 by omega) hc;omega
     have key2:=key.out;unfold q0l at key2;clear hM HF
     go_wp2_with fail
     go_region_law (first
      | (refine qHL rfl g caps hen (.tmp 23) #[.tmp 24,.tmp 25] #[3,3] rfl (by simp[Act.eval,Act.put]) (#[.int .i64 ii,.int .i64 kk]++caps) (by simp[Act.eval,Act.put]) (by exact key2) ?_;rintro e w2 ⟨rfl,hb2⟩;have B2:Below wr.heap.size wr w2:=(Below.refl _ wr).drew.trans hb2;have BA:Below wr.heap.size wr (w2.alloc (.cells #[.string ⟨(F ii kk).toArray⟩] 108)):=B2.alloc B2.size _;have k1:=(HM.out.grow B2 hsz).cell.2.2;have k2:=(HM.out.grow BA hsz).cell.2.2;refine⟨_,rfl,?_⟩)
      | (refine qts rfl (.tmp 22) (.tmp 27) 212 rfl w.heap.size 108 i0 (.string ⟨#[]⟩) 1 16 underlying212 hi hz0 hz1 hz2 rfl (by decide) v _ _ (by simp[Act.eval]) (q1a own.out BA) ⟨w2.heap.size,0,none⟩ 1 1 [.string ⟨(F ii kk).toArray⟩] (by simp[Act.eval]) rfl (qGJ (qxb w2 _ _)) (fun u hu=>by rw[qOF.1 hu];rfl) (by unfold maxLen;omega) (by omega) (qOh hsz BA.size) ?_;intro v' w3 hown' hgrow _;obtain⟨ao,n',cap',rfl⟩:=q7w hown';obtain⟨k3,k4⟩:=(HM.out.grow BA hsz).keepCell hgrow))
     all_goals
      have MA:=Lib.hid ((HM.out.grow BA hsz).app (ys:=mkL F c ii++(List.range (kk+1)).map (F ii)) hgrow (qOh hsz BA.size) (by rw[qP6,qOG,<-qOL,qOz,qOG];exact hown'));clear k1 k2 k3 k4 c2 hown' hgrow key2
      go_wp2
      go_roundg (c-(kk+1))
      case measure=>go_light;omega
      case rel=>
       go_light
       exact⟨kk+1,_,by omega,rfl,by go_num,MA.out⟩
    ·have hkE:kk=c:=by omega
     subst kk;clear hM
     go_wp2
     go_roundg (r-(ii+1))
     case measure=>go_light;omega
     case rel=>
      go_light
      exact⟨ii+1,v,by omega,rfl,by go_num,HM.out⟩
  ·have hiE:ii=r:=by omega
   subst ii;obtain⟨ao,n',cap',rfl⟩:=q7w hM.own;have c1:=hM.cell;have c2:=hM.cellq;have f20:=hM.freeq 0;have f21:=hM.freeq 1;have f22:=hM.freeq 2;have HM:=Lib.hid hM;clear hM;unfold qoZ at c1 c2;obtain⟨c11,c12,c13⟩:=c1;obtain⟨c21,c22,c23⟩:=c2
   go_wp2
   refine bodyPost_ret (by simp[results,results326,go_sem, *];try rfl) rfl ?_;obtain⟨q1,q2⟩:=HM.out.fin (qOe _) (.int .i64 r) (.int .i64 c) (.slice ao n' cap');rw[qkm] at q2;exact⟨_,rfl,q1,q2⟩
end Go.Eng

namespace Go.Eng
open Go.RowKit Go.Proofs
open Tryz
set_option maxHeartbeats 2000000 in
set_option maxRecDepth 100000 in
theorem qJz(ab ao n c:Nat)(hn:0<n)(hn2:n<=1000)(row:List Bs)(hl:row.length=n)(w:World)(hc:∀(j:Nat) x,row[j]?=some x->w.cell? ⟨ab,ao+j,none⟩=some (q0l x)) :Calls prog 400 #[.slice (some ⟨ab,ao,none⟩) n c] w fun e w'=>∃v,e=.returned v/\w'.ownsRow w.heap.size 108 1 v n (row.map q0l)/\Below w.heap.size w w':=by
 obtain⟨i0,hi,hz0,hz1,hz2⟩:=info_parts (show (prog.info? 108).map (fun i=>(i.zero,i.size,i.bytes))=some (some (.string ⟨#[]⟩),1,16) by kernel_rfl);have hnil:=Lib.run_eql_slice_nil (P:=prog)
 go_enter func400,ntmps400
 have hnews:∀(j:Nat) (u:Value),(row.map q0l)[j]?=some u->(w.alloc (.cells #[] 108)).cell? ((⟨ab,ao,none⟩:Addr).add j)=some u:=fun j u hu=>by
  rw[qOo] at hu;obtain⟨x,hx,rfl⟩:=qPR.1 hu;have h1:=hc j x hx;have h2:(⟨ab,ao,none⟩:Addr).add j=⟨ab,ao+j,none⟩:=by
   unfold Addr.add;split
   ·rename_i h;subst h;rfl
   ·rfl
  rw[h2,World.cell?_alloc_lt _ _ _ (qPc w _ h1)];exact h1
 clear hc
 go_wp2_with (at_builtin;refine wpList_append_own _ rfl _ _ 212 rfl w.heap.size 108 i0 (.string ⟨#[]⟩) 1 16 underlying212 hi hz0 hz1 hz2 rfl (by decide) _ 0 [] rfl (World.ownsRow_made w #[] 0 (qOe _) (by decide) rfl) ⟨ab,ao,none⟩ n c (row.map q0l) rfl (by rw[qOm,hl,qPL]) hnews qCP (by unfold maxLen;omega) (by omega) (by rw[jo];omega) ?_)
 intro v' w2 hown' hgrow _;obtain⟨ao',n',cap',rfl⟩:=q7w hown'
 go_wp2
 go_ret
 refine⟨_,rfl,hown',((Below.refl w.heap.size w).alloc (qOe _) (.cells #[] 108)).grown hgrow (by rw[jo];omega) (fun k hk=>?_)⟩;cases hk;exact qOe _
theorem qLd(i n:Nat)(hi:i<=1000)(hn:n<=1000):wrap64 ((i:Int)*(n:Int))=((i*n:Nat):Int):=by have:=qOS hi hn;rw[<-qPC];exact qot ⟨by omega,by omega⟩
theorem qL9(i n:Nat)(hi:i<=1000)(hn:n<=1000):wrap64 (((i:Int)+1)*(n:Int))=((i*n+n:Nat):Int):=by
 have:=qOS hi hn;have h:((i:Int)+1)*(n:Int)=((i*n+n:Nat):Int):=by rw[Int.add_mul,qQ1,<-qPC,<-Int.natCast_add]
 rw[h];exact qot ⟨by omega,by omega⟩
def row0(F G:Nat->Nat->Bs)(n i:Nat):List Bs:=(List.range n).map (F i)++(List.range n).map (G i)
def qNV(B S b2 n:Nat)(vs:Value)(F G:Nat->Nat->Bs)(w0 w:World)(ii:Nat):Prop:=∃vR H,Sch B S 427 212 108 3 ii (2*n) (.int .i64 0) (.int .i64 n) w vR (.slice none 0 0) H ((List.range ii).map (row0 F G n)) [49] []/\Below B w0 w /\
 w.heap[b2]?=some (.cells #[.int .i64 n,.int .i64 n,vs] 370 (0,0))
set_option maxHeartbeats 4000000 in
set_option maxRecDepth 1000000 in
theorem qJk(n:Nat)(hn:n<=16)(F G:Nat->Nat->Bs)(vs:Value)(b5 b1:Nat)(w:World)(hv:0<n->∃ab ao cap,vs=.slice (some ⟨ab,ao,none⟩) (n*n) cap/\n*n<=cap/\∀i k,i<n->k<n->w.cell? ⟨ab,ao+(i*n+k),none⟩=some (q0l (F i k)))(ho:0<n->∃g cap,w.cell? ⟨b5,2,none⟩=some (.slice (some ⟨g,0,none⟩) (n*n) cap)/\n*n<=cap/\∀i k,i<n->k<n->w.cell? ⟨g,i*n+k,none⟩=some (q0l (G i k)))(h1:w.cell? ⟨b1,0,none⟩=some (qoZ n)) :Calls prog 378 #[.agg #[.int .i64 n,.int .i64 n,vs],.func (.func 331) #[] #[.pointer (some ⟨b5,0,none⟩),.pointer (some ⟨b1,0,none⟩)]] w fun e w' => e=.returned (.pointer (some ⟨w.heap.size+1,0,none⟩))/\qNV w.heap.size (w.heap.size+1) w.heap.size n vs F G w w' n:=by
  obtain⟨i0,hi,hz0,hz1,hz2⟩:=info_parts (show (prog.info? 108).map (fun i=>(i.zero,i.size,i.bytes))=some (some (.string ⟨#[]⟩),1,16) by kernel_rfl);obtain⟨i1,hi',hy0,hy1,hy2⟩:=info_parts (show (prog.info? 212).map (fun i=>(i.zero,i.size,i.bytes))=some (some (.slice none 0 0),1,24) by kernel_rfl);have HV:=Lib.hid hv;have HO:=Lib.hid ho;clear hv ho
  go_enter func378,ntmps378
  go_wp2
  go_loopg [14] n (fun g i wr=>∃ii:Nat,ii<=n/\g=n-ii/\i=.int .i64 ii/\qNV w.heap.size (w.heap.size+1) w.heap.size n vs F G w wr ii)
  case atStart =>
    refine⟨0,by omega,by omega,rfl,.slice none 0 0,[],?_,?_,?_⟩
    · refine Sch.start (by omega) ?_ (by decide)
      rw[<-jo w (.cells #[.int .i64 n,.int .i64 n,vs] 370)];exact heap_alloc_new _ _
    · exact((Below.refl w.heap.size w).alloc (qOe _) _).alloc (by rw[jo];omega) _
    · exact qlZ w _ _
  case round =>
    obtain⟨ii,hii,rfl,rfl,hI⟩:=hrel;by_cases hlt:ii<n
    · obtain⟨vR,H,hS,hB,h2⟩:=hI
      obtain⟨ab,ao,cap,rfl,hcap,hcell⟩:=HV.out (by omega);obtain⟨lo,hlo⟩:∃lo,lo=ii*n:=⟨_,rfl⟩;have hm:ii*n<=16*16:=qOS (by omega) hn;have hhi:(ii+1)*n=lo+n:=by rw[hlo,qOy,qPX]
      have hle:lo+n<=n*n:=by rw[<-hhi];exact qOE n hlt
      have g1:¬cap=lo:=by omega
      have g2:lo+n<=cap:=by omega
      have q1:ii<=1000:=by omega
      have q2:n<=1000:=by omega
      clear hm hhi hle;have e1:True->wrap64 ((ii:Int)*(n:Int))=(lo:Int):=fun _=>by rw[hlo];exact qLd ii n q1 q2
      have e2:True->wrap64 (((ii:Int)+1)*(n:Int))=((lo+n:Nat):Int):=fun _=>by rw[hlo];exact qL9 ii n q1 q2
      have HLO:=Lib.hid hlo;clear hlo;have c2:=q6r h2;obtain⟨c20,c21,c22⟩:=c2;have keyC:=qJz ab (ao+lo) n (cap-lo) (by omega) q2 ((List.range n).map (F ii)) (by simp) wr (fun j x hx=>by
        rw[qOo] at hx;obtain⟨y,hy,rfl⟩:=qPR.1 hx;have hjn:j<n:=by have:=(qPK.1 hy).1;simpa using this
        rw[qOW hjn] at hy;cases hy;rw[qPG,HLO.out,hB.cell (p:=⟨ab,ao+(ii*n+j),none⟩) (qPc w _ (hcell ii j hlt hjn))];exact hcell ii j hlt hjn)
      obtain⟨g,capo,ho5,hcapo,hoc⟩:=HO.out (by omega);have keyI:=Lib.hid fun (W:World) (hW:Below w.heap.size w W)=>qNJ b5 b1 g (n*n) capo ii n W (by rw[hW.cell (qPc w _ ho5)];exact ho5) (by rw[hW.cell (qPc w _ h1)];exact h1) q1 (by omega) q2 (qOE n hlt) hcapo;have HC:=Lib.hid hoc;have HH:=Lib.hid (And.intro hS (And.intro hB h2));clear hcell hoc ho5 hcapo hcap hS hB h2
      go_wp2_with (go_at_call 400;refine keyC.mono ?_;rintro e w1 ⟨v1,rfl,hv1,hb1⟩;obtain⟨a1,n1,cap1,rfl⟩:=q7w hv1)
      clear keyC e1 e2 g1 g2 c20 c21 c22;have hsz:=HH.out.2.1.size;have B1:Below wr.heap.size wr w1.drew:=hb1.drew;have k1:=(HH.out.1.grow B1).cell.2.1;have BW:Below w.heap.size w w1.drew:=HH.out.2.1.trans (B1.mono hsz);have key2:=keyI.out w1.drew BW;have own1:=Lib.hid (q1a hv1 (Below.refl _ w1).drew);have LT1:=Lib.hid hv1;have NEW:∀(j:Nat) (u:Value),(((List.range n).map (G ii)).map q0l)[j]?=some u->w1.drew.cell? ((⟨g,ii*n,none⟩:Addr).add j)=some u:=fun j u hu=>by
        rw[qOo] at hu;obtain⟨x,hx,rfl⟩:=qPR.1 hu;rw[qOo] at hx;obtain⟨y,hy,rfl⟩:=qPR.1 hx;have hjn:j<n:=by have:=(qPK.1 hy).1;simpa using this
        rw[qOW hjn] at hy;cases hy;have h2:(⟨g,ii*n,none⟩:Addr).add j=⟨g,ii*n+j,none⟩:=by
          unfold Addr.add;split
          · rename_i h;subst h;rfl
          · rfl
        have h3:=HC.out ii j hlt hjn;rw[h2,BW.cell (qPc w _ h3)];exact h3
      clear hv1;have henI:qdN prog 331:=uu func331 (by kernel_rfl) (by kernel_rfl);have stepI:∀(o:Oper) (a:Act) (K:Act->World->Prop) (Q:Exit->Act->World->Prop),o.op=.call { callee:=.value (.tmp 36),args:=#[.tmp 37],argTypes:=#[3] } ->
          a.eval (.tmp 36)=.func (.func 331) #[] #[.pointer (some ⟨b5,0,none⟩),.pointer (some ⟨b1,0,none⟩)]->a.eval (.tmp 37)=.int .i64 ii->K (a.put o.dst (.slice (some ⟨g,ii*n,none⟩) n (capo-ii*n))) w1.drew->Oper.wp prog o a w1.drew K Q :=
        fun o a K Q q1 q2 q3 q4=>qCc 331 _ henI (.tmp 36) _ _ q1 q2 (#[.int .i64 ii,.pointer (some ⟨b5,0,none⟩),.pointer (some ⟨b1,0,none⟩)]) (by simp[q3]) key2 (fun e w' h=>⟨_,h.1,by rw[h.2];exact q4⟩)
      have stepA:∀(o:Oper) (a:Act) (K:Act->World->Prop) (Q:Exit->Act->World->Prop),o.op=.call { callee:=.builtin .append,args:=#[.tmp 35,.tmp 38],argTypes:=#[212,212] } ->
          a.eval (.tmp 35)=.slice a1 n1 cap1->a.eval (.tmp 38)=.slice (some ⟨g,ii*n,none⟩) n (capo-ii*n) ->
          (∀a2 n2 cap2 w2,w2.ownsRow wr.heap.size 108 1 (.slice a2 n2 cap2) (2*n) ((row0 F G n ii).map q0l)->Below wr.heap.size wr w2->K (a.put o.dst (.slice a2 n2 cap2)) w2)->Oper.wp prog o a w1.drew K Q :=
        fun o a K Q q1 q2 q3 q4=>wp_append_own w1.drew _ _ 212 q1 wr.heap.size 108 i0 (.string ⟨#[]⟩) 1 16 underlying212 hi hz0 hz1 hz2 rfl (by decide) _ n _ q2 own1.out ⟨g,ii*n,none⟩ n _ (((List.range n).map (G ii)).map q0l) q3 (by simp) NEW qCP (by unfold maxLen;omega) (by omega) B1.size
          (fun v2 w2 h1 h2 _=>by obtain⟨a2,n2,cap2,rfl⟩:=q7w h1;refine q4 _ _ _ _ ?_ (B1.grown h2 B1.size (fun k hk=>(LT1.out.lt k hk).1));rw[Nat.two_mul];unfold row0;rw[qOG];exact h1)
      have stepB:∀(w2:World) (a2:Option Addr) (n2 cap2:Nat) (o:Oper) (a:Act) (K:Act->World->Prop) (Q:Exit->Act->World->Prop),Below wr.heap.size wr w2->o.op=.call { callee:=.builtin .append,args:=#[.tmp 34,.tmp 40],argTypes:=#[342,342] } ->
          a.eval (.tmp 34)=vR->a.eval (.tmp 40)=.slice (some ⟨w2.heap.size,0,none⟩) 1 1 ->
          (∀a3 n3 cap3 w3,w3.ownsRow w.heap.size 212 1 (.slice a3 n3 cap3) (ii+1) (H++[.slice a2 n2 cap2])->(w2.alloc (.cells #[.slice a2 n2 cap2] 212)).grownBy w3 vR.ownBlock->K (a.put o.dst (.slice a3 n3 cap3)) w3)->Oper.wp prog o a (w2.alloc (.cells #[.slice a2 n2 cap2] 212)) K Q :=
        fun w2 a2 n2 cap2 o a K Q hb q1 q2 q3 q4=>by
          have B3:Below wr.heap.size wr (w2.alloc (.cells #[.slice a2 n2 cap2] 212)):=hb.alloc hb.size _;exact wp_append_own _ _ _ 342 q1 w.heap.size 212 i1 (.slice none 0 0) 1 24 underlying342 hi' hy0 hy1 hy2 rfl (by decide) _ ii _ q2 (HH.out.1.grow B3).outer ⟨w2.heap.size,0,none⟩ 1 1 [.slice a2 n2 cap2] q3 rfl (qGJ (qxb w2 _ _)) (fun u hu=>by rw[qOF.1 hu];rfl) (by unfold maxLen;omega) (by omega) (qOh hsz B3.size)
            (fun v3 w3 h1 h2 _=>by obtain⟨a3,n3,cap3,rfl⟩:=q7w h1;exact q4 _ _ _ _ h1 h2)
      clear key2 NEW
      go_region_law ((try simp only[Act.put,List.setIfInBounds_toArray,qOs,qOt]);(with_reducible refine qGL rfl ?_);first
        | (with_reducible refine stepI _ _ _ _ ?_ ?_ ?_ ?_
           · with_reducible rfl
           · (first|with_reducible rfl|(simp[Act.eval];done))
           · (first|with_reducible rfl|(simp[Act.eval];done)))
        | (with_reducible refine stepA _ _ _ _ ?_ ?_ ?_ ?_
           · with_reducible rfl
           · (first|with_reducible rfl|(simp[Act.eval];done))
           · (first|with_reducible rfl|(simp[Act.eval];done))
           intro a2 n2 cap2 w2 hown2 B2;have B3:Below wr.heap.size wr (w2.alloc (.cells #[.slice a2 n2 cap2] 212)):=B2.alloc B2.size _;have k2:=(HH.out.1.grow B2).cell.2.1;have k3:=(HH.out.1.grow B3).cell.2.1)
        | (with_reducible refine stepB w2 a2 n2 cap2 _ _ _ _ B2 ?_ ?_ ?_ ?_
           · with_reducible rfl
           · (first|with_reducible rfl|(simp[Act.eval];done))
           · (first|with_reducible rfl|(simp[Act.eval];done))
           intro a3 n3 cap3 w3 hown3 hgrow3;obtain⟨k4,k5⟩:=(HH.out.1.grow B3).rowCell hgrow3)
        | fail "NONE")
      all_goals
        have SR:=(HH.out.1.grow B3).addRow (row:=row0 F G n ii) (q6f (q1a hown2 ((Below.refl _ w2).alloc (qOe _) (.cells #[.slice a2 n2 cap2] 212))) hsz) (HH.out.1.heads hown2) hgrow3 hown3;have BL:=((HH.out.2.1.trans (B3.mono hsz)).grown hgrow3 (qOh hsz B3.size) (fun k hk=>((HH.out.1.grow B3).outer.lt k hk).1)).setCell (p:=⟨w.heap.size+1,1,none⟩) (by show w.heap.size<=w.heap.size+1;omega) (.slice a3 n3 cap3);have MK:=qCq (HH.out.1.grow B3).outer (show (w2.alloc (.cells #[.slice a2 n2 cap2] 212)).heap[w.heap.size]?=_ by rw[B3.block _ (qOi.1 HH.out.2.2).1];exact HH.out.2.2) (by decide) hgrow3;have FIN:qNV w.heap.size (w.heap.size+1) w.heap.size n (.slice (some ⟨ab,ao,none⟩) (n*n) cap) F G w (w3.setCell ⟨w.heap.size+1,1,none⟩ (.slice a3 n3 cap3)) (ii+1) :=
          ⟨_,_,by rw[qP6,qOG];exact SR,BL,by rw[heap_setCell_other w3 ⟨w.heap.size+1,1,none⟩ w.heap.size _ (by show w.heap.size≠w.heap.size+1;omega)];exact MK⟩
        have FIN:=Lib.hid FIN;clear SR BL MK k1 k2 k3 k4 k5 hown2 hown3 hgrow3 B2 B3 stepI stepA stepB
        go_wp2
        go_roundg (n-(ii+1))
        case measure=>go_light;omega
        case rel =>
          go_light
          exact⟨ii+1,by omega,rfl,by go_num,FIN.out⟩
    · have hiE:ii=n:=by omega
      subst ii;have HI:=Lib.hid hI;clear hI
      go_wp2
      go_ret
      exact⟨rfl,HI.out⟩
end Go.Eng

namespace Go.Eng
open Go.RowKit Go.Proofs
open Tryz
theorem Sch.base{B B' S:Nat}{tS tR tE tI:TypeId}{N C:Nat}{ek K:Value}{w:World}{vR vL:Value}{H:List Value}{Z:Mx}{det:Bs}{lead:List Nat}(h:Sch B S tS tR tE tI N C ek K w vR vL H Z det lead)(hB:B'<=B) :Sch B' S tS tR tE tI N C ek K w vR vL H Z det lead:=⟨qOh hB h.bs,h.st,h.dim,q6f h.outer hB,fun j a r e1 e2=>q6f (h.inner j a r e1 e2) hB,q6f h.own hB,h.ap,h.ne⟩
set_option maxHeartbeats 4000000 in
set_option maxRecDepth 1000000 in
theorem qMS(ml dv sb:Op2)(gl:World->Prop)(n:Nat)(hn:n<=16)(F G:Nat->Nat->Bs)(vs:Value)(b5 b1:Nat)(w:World)(hgl:∀w',Below w.heap.size w w'->gl w')(hml:qDx prog gl 77 ml) (hdv:qDx prog gl 315 dv) (hsb:qDx prog gl 210 sb)(hv:0<n->∃ab ao cap,vs=.slice (some ⟨ab,ao,none⟩) (n*n) cap/\n*n<=cap/\∀i k,i<n->k<n->w.cell? ⟨ab,ao+(i*n+k),none⟩=some (q0l (F i k)))(ho:0<n->∃g cap,w.cell? ⟨b5,2,none⟩=some (.slice (some ⟨g,0,none⟩) (n*n) cap)/\n*n<=cap/\∀i k,i<n->k<n->w.cell? ⟨g,i*n+k,none⟩=some (q0l (G i k)))(h1:w.cell? ⟨b1,0,none⟩=some (qoZ n)) (fin:RS) (hf:qyw ml dv sb n n (2*n) n ⟨(List.range n).map (row0 F G n),[49],[],0⟩=some fin) :Calls prog 330 #[.agg #[.int .i64 n,.int .i64 n,vs],.func (.func 331) #[] #[.pointer (some ⟨b5,0,none⟩),.pointer (some ⟨b1,0,none⟩)]] w fun e w'=> ∃S,e=.returned (.tuple #[.pointer (some ⟨S,0,none⟩),.int .i64 0])/\(∃vR vL H,Sch w.heap.size S 427 212 108 3 n (2*n) (.int .i64 0) (.int .i64 n) w' vR vL H fin.Z fin.det fin.lead)/\Below w.heap.size w w':=by
 have hB1:Below w.heap.size w (w.alloc (.cells #[.int .i64 n,.int .i64 n,vs] 370)):=(Below.refl w.heap.size w).alloc (qOe _) _;have keyB:=qJk n hn F G vs b5 b1 (w.alloc (.cells #[.int .i64 n,.int .i64 n,vs] 370))
  (fun h=>by obtain⟨ab,ao,cap,q1,q2,q3⟩:=hv h;exact⟨ab,ao,cap,q1,q2,fun i k hi hk=>by rw[hB1.cell (qPc w _ (q3 i k hi hk))];exact q3 i k hi hk⟩)
  (fun h=>by obtain⟨g,cap,q1,q2,q3⟩:=ho h;exact⟨g,cap,by rw[hB1.cell (qPc w _ q1)];exact q1,q2,fun i k hi hk=>by rw[hB1.cell (qPc w _ (q3 i k hi hk))];exact q3 i k hi hk⟩)
  (by rw[hB1.cell (qPc w _ h1)];exact h1)
 have HG:=Lib.hid hgl;have HF:=Lib.hid hf;clear hv ho hf hgl
 go_enter func330,ntmps330
 go_wp2_with (go_at_call 378;refine keyB.mono ?_;rintro e w1 ⟨rfl,hI⟩)
 have hs1:w.heap.size<=w.heap.size+1:=by omega
 rw[jo] at hI;obtain⟨vR,H,hS,hB,_⟩:=hI;have hB2:Below w.heap.size w w1:=hB1.trans (hB.mono hs1);have keyR:=qMU w.heap.size _ n n (2*n) w1 ml dv sb gl (fun w' hw'=>HG.out w' (hB2.trans hw')) hml hdv hsb hB2.size (qOe _) (by omega) (by omega) (by omega) _ fin ⟨_,_,_,hS.base hs1,Below.refl _ _⟩ rfl rfl HF.out;refine keyR.mono ?_;rintro e w2 ⟨rfl,hR⟩;obtain⟨vR2,vL2,H2,hS2,hB3⟩:=hR;have k0:=hS2.cell.1;clear keyR keyB
 go_wp2_with fail
 go_region_with (fail)
 all_goals
  go_wp2
  refine bodyPost_ret (results_tmp2 rfl _ _ _) rfl ?_;exact⟨_,rfl,⟨_,_,_,hS2.grow (Below.refl _ _).drew⟩,hB2.trans hB3.drew⟩
def qmp(i k:Nat):Bs:=if i=k then [49] else [48]
set_option maxHeartbeats 4000000 in
set_option maxRecDepth 1000000 in
theorem qLe(n:Nat)(hn:n<=16)(w:World) :Calls prog 329 #[.int .i64 n] w fun e w'=>∃v,e=.returned (.agg #[.int .i64 n,.int .i64 n,v])/\Below w.heap.size w w'/\w'.ownsRow w.heap.size 108 1 v (n*n) ((mkL qmp n n).map q0l):=by
 have hB1:Below w.heap.size w (w.alloc (.cells #[.int .i64 0,.int .i64 0,.slice none 0 0] 370)):=(Below.refl w.heap.size w).alloc (qOe _) _;have key:=qHK 377 (uu func377 (by kernel_rfl) (by kernel_rfl)) #[] n n hn hn qmp (w.alloc (.cells #[.int .i64 0,.int .i64 0,.slice none 0 0] 370)) (fun i k w' hi hk _=>(qND i k (by omega) (by omega) w').mono fun e w'' h=>⟨h.1,by rw[h.2];exact Below.refl _ _⟩);have hq:=heap_alloc_new w (.cells #[.int .i64 0,.int .i64 0,.slice none 0 0] 370);rw[jo] at key
 go_enter func329,ntmps329
 go_wp2_with (go_at_call 326;refine key.mono ?_;rintro e w1 ⟨v,rfl,hb,ho⟩;obtain⟨ao,n1,cap,rfl⟩:=q7w ho;have hq2:w1.heap[w.heap.size]?=some (.cells #[.int .i64 0,.int .i64 0,.slice none 0 0] 370 (0,0)):=(hb.block _ (by omega)).trans hq;obtain⟨c0,c1,c2⟩:=q6r hq2;have f0:=frozen_of_row w1 w.heap.size 0 _ 370 hq2;have f1:=frozen_of_row w1 w.heap.size 1 _ 370 hq2;have f2:=frozen_of_row w1 w.heap.size 2 _ 370 hq2)
 refine bodyPost_ret (by simp[results,results329,go_sem, *];try rfl) rfl ?_;have hn0:(Value.slice ao n1 cap).ownBlock≠some w.heap.size:=fun hv=>by obtain⟨c',hc'⟩:=zl ho hv;exact qdt hq2 hc' (by decide) rfl
 have hle:w.heap.size<=w.heap.size:=qOe _;exact⟨_,rfl,(((hB1.trans (hb.mono (by omega))).setCell (p:=⟨w.heap.size,0,none⟩) hle _).setCell (p:=⟨w.heap.size,1,none⟩) hle _).setCell (p:=⟨w.heap.size,2,none⟩) hle _,
  qz (qz (qz (q6f ho (by omega)) hn0 _) hn0 _) hn0 _⟩
end Go.Eng

namespace Go.Eng
open Go.RowKit Go.Proofs
open Tryz
theorem qDE{w:World}{B:Nat}{e:TypeId}{z n:Nat}{v:Value}{xs:List Value}(h:w.ownsRow B e z v n xs):∃ao cap,v=.slice ao n cap:=by
 rcases h.2 with⟨hv,h0⟩|⟨g,cap,cur,hv,_⟩
 ·exact⟨none,0,by rw[hv,h0]⟩
 ·exact⟨_,_,hv⟩
set_option maxHeartbeats 4000000 in
set_option maxRecDepth 1000000 in
theorem qNC(b6 b1 S n:Nat)(w:World){B:Nat}{vR vL:Value}{H:List Value}{Z:Mx}{det:Bs}{lead:List Nat}{ek K:Value}(h6:w.cell? ⟨b6,0,none⟩=some (.pointer (some ⟨S,0,none⟩)))(h1:w.cell? ⟨b1,1,none⟩=some (qoZ n))(hS:Sch B S 427 212 108 3 n (2*n) ek K w vR vL H Z det lead) (hn:n<=16) (i k:Nat) (hi:i<n) (hk:k<n) :Calls prog 332 #[.int .i64 i,.int .i64 k,.pointer (some ⟨b6,0,none⟩),.pointer (some ⟨b1,0,none⟩)] w fun e w'=>e=.returned (q0l (q90 Z i (n+k)))/\w'=w.drew:=by
 obtain⟨O,cO,rfl,bO,ltO,rO,fO,tO⟩:=hS.rows (by omega);obtain⟨G,cG,eH,bG,ltG,zG,fG,tG⟩:=hS.head hi (by omega);have c1:=hS.cell.2.1;have c2:=rO i _ eH;have c3:=zG (n+k) (by omega);have hlt:n+k<2*n:=by omega
 generalize 2*n=C at *;have hlt2:(n:Int)+(k:Int)<(C:Int):=by omega
 have hlt3:((n:Int)+(k:Int)).toNat=n+k:=by omega
 unfold qoZ at h1;unfold q0l at c3 ⊢;clear rO zG fO fG tO tG eH
 go_enter func332,ntmps332
 go_wp2_with fail
 go_big_region
 go_wp2
 go_ret
 exact⟨rfl,rfl⟩
set_option maxHeartbeats 4000000 in
set_option maxRecDepth 1000000 in
theorem qMj(ml dv sb:Op2)(gl:World->Prop)(n:Nat)(hn:n<=16)(F:Nat->Nat->Bs)(vs:Value)(w:World)(hgl:∀w',Below w.heap.size w w'->gl w')(hml:qDx prog gl 77 ml) (hdv:qDx prog gl 315 dv) (hsb:qDx prog gl 210 sb)(hck:∀w',Below w.heap.size w w'->Calls prog 328 #[.agg #[.int .i64 n,.int .i64 n,vs]] w' fun e w''=>e=.returned (.int .i64 0)/\Below w'.heap.size w' w'')(hv:0<n->∃ab ao cap,vs=.slice (some ⟨ab,ao,none⟩) (n*n) cap/\n*n<=cap/\∀i k,i<n->k<n->w.cell? ⟨ab,ao+(i*n+k),none⟩=some (q0l (F i k)))(fin:RS) (hf:qyw ml dv sb n n (2*n) n ⟨(List.range n).map (row0 F qmp n),[49],[],0⟩=some fin) (hvs:∃a l c,vs=.slice a l c) :Calls prog 278 #[.agg #[.int .i64 n,.int .i64 n,vs]] w fun e w'=>Below w.heap.size w w' /\((fin.lead.length < n /\ e = .returned (.tuple #[.agg #[.int .i64 0, .int .i64 0, .slice none 0 0], .int .i64 14])) \/(n<=fin.lead.length/\∃v,e=.returned (.tuple #[.agg #[.int .i64 n,.int .i64 n,v],.int .i64 0])/\w'.ownsRow w.heap.size 108 1 v (n*n) ((mkL (fun i k=>q90 fin.Z i (n+k)) n n).map q0l))):=by
  obtain⟨a0,l0,c0,rfl⟩:=hvs;obtain⟨W0,hW0⟩:∃W0,W0=(w.alloc (.cells #[.int .i64 n,.int .i64 n,.slice a0 l0 c0] 370)).alloc (.cells #[.int .i64 0,.int .i64 0,.slice none 0 0] 370):=⟨_,rfl⟩;have hb0:Below w.heap.size w W0:=by rw[hW0];exact((Below.refl w.heap.size w).alloc (qOe _) _).alloc (by rw[jo];omega) _
  have h1:W0.heap[w.heap.size]?=some (.cells #[.int .i64 n,.int .i64 n,.slice a0 l0 c0] 370 (0,0)):=by rw[hW0];exact qlZ w _ _
  have h2:W0.heap[w.heap.size+1]?=some (.cells #[.int .i64 0,.int .i64 0,.slice none 0 0] 370 (0,0)):=by rw[hW0,<-jo w (.cells #[.int .i64 n,.int .i64 n,.slice a0 l0 c0] 370)];exact heap_alloc_new _ _
  have hs0:W0.heap.size=w.heap.size+1+1:=by rw[hW0,jo,jo]
  have keyC:=hck W0 hb0;obtain⟨c10,c11,c12⟩:=q6r h1;have HV:=Lib.hid hv;have HF:=Lib.hid hf;have HG:=Lib.hid hgl;clear hv hf hgl hck
  go_enter func278,ntmps278
  go_wp2_with fail
  rw[<-hW0];refine keyC.mono ?_;rintro e w1 ⟨rfl,hb1⟩;have B1:Below w.heap.size w w1:=hb0.trans (hb1.mono hb0.size);have g1:=(hb1.block _ (qOi.1 h1).1).trans h1;have g2:=(hb1.block _ (qOi.1 h2).1).trans h2;have hs1:w.heap.size+1+1<=w1.heap.size:=by have:=hb1.size;omega
  clear keyC h1 h2 c10 c11 c12 hW0 hb0 hb1 hs0;clear W0;obtain⟨c10,c11,c12⟩:=q6r g1
  go_wp2_with fail
  refine(qLe n hn w1).mono ?_;rintro e w2 ⟨vo,rfl,hb2,hou⟩;obtain⟨ao,no,co,rfl⟩:=q7w hou;have B2:Below w.heap.size w w2:=B1.trans (hb2.mono B1.size);have k1:=(hb2.block _ (qOi.1 g1).1).trans g1;have k2:=(hb2.block _ (qOi.1 g2).1).trans g2;have hs2:w.heap.size+1+1<=w2.heap.size:=by have:=hb2.size;omega
  clear g1 g2 c10 c11 c12;obtain⟨c10,c11,c12⟩:=q6r k1;have HU:=Lib.hid hou;clear hou hb2;have B3:Below w2.heap.size w2 (w2.alloc (.cells #[.int .i64 n,.int .i64 n,.slice ao no co] 370)):=(Below.refl _ w2).alloc (qOe _) _;have l1:=(B3.block _ (qOi.1 k1).1).trans k1;have l2:=(B3.block _ (qOi.1 k2).1).trans k2;obtain⟨d10,d11,d12⟩:=q6r l1
  go_wp2_with fail
  obtain⟨W3,hW3⟩:∃W3,W3=w2.alloc (.cells #[.int .i64 n,.int .i64 n,.slice ao no co] 370):=⟨_,rfl⟩;have m5:W3.heap[w2.heap.size]?=some (.cells #[.int .i64 n,.int .i64 n,.slice ao no co] 370 (0,0)):=by rw[hW3];exact heap_alloc_new _ _
  have hs3:W3.heap.size=w2.heap.size+1:=by rw[hW3,jo]
  rw[<-hW3] at B3 l1 l2 d10 d11 d12 ⊢;clear hW3 c10 c11 c12;have B13:Below w.heap.size w W3:=B2.trans (B3.mono B2.size);have keyE:=qMS ml dv sb gl n hn F qmp (.slice a0 l0 c0) w2.heap.size w.heap.size W3 (fun w' hw'=>HG.out w' (B13.trans (hw'.mono B13.size))) hml hdv hsb
    (fun h=>by obtain⟨ab,ao,cap,q1,q2,q3⟩:=HV.out h;exact⟨ab,ao,cap,q1,q2,fun i k hi hk=>by rw[B13.cell (qPc w _ (q3 i k hi hk))];exact q3 i k hi hk⟩)
    (fun h=>by
      have ho3:=q1a HU.out B3;obtain⟨g,c,q1,_,_,_⟩:=qgW ho3 (Nat.mul_pos h h);have hcap:n*n<=c:=by
        rcases ho3.2 with⟨z,_⟩|⟨g',cap',cur,z,_,_,z2,_⟩
        · rw[q1] at z;cases z
        · rw[q1] at z;cases z;exact z2
      refine⟨g,c,by rw[<-q1];exact(q6r m5).2.2,hcap,fun i k hi hk=>?_⟩;rw[q1] at ho3;have hik:i*n+k<n*n:=by have:=qOE n (show i+1<=n by omega);rw[qOy] at this;omega
      rw[ho3.cellAt (i*n+k) (by omega),qOo,qAk qmp n n i k hi hk];rfl)
    d10 fin HF.out
  refine keyE.mono ?_;rintro e w4 ⟨S,rfl,⟨vR,vL,H,hS⟩,hb4⟩;have B4:Below w.heap.size w w4:=B13.trans (hb4.mono B13.size);have k1:=(hb4.block _ (qOi.1 l1).1).trans l1;have k2:=(hb4.block _ (qOi.1 l2).1).trans l2;have hs4:w2.heap.size+1<=w4.heap.size:=by have:=hb4.size;omega
  have B5:Below w4.heap.size w4 (w4.alloc (.cells #[.pointer (some ⟨S,0,none⟩)] 420)):=(Below.refl _ w4).alloc (qOe _) _;have HS:=Lib.hid (hS.grow B5);have l1:=(B5.block _ (qOi.1 k1).1).trans k1;have l2:=(B5.block _ (qOi.1 k2).1).trans k2;clear keyE HU HV HF HG hS k1 k2 d10 d11 d12 m5;obtain⟨vl0,vlc,rfl⟩:=qDE HS.out.own;obtain⟨d10,d11,d12⟩:=q6r l1;have s3:=HS.out.cell.2.2.2.1
  go_wp2_with fail
  go_big_region
  have B6:Below w4.heap.size w4 (w4.alloc (.cells #[.pointer (some ⟨S,0,none⟩)] 420)).drew:=B5.drew;have n6:=qxb w4 (.pointer (some ⟨S,0,none⟩)) 420;have SZ:(w4.alloc (.cells #[.pointer (some ⟨S,0,none⟩)] 420)).heap.size=w4.heap.size+1:=jo _ _;obtain⟨W6,hW6⟩:∃W6,W6=(w4.alloc (.cells #[.pointer (some ⟨S,0,none⟩)] 420)).drew:=⟨_,rfl⟩;have l1:W6.heap[w.heap.size]?=some (.cells #[.int .i64 n,.int .i64 n,.slice a0 l0 c0] 370 (0,0)):=by rw[hW6];exact l1
  have l2:W6.heap[w.heap.size+1]?=some (.cells #[.int .i64 0,.int .i64 0,.slice none 0 0] 370 (0,0)):=by rw[hW6];exact l2
  have n6:W6.cell? ⟨w4.heap.size,0,none⟩=some (.pointer (some ⟨S,0,none⟩)):=by rw[hW6];exact n6
  have SZ:W6.heap.size=w4.heap.size+1:=by rw[hW6];exact SZ
  have HS:=Lib.hid (HS.out.grow (Below.refl _ _).drew);rw[<-hW6] at B6 HS ⊢;clear hW6 B5 d10 d11 d12 s3;have B7:Below w.heap.size w W6:=B4.trans (B6.mono B4.size);obtain⟨d10,d11,d12⟩:=q6r l1;obtain⟨d20,d21,d22⟩:=q6r l2;have f20:=frozen_of_row W6 (w.heap.size+1) 0 _ 370 l2;have f21:=frozen_of_row W6 (w.heap.size+1) 1 _ 370 l2;have f22:=frozen_of_row W6 (w.heap.size+1) 2 _ 370 l2;have hle:w.heap.size<=w.heap.size+1:=by omega
  by_cases hl:fin.lead.length<n
  · have hl2:((fin.lead.length:Int)<(n:Int)):=by omega
    go_wp2_with fail
    refine bodyPost_ret (by simp[results,results278,go_sem, *];try rfl) rfl ?_;exact⟨((B7.setCell (p:=⟨w.heap.size+1,0,none⟩) hle _).setCell (p:=⟨w.heap.size+1,1,none⟩) hle _).setCell (p:=⟨w.heap.size+1,2,none⟩) hle _,.inl ⟨hl,rfl⟩⟩
  · have hl2:¬((fin.lead.length:Int)<(n:Int)):=by omega
    have keyM:=qHK 332 (uu func332 (by kernel_rfl) (by kernel_rfl)) #[.pointer (some ⟨w4.heap.size,0,none⟩),.pointer (some ⟨w.heap.size,0,none⟩)] n n hn hn (fun i k=>q90 fin.Z i (n+k)) W6 (fun i k w' hi hk hb =>
      (qNC w4.heap.size w.heap.size S n w' (by rw[hb.cell (qPc W6 _ n6)];exact n6) (by rw[hb.cell (qPc W6 _ d11)];exact d11) (HS.out.grow hb) hn i k hi hk).mono
        fun e w'' h=>⟨h.1,by rw[h.2];exact(Below.refl _ _).drew⟩)
    go_wp2_with fail
    refine keyM.mono ?_;rintro e w7 ⟨v,rfl,hb7,ho7⟩;obtain⟨a7,n7,c7,rfl⟩:=q7w ho7;have q2:=(hb7.block _ (qOi.1 l2).1).trans l2;obtain⟨e20,e21,e22⟩:=q6r q2;have f20:=frozen_of_row w7 (w.heap.size+1) 0 _ 370 q2;have f21:=frozen_of_row w7 (w.heap.size+1) 1 _ 370 q2;have f22:=frozen_of_row w7 (w.heap.size+1) 2 _ 370 q2;clear keyM d10 d11 d12 d20 d21 d22
    go_wp2_with fail
    refine bodyPost_ret (by simp[results,results278,go_sem, *];try rfl) rfl ?_;have hn0:(Value.slice a7 n7 c7).ownBlock≠some (w.heap.size+1):=fun hv=>by obtain⟨c',hc'⟩:=zl ho7 hv;exact qdt q2 hc' (by decide) rfl
    exact⟨(((B7.trans (hb7.mono B7.size)).setCell (p:=⟨w.heap.size+1,0,none⟩) hle _).setCell (p:=⟨w.heap.size+1,1,none⟩) hle _).setCell (p:=⟨w.heap.size+1,2,none⟩) hle _,
      .inr ⟨by omega,_,rfl,qz (qz (qz (q6f ho7 B7.size) hn0 _) hn0 _) hn0 _⟩⟩
end Go.Eng

namespace Go.Eng
open Go.RowKit Go.Proofs
open Tryz
def qLL(t:TR):Bool:=match t.run with
 | some (0,[.i e])=>decide (e=0)
 | _=>false
theorem qJu{t:TR}(h:qLL t=true):t.run=some (0,[.i 0]):=by
 unfold qLL at h;split at h
 ·rename_i e he;have:e=0:=by simpa using h
  subst this;exact he
 ·cases h
def qLK(ck ml dv sb:List PV->TR):List PV->TR
 | [.i r,.i c,.r l]=>if r=c/\0<=r/\r<=16/\l.length=r.toNat*r.toNat/\qLL (ck [.i r,.i c,.r l])=true then
   (match qyw (opF ml) (opF dv) (opF sb) r.toNat r.toNat (2*r.toNat) r.toNat ⟨(List.range r.toNat).map (row0 (fun i k=>cS l ((i*r.toNat+k:Nat):Int) 0) qmp r.toNat),[49],[],0⟩ with
   | some fin=>if fin.lead.length<r.toNat then .leaf (0,[.i 0,.i 0,.r [],.i 14]) else .leaf (0,[.i r,.i r,.r ((mkL (fun i k=>q90 fin.Z i (r.toNat+k)) r.toNat r.toNat).map fun x=>[.s x]),.i 0])
   | none=>.fail) else .fail
 | _=>.fail
theorem qEz{ps:List PV}(h:ps.map PV.kind=[.i,.i,.r]):∃a b c,ps=[.i a,.i b,.r c]:=by
 match ps,h with
 | [.i a,.i b,.r c],_=>exact⟨a,b,c,rfl⟩
theorem qJi{T:List PV->TR}{a b:Int}{l:R}(h:(T [.i a,.i b,.r l]).run=some (0,[.i 0])) :(q9 ⟨[.agg [.int .i64,.int .i64,.imm [.str]]],[]⟩ [⟨.int .i64,[],none⟩] T [.agg [.int .i64 a,.int .i64 b,.imm [.str] l]] []).run=some (.int .i64 0,[]):=by unfold q9;have ht:(FIn.mk [.agg [.int .i64,.int .i64,.imm [.str]]] []).take [.agg [.int .i64 a,.int .i64 b,.imm [.str] l]] []=some [.i a,.i b,.r l]:=rfl;rw[ht];simp only[Tree.run,okR,h,qQg];simp[qGD,FOut.kinds,AP.kinds,BP.kindsL,qor,gI,pR,h,PV.toI,FOut.make,AP.make,BP.makeL,Tree.run]
theorem qEj{w:World}{B:Nat}{e:TypeId}{M:Nat->Prop}{v:Value}{n:Nat}{xs:List Bs}(h:w.ownsRow B e 1 v n (xs.map q0l))(hM:∀b,v.ownBlock=some b->M b):qh9 w M [.str] (xs.map fun x=>[U.s x]) v:=by
 have hl:xs.length=n:=by have:=h.1;rw[qOm] at this;omega
 rcases h.2 with⟨rfl,h0⟩|⟨g,cap,cur,rfl,_,_,hc,_⟩
 ·exact .inl ⟨rfl,qPO (by rw[qOm];omega)⟩
 ·refine .inr ⟨⟨g,0,none⟩,cap,by rw[qOm,hl],fun _=>rfl,by rw[qOm,hl];exact hc,fun r j hj hr=>?_⟩;have hj0:j=0:=by simp at hj;exact hj
  subst hj0;rw[qOm] at hr;refine⟨hM g rfl,q0l xs[r],?_,?_⟩
  ·have:=h.cellAt r (by omega);rw[qOo,qOk hr] at this;simpa using this
  ·have:RepU w M .str (U.s xs[r]) (q0l xs[r]):=.str (U.s xs[r]);have e:zZ (xs.map fun x=>[U.s x]) (r:Int) 0=U.s xs[r]:=by simp[zZ,hr]
   rw[e];exact this
theorem qI3{X:Ctx}{a b:Int}{l:R}{vargs:List Value}(h:RepL X [.agg [.int .i64 a,.int .i64 b,.imm [.str] l]] vargs):∃v,vargs=[.agg #[.int .i64 a,.int .i64 b,v]]/\qh9 X.w X.M [.str] l v:=by
 cases h with
 | cons h1 t=>
  cases t;cases h1 with
  | agg _ vs h2=>
   cases h2 with
   | cons q1 t1=>
    cases q1;cases t1 with
    | cons q2 t2=>
     cases q2;cases t2 with
     | cons q3 t3=>
      cases t3;cases q3 with
      | imm _ _ _ hv=>exact⟨_,rfl,hv⟩
theorem qGg{gl:List (Nat×AV)}{ck ml dv sb:List PV->TR}(hck:qx prog gl 328 (q9 ⟨[.agg [.int .i64,.int .i64,.imm [.str]]],[]⟩ [⟨.int .i64,[],none⟩] ck))(hml:qx prog gl 77 (q9 ⟨[.str,.str],[]⟩ [⟨.tuple [.str,.int .i64],[],none⟩] ml)) (hdv:qx prog gl 315 (q9 ⟨[.str,.str],[]⟩ [⟨.tuple [.str,.int .i64],[],none⟩] dv))(hsb:qx prog gl 210 (q9 ⟨[.str,.str],[]⟩ [⟨.tuple [.str,.int .i64],[],none⟩] sb)) :qx prog gl 278 (q9 ⟨[.agg [.int .i64,.int .i64,.imm [.str]]],[]⟩ [⟨.tuple [.agg [.int .i64,.int .i64,.imm [.str]],.int .i64],[],none⟩] (qLK ck ml dv sb)):=by
 refine qHl (uu func278 (by kernel_rfl) (by kernel_rfl)) rfl fun B X ps j qs vargs hs hgl hX ha hk hT=>?_;obtain⟨r,c,l,rfl⟩:=qEz hk;have ha:RepL X [.agg [.int .i64 r,.int .i64 c,.imm [.str] l]] vargs:=ha;simp only[qLK] at hT;split at hT
 ·rename_i hc;obtain⟨rfl,hr0,hr16,hl,hok⟩:=hc;obtain⟨n,rfl⟩:∃n:Nat,r=(n:Int):=⟨r.toNat,by omega⟩;rw[qOw] at hT hl;split at hT
  ·rename_i fin hf;obtain⟨v,rfl,hv⟩:=qI3 ha;have hgY:∀w',Below X.w.heap.size X.w w'->q30 gl (qI0 w' X.y):=fun w' hb=>qNw hs hX hgl hb;have op:∀{f:FuncId} {T:List PV->TR},qx prog gl f (q9 ⟨[.str,.str],[]⟩ [⟨.tuple [.str,.int .i64],[],none⟩] T)->qDx prog (fun w'=>Below X.w.heap.size X.w w') f (opF T):=
    fun hT w' hb a b r h=>qFv hT (hgY w' hb) h
   have key:=qMj (opF ml) (opF dv) (opF sb) (fun w'=>Below X.w.heap.size X.w w') n (by omega) (fun i k=>cS l ((i*n+k:Nat):Int) 0) v X.w (fun _ h=>h) (op hml) (op hdv) (op hsb)
    (fun w' hb=>by
     have m:=qMY hs hX hb;refine(qyL hck (hgY w' hb) (args:=[.agg [.int .i64 n,.int .i64 n,.imm [.str] l]]) (vargs:=[.agg #[.int .i64 n,.int .i64 n,v]]) ?_ (qJi (qJu hok))).mono ?_
     ·exact ha.ext0 m
     ·rintro e w'' ⟨u,X',rfl,rfl,hu,_,_,hb'⟩;cases hu;exact⟨rfl,hb'⟩)
    (fun hn=>by
     rcases hv with⟨_,h0⟩|⟨a,cap,rfl,hsp,hcap,hrows⟩
     ·rw[h0] at hl;have:=Nat.mul_pos hn hn;simp at hl;omega
     ·have hpos:0<l.length:=by rw[hl];exact Nat.mul_pos hn hn
      obtain⟨ab,ao,sp⟩:=a;have:sp=none:=hsp hpos;subst this;refine⟨ab,ao,cap,by rw[hl],by omega,fun i k hi hk=>?_⟩;have hik:i*n+k<l.length:=by have:=qOE n (show i+1<=n by omega);rw[qOy] at this;omega
      obtain⟨_,u,q1,q2⟩:=hrows (i*n+k) 0 (by simp) hik;cases q2;simp only[List.length_singleton,qPL,qP1] at q1;rw[q1];rfl)
    fin hf (by
     rcases hv with⟨rfl,_⟩|⟨a,cap,rfl,_⟩
     ·exact⟨_,_,_,rfl⟩
     ·exact⟨_,_,_,rfl⟩)
   split at hT
   ·rename_i hlt;cases hT;refine⟨rfl,rfl,key.mono ?_⟩;rintro e w' ⟨hb,⟨_,rfl⟩|⟨h,_⟩⟩
    ·refine⟨_,X.M,rfl,hb,fun _ h=>h,fun _ h=>.inl h,?_⟩;exact .tuple _ [_,_] (.cons (.agg _ [_,_,_] (.cons (.int _ _) (.cons (.int _ _) (.cons (.imm _ _ _ (.inl ⟨rfl,rfl⟩)) .nil)))) (.cons (.int _ _) .nil))
    ·omega
   ·rename_i hge;cases hT;refine⟨rfl,rfl,key.mono ?_⟩;rintro e w' ⟨hb,⟨h,_⟩|⟨_,u,rfl,ho⟩⟩
    ·exact absurd h hge
    ·refine⟨_,fun m=>X.M m\/u.ownBlock=some m,rfl,hb,fun _ h=>.inl h,fun m h=>?_,?_⟩
     ·rcases h with h|h
      ·exact .inl h
      ·exact .inr (ho.lt m h)
     ·exact .tuple _ [_,_] (.cons (.agg _ [_,_,_] (.cons (.int _ _) (.cons (.int _ _) (.cons (.imm _ _ _ (qEj ho fun b hb=>.inr hb)) .nil)))) (.cons (.int _ _) .nil))
  ·cases hT
 ·cases hT
end Go.Eng

namespace Go.Eng
open Go.Proofs
open Tryz
noncomputable def q1l:List (TypeId×TI):=[(1,(.mk .func 1 [.nilFunc] 8 false false)),(2,(.mk (.int .i64) 1 [(.int .i64 0)] 8 false false)),(3,(.mk (.int .i64) 1 [(.int .i64 0)] 8 false false)),(4,(.mk .bool 1 [(.bool false)] 1 false false)),(5,(.mk (.int .u8) 1 [(.int .u8 0)] 1 false false)),(6,(.mk (.int .u8) 1 [(.int .u8 0)] 1 false false)),(7,(.mk (.struct [(0,(2,1)),(1,(3,1)),(2,(4,1)),(3,(6,1))]) 4 [(.int .i64 0),(.int .i64 0),(.bool false),(.int .u8 0)] 24 true true)),(8,(.mk (.struct [(0,(2,1)),(1,(3,1)),(2,(4,1)),(3,(6,1))]) 4 [(.int .i64 0),(.int .i64 0),(.bool false),(.int .u8 0)] 24 true true)),(9,(.mk .str 1 [(.string (.mk (.mk [])))] 16 false false)),(10,(.mk .str 1 [(.string (.mk (.mk [])))] 16 false false)),(11,(.mk .str 1 [(.string (.mk (.mk [])))] 16 false false)),(12,(.mk (.int .u64) 1 [(.int .u64 0)] 8 false false)),(13,(.mk (.struct [(0,(9,1)),(1,(12,1))]) 2 [(.string (.mk (.mk []))),(.int .u64 0)] 24 false true)),(14,(.mk (.struct [(0,(9,1)),(1,(12,1))]) 2 [(.string (.mk (.mk []))),(.int .u64 0)] 24 false true)),(16,(.mk (.ptr 507) 1 [(.pointer .none)] 8 false false)),(17,(.mk (.ptr 515) 1 [(.pointer .none)] 8 false false)),(18,(.mk (.struct [(0,(17,1))]) 1 [(.pointer .none)] 8 false true)),(24,(.mk (.struct [(0,(3,1)),(1,(3,1))]) 2 [(.int .i64 0),(.int .i64 0)] 16 true true)),(25,(.mk (.int .i64) 1 [(.int .i64 0)] 8 false false)),(29,(.mk (.slice 34 5) 1 [(.slice .none 0 0)] 24 false false)),(30,(.mk (.slice 36 2) 1 [(.slice .none 0 0)] 24 false false)),(32,(.mk (.struct [(0,(29,1)),(1,(30,1)),(2,(24,2))]) 4 [(.slice .none 0 0),(.slice .none 0 0),(.int .i64 0),(.int .i64 0)] 64 true true)),(34,(.mk (.struct [(0,(9,1)),(1,(9,1)),(2,(3,1)),(3,(24,2))]) 5 [(.string (.mk (.mk []))),(.string (.mk (.mk []))),(.int .i64 0),(.int .i64 0),(.int .i64 0)] 56 true true)),(36,(.mk (.struct [(0,(3,1)),(1,(4,1))]) 2 [(.int .i64 0),(.bool false)] 16 true true)),(38,(.mk (.slice 3 1) 1 [(.slice .none 0 0)] 24 false false)),(44,(.mk (.slice 71 3) 1 [(.slice .none 0 0)] 24 false false)),(45,(.mk (.struct [(0,(3,1)),(1,(44,1)),(2,(44,1))]) 3 [(.int .i64 0),(.slice .none 0 0),(.slice .none 0 0)] 56 true true)),(46,(.mk (.struct [(0,(3,1)),(1,(44,1)),(2,(44,1))]) 3 [(.int .i64 0),(.slice .none 0 0),(.slice .none 0 0)] 56 true true)),(47,(.mk .func 1 [.nilFunc] 8 false false)),(48,(.mk (.struct [(0,(3,1)),(1,(44,1)),(2,(44,1))]) 3 [(.int .i64 0),(.slice .none 0 0),(.slice .none 0 0)] 56 true true)),(49,(.mk .func 1 [.nilFunc] 8 false false)),(51,(.mk .func 1 [.nilFunc] 8 false false)),(52,(.mk .func 1 [.nilFunc] 8 false false)),(54,(.mk .func 1 [.nilFunc] 8 false false)),(55,(.mk .func 1 [.nilFunc] 8 false false)),(56,(.mk .func 1 [.nilFunc] 8 false false)),(57,(.mk .func 1 [.nilFunc] 8 false false)),(58,(.mk (.slice 68 2) 1 [(.slice .none 0 0)] 24 false false)),(64,(.mk .func 1 [.nilFunc] 8 false false)),(66,(.mk (.slice 73 6) 1 [(.slice .none 0 0)] 24 false false)),(68,(.mk (.struct [(0,(3,1)),(1,(3,1))]) 2 [(.int .i64 0),(.int .i64 0)] 16 true true)),(71,(.mk (.struct [(0,(3,1)),(1,(3,1)),(2,(3,1))]) 3 [(.int .i64 0),(.int .i64 0),(.int .i64 0)] 24 true true)),(73,(.mk (.struct [(0,(71,3)),(3,(71,3))]) 6 [(.int .i64 0),(.int .i64 0),(.int .i64 0),(.int .i64 0),(.int .i64 0),(.int .i64 0)] 48 true true)),(77,(.mk (.slice 168 6) 1 [(.slice .none 0 0)] 24 false false)),(96,(.mk (.array 3 3 1) 3 [(.int .i64 0),(.int .i64 0),(.int .i64 0)] 24 false false)),(97,(.mk .func 1 [.nilFunc] 8 false false)),(99,(.mk .func 1 [.nilFunc] 8 false false)),(100,(.mk (.int .u16) 1 [(.int .u16 0)] 2 false false)),(101,(.mk .func 1 [.nilFunc] 8 false false)),(103,(.mk (.struct [(0,(3,1)),(1,(58,1))]) 2 [(.int .i64 0),(.slice .none 0 0)] 32 true true)),(104,(.mk (.slice 103 2) 1 [(.slice .none 0 0)] 24 false false)),(105,(.mk .func 1 [.nilFunc] 8 false false)),(108,(.mk .str 1 [(.string (.mk (.mk [])))] 16 false false)),(109,(.mk .func 1 [.nilFunc] 8 false false)),(110,(.mk (.struct [(0,(108,1)),(1,(108,1))]) 2 [(.string (.mk (.mk []))),(.string (.mk (.mk [])))] 32 true true)),(111,(.mk (.struct [(0,(108,1)),(1,(108,1))]) 2 [(.string (.mk (.mk []))),(.string (.mk (.mk [])))] 32 true true)),(112,(.mk .func 1 [.nilFunc] 8 false false)),(115,(.mk .func 1 [.nilFunc] 8 false false)),(116,(.mk .func 1 [.nilFunc] 8 false false)),(120,(.mk .func 1 [.nilFunc] 8 false false)),(121,(.mk (.struct [(0,(3,1)),(1,(3,1)),(2,(3,1))]) 3 [(.int .i64 0),(.int .i64 0),(.int .i64 0)] 24 true true)),(128,(.mk .func 1 [.nilFunc] 8 false false)),(145,(.mk (.array 2 44 1) 2 [(.slice .none 0 0),(.slice .none 0 0)] 48 false false)),(147,(.mk (.array 2 3 1) 2 [(.int .i64 0),(.int .i64 0)] 16 false false)),(149,(.mk .func 1 [.nilFunc] 8 false false)),(162,(.mk (.struct [(0,(3,1)),(1,(3,1))]) 2 [(.int .i64 0),(.int .i64 0)] 16 true true)),(167,(.mk .func 1 [.nilFunc] 8 false false)),(168,(.mk (.struct [(0,(71,3)),(3,(71,3))]) 6 [(.int .i64 0),(.int .i64 0),(.int .i64 0),(.int .i64 0),(.int .i64 0),(.int .i64 0)] 48 true true)),(179,(.mk (.struct [(0,(111,2)),(2,(108,1)),(3,(108,1))]) 4 [(.string (.mk (.mk []))),(.string (.mk (.mk []))),(.string (.mk (.mk []))),(.string (.mk (.mk [])))] 64 true true)),(183,(.mk .str 1 [(.string (.mk (.mk [])))] 16 false false)),(188,(.mk .func 1 [.nilFunc] 8 false false)),(191,(.mk .func 1 [.nilFunc] 8 false false)),(208,(.mk .func 1 [.nilFunc] 8 false false)),(209,(.mk .func 1 [.nilFunc] 8 false false)),(211,(.mk (.array 3 108 1) 3 [(.string (.mk (.mk []))),(.string (.mk (.mk []))),(.string (.mk (.mk [])))] 48 false false)),(212,(.mk (.slice 108 1) 1 [(.slice .none 0 0)] 24 false false)),(214,(.mk (.struct [(0,(211,3)),(3,(108,1)),(4,(212,1))]) 5 [(.string (.mk (.mk []))),(.string (.mk (.mk []))),(.string (.mk (.mk []))),(.string (.mk (.mk []))),(.slice .none 0 0)] 88 true true)),(220,(.mk (.ptr 227) 1 [(.pointer .none)] 8 false false)),(227,(.mk (.struct [(0,(25,1))]) 1 [(.int .i64 0)] 8 true true)),(232,(.mk (.slice 183 1) 1 [(.slice .none 0 0)] 24 false false)),(238,(.mk (.struct [(0,(3,1)),(1,(3,1)),(2,(3,1))]) 3 [(.int .i64 0),(.int .i64 0),(.int .i64 0)] 24 true true)),(243,(.mk (.slice 58 1) 1 [(.slice .none 0 0)] 24 false false)),(245,(.mk (.struct [(0,(3,1)),(1,(3,1))]) 2 [(.int .i64 0),(.int .i64 0)] 16 true true)),(248,(.mk (.ptr 250) 1 [(.pointer .none)] 8 false false)),(250,(.mk (.struct [(0,(25,1))]) 1 [(.int .i64 0)] 8 true true)),(254,(.mk .func 1 [.nilFunc] 8 false false)),(255,(.mk .func 1 [.nilFunc] 8 false false)),(258,(.mk (.struct [(0,(68,2)),(2,(68,2))]) 4 [(.int .i64 0),(.int .i64 0),(.int .i64 0),(.int .i64 0)] 32 true true)),(277,(.mk .func 1 [.nilFunc] 8 false false)),(278,(.mk .func 1 [.nilFunc] 8 false false)),(282,(.mk .func 1 [.nilFunc] 8 false false)),(284,(.mk .func 1 [.nilFunc] 8 false false)),(285,(.mk .func 1 [.nilFunc] 8 false false)),(293,(.mk (.slice 38 1) 1 [(.slice .none 0 0)] 24 false false)),(305,(.mk (.slice 5 1) 1 [(.slice .none 0 0)] 24 false false)),(306,(.mk .func 1 [.nilFunc] 8 false false)),(307,(.mk .func 1 [.nilFunc] 8 false false)),(311,(.mk .func 1 [.nilFunc] 8 false false)),(327,(.mk .func 1 [.nilFunc] 8 false false)),(336,(.mk (.ptr 384) 1 [(.pointer .none)] 8 false false)),(342,(.mk (.slice 212 1) 1 [(.slice .none 0 0)] 24 false false)),(350,(.mk .func 1 [.nilFunc] 8 false false)),(351,(.mk (.ptr 103) 1 [(.pointer .none)] 8 false false)),(370,(.mk (.struct [(0,(3,1)),(1,(3,1)),(2,(212,1))]) 3 [(.int .i64 0),(.int .i64 0),(.slice .none 0 0)] 40 true true)),(382,(.mk (.array 232 3 1) 232 (List.replicate 232 (.int .i64 0)) 1856 false false)),(384,(.mk (.struct [(0,(4,1)),(1,(3,1)),(2,(382,232))]) 234 (List.append [(.bool false)] (List.replicate 233 (.int .i64 0))) 1872 true true)),(400,(.mk (.int .u64) 1 [(.int .u64 0)] 8 false false)),(417,(.mk .func 1 [.nilFunc] 8 false false)),(425,(.mk (.struct [(0,(25,1))]) 1 [(.int .i64 0)] 8 true true)),(429,(.mk (.ptr 425) 1 [(.pointer .none)] 8 false false)),(456,(.mk (.array 20 400 1) 20 [(.int .u64 0),(.int .u64 0),(.int .u64 0),(.int .u64 0),(.int .u64 0),(.int .u64 0),(.int .u64 0),(.int .u64 0),(.int .u64 0),(.int .u64 0),(.int .u64 0),(.int .u64 0),(.int .u64 0),(.int .u64 0),(.int .u64 0),(.int .u64 0),(.int .u64 0),(.int .u64 0),(.int .u64 0),(.int .u64 0)] 160 false false)),(464,(.mk .func 1 [.nilFunc] 8 false false))]
noncomputable def qa:List (Nat×AV):=[(2,(.eptr [.int .u64,.int .u64,.int .u64,.int .u64,.int .u64,.int .u64,.int .u64,.int .u64,.int .u64,.int .u64,.int .u64,.int .u64,.int .u64,.int .u64,.int .u64,.int .u64,.int .u64,.int .u64,.int .u64,.int .u64] [[.i 1,.i 10,.i 100,.i 1000,.i 10000,.i 100000,.i 1000000,.i 10000000,.i 100000000,.i 1000000000,.i 10000000000,.i 100000000000,.i 1000000000000,.i 10000000000000,.i 100000000000000,.i 1000000000000000,.i 10000000000000000,.i 100000000000000000,.i 1000000000000000000,.i 10000000000000000000]] 0 0))]
theorem q8:q1l.map (fun x=>qzt prog x.1)=q1l.map (·.2):=by kernel_rfl
theorem qc:prog.follows .mixedOrders=true:=by kernel_rfl
noncomputable def qe(s:List (FuncId×(List AV->List Blk->Tree (AV×List Blk))))(b:List (FuncId×Func))(l:List ((FuncId×Nat)×(St->Tree (Ex×St))))(n:Nat):Env:=⟨q1l,qa,s,b,l,n,[],[],[]⟩
def qaB:FIn:=⟨[(.imm [(.int .i64),(.int .i64),(.int .i64)])],[]⟩
def qa6:List FOut:=[⟨.bool,[],none⟩]
noncomputable def qhK:=qe [] [(66,f66)] [] 0
noncomputable def kp:=qj qhK 66 f66 true qaB qa6
theorem qnk:qx prog qa 66 (q9 qaB qa6 kp):=sk qhK qc q8 aln aln (b1 func66) func66
def q5x:FIn:=⟨[(.agg [(.int .i64),(.imm [(.int .i64),(.int .i64),(.int .i64)]),(.imm [(.int .i64),(.int .i64),(.int .i64)])])],[]⟩
def q5f:List FOut:=[⟨.bool,[],none⟩]
noncomputable def qhS:=qe [(66,q9 qaB qa6 kp)] [(18,f18)] [] 0
noncomputable def yt:=qj qhS 18 f18 true q5x q5f
theorem qca:qx prog qa 18 (q9 q5x q5f yt):=sk qhS qc q8 (alc qnk aln) aln (b1 func18) func18
def q7j:FIn:=⟨[(.int .i64)],[]⟩
def q6H:List FOut:=[⟨.bool,[],none⟩]
noncomputable def qkc:=qe [] [(149,f149)] [] 0
noncomputable def qU:=qj qkc 149 f149 true q7j q6H
theorem qeg:qx prog qa 149 (q9 q7j q6H qU):=sk qkc qc q8 aln aln (b1 func149) func149
def q1r:FIn:=⟨[(.agg [(.int .i64),(.int .i64),(.int .i64)])],[]⟩
def q1I:List FOut:=[⟨.bool,[],none⟩]
noncomputable def qnQ:=qe [(149,q9 q7j q6H qU)] [(126,f126)] [] 0
noncomputable def yM:=qj qnQ 126 f126 true q1r q1I
theorem q1W:qx prog qa 126 (q9 q1r q1I yM):=sk qnQ qc q8 (alc qeg aln) aln (b1 func126) func126
def kF:FIn:=⟨[(.fn 126 [] []),(.imm [(.int .i64),(.int .i64),(.int .i64)])],[]⟩
def kU:List FOut:=[⟨(.int .i64),[],none⟩]
def q1K:Tmpl:={ t:=((.fn 126 [] [])::qt 6 ((.imm [(.int .i64),(.int .i64),(.int .i64)])::(.int .i64)::(.int .i64)::qt 8 [])),h:=[] }
def q1M:List Out:=[⟨(.exit 0),{ t:=(qt 18 []),h:=[] }⟩,⟨.ret,{ t:=(qt 4 ((.int .i64)::qt 13 [])),h:=[] }⟩]
noncomputable def u4:=qe [(126,q9 q1r q1I yM)] [(150,f150)] [] 0
noncomputable def zx:=wT u4 150 f150 3 q1K q1M
theorem qdx:qk prog qa u4.nimp (qq prog u4.iter 150) (z7 f150 3) (qh q1K q1M (qf zx)):=gk u4 qc q8 (alc q1W aln) aln (b1 func150) func150
noncomputable def q9J:=qe [(126,q9 q1r q1I yM)] [(150,f150)] [((150,3),qh q1K q1M (qf zx))] 0
noncomputable def zu:=qj q9J 150 f150 true kF kU
theorem q62:qx prog qa 150 (q9 kF kU zu):=sk q9J qc q8 (alc q1W aln) (alc (lk func150 qdx) aln) (b1 func150) func150
def q0c:FIn:=⟨[(.imm [(.int .i64),(.int .i64),(.int .i64)]),(.fn 126 [] [])],[]⟩
def q06:List FOut:=[⟨(.int .i64),[],none⟩]
noncomputable def q4M:=qe [(126,q9 q1r q1I yM),(150,q9 kF kU zu)] [(125,f125)] [] 0
noncomputable def wM:=qj q4M 125 f125 true q0c q06
theorem qbv:qx prog qa 125 (q9 q0c q06 wM):=sk q4M qc q8 (alc q1W (alc q62 aln)) aln (b1 func125) func125
def q1u:FIn:=⟨[(.imm [(.int .i64),(.int .i64),(.int .i64)])],[]⟩
def q1E:List FOut:=[⟨(.int .i64),[],none⟩]
noncomputable def qc8:=qe [(125,q9 q0c q06 wM),(126,q9 q1r q1I yM)] [(72,f72)] [] 0
noncomputable def wY:=qj qc8 72 f72 true q1u q1E
theorem q86:qx prog qa 72 (q9 q1u q1E wY):=sk qc8 qc q8 (alc qbv (alc q1W aln)) aln (b1 func72) func72
def yH:FIn:=⟨[(.agg [(.int .i64),(.int .i64),(.int .i64)]),(.ptr 0 0)],[.cells [(.int .i64)]]⟩
def yI:List FOut:=[⟨(.int .i64),[.cells [(.int .i64)]],none⟩]
noncomputable def qaL:=qe [] [(127,f127)] [] 1
noncomputable def qF:=qj qaL 127 f127 true yH yI
theorem q1w:qx prog qa 127 (q9 yH yI qF):=sk qaL qc q8 aln aln (b1 func127) func127
def q0S:FIn:=⟨[(.imm [(.int .i64),(.int .i64),(.int .i64)]),(.fn 127 [] [(.ptr 0 0)])],[.cells [(.int .i64)]]⟩
def q0R:List FOut:=[⟨(.agg [(.int .i64),(.int .i64)]),[.cells [(.int .i64)]],none⟩]
def ka:Tmpl:={ t:=((.imm [(.int .i64),(.int .i64),(.int .i64)])::(.fn 127 [] [(.ptr 0 0)])::.any::.any::(.ptr 1 0)::(.ptr 2 0)::.any::.any::(.imm [(.int .i64),(.int .i64),(.int .i64)])::(.int .i64)::(.int .i64)::qt 32 []),h:=[.cells [(.int .i64)],.cells [(.int .i64),(.int .i64)],.cells [(.int .i64),(.int .i64)]] }
def kh:List Out:=[⟨(.exit 0),{ t:=(qt 4 ((.ptr 1 0)::(.ptr 2 0)::qt 37 [])),h:=[.cells [(.int .i64)],.cells [(.int .i64),(.int .i64)],.cells [(.int .i64),(.int .i64)]] }⟩]
noncomputable def ji:=qe [(127,q9 yH yI qF)] [(128,f128)] [] 1
noncomputable def zv:=wT ji 128 f128 4 ka kh
theorem qa0:qk prog qa ji.nimp (qq prog ji.iter 128) (z7 f128 4) (qh ka kh (qf zv)):=gk ji qc q8 (alc q1w aln) aln (b1 func128) func128
noncomputable def q69:=qe [(127,q9 yH yI qF)] [(128,f128)] [((128,4),qh ka kh (qf zv))] 1
noncomputable def vb:=qj q69 128 f128 true q0S q0R
theorem qcC:qx prog qa 128 (q9 q0S q0R vb):=sk q69 qc q8 (alc q1w aln) (alc (lk func128 qa0) aln) (b1 func128) func128
def kD:FIn:=⟨[(.imm [(.int .i64),(.int .i64),(.int .i64)]),(.int .i64)],[]⟩
def kA:List FOut:=[⟨(.agg [(.int .i64),(.int .i64)]),[],none⟩]
noncomputable def qdE:=qe [(127,q9 yH yI qF),(128,q9 q0S q0R vb)] [(73,f73)] [] 0
noncomputable def zn:=qj qdE 73 f73 true kD kA
theorem q35:qx prog qa 73 (q9 kD kA zn):=sk qdE qc q8 (alc q1w (alc qcC aln)) aln (b1 func73) func73
def q9n:FIn:=⟨[(.agg [(.int .i64),(.imm [(.int .i64),(.int .i64),(.int .i64)]),(.imm [(.int .i64),(.int .i64),(.int .i64)])])],[]⟩
def q9G:List FOut:=[⟨(.int .i64),[],none⟩]
def qf4:Tmpl:={ t:=(.any::(.ptr 0 0)::qt 16 ((.agg [(.imm [(.int .i64),(.int .i64),(.int .i64)]),(.imm [(.int .i64),(.int .i64),(.int .i64)])])::(.int .i64)::qt 24 [])),h:=[.cells [(.int .i64),(.imm [(.int .i64),(.int .i64),(.int .i64)]),(.imm [(.int .i64),(.int .i64),(.int .i64)])]] }
def qff:List Out:=[⟨(.exit 0),{ t:=(.any::(.ptr 0 0)::qt 42 []),h:=[.cells [(.int .i64),(.imm [(.int .i64),(.int .i64),(.int .i64)]),(.imm [(.int .i64),(.int .i64),(.int .i64)])]] }⟩,⟨.ret,{ t:=(.any::.any::(.int .i64)::qt 41 []),h:=[] }⟩]
noncomputable def q8Y:=qe [(72,q9 q1u q1E wY),(73,q9 kD kA zn)] [(24,f24)] [] 0
noncomputable def jD:=wT q8Y 24 f24 6 qf4 qff
theorem qqz:qk prog qa q8Y.nimp (qq prog q8Y.iter 24) (z7 f24 6) (qh qf4 qff (qf jD)):=gk q8Y qc q8 (alc q86 (alc q35 aln)) aln (b1 func24) func24
noncomputable def qqW:=qe [(72,q9 q1u q1E wY),(73,q9 kD kA zn)] [(24,f24)] [((24,6),qh qf4 qff (qf jD))] 0
noncomputable def jN:=qj qqW 24 f24 true q9n q9G
theorem qcQ:qx prog qa 24 (q9 q9n q9G jN):=sk qqW qc q8 (alc q86 (alc q35 aln)) (alc (lk func24 qqz) aln) (b1 func24) func24
def q6K:FIn:=⟨[(.agg [(.int .i64),(.imm [(.int .i64),(.int .i64),(.int .i64)]),(.imm [(.int .i64),(.int .i64),(.int .i64)])])],[]⟩
def q6p:List FOut:=[⟨(.agg [(.int .i64),(.int .i64)]),[],none⟩]
noncomputable def qoL:=qe [(73,q9 kD kA zn)] [(68,f68)] [] 0
noncomputable def yX:=qj qoL 68 f68 true q6K q6p
theorem qay:qx prog qa 68 (q9 q6K q6p yX):=sk qoL qc q8 (alc q35 aln) aln (b1 func68) func68
def qbc:FIn:=⟨[(.agg [(.int .i64),(.imm [(.int .i64),(.int .i64),(.int .i64)]),(.imm [(.int .i64),(.int .i64),(.int .i64)])]),.bool],[]⟩
def qb3:List FOut:=[⟨(.tuple [(.int .i64),(.int .i64)]),[],none⟩]
noncomputable def qoj:=qe [(24,q9 q9n q9G jN),(68,q9 q6K q6p yX)] [(20,f20)] [] 0
noncomputable def yP:=qj qoj 20 f20 true qbc qb3
theorem qii:qx prog qa 20 (q9 qbc qb3 yP):=sk qoj qc q8 (alc qcQ (alc qay aln)) aln (b1 func20) func20
def qhD:FIn:=⟨[(.agg [(.int .i64),(.imm [(.int .i64),(.int .i64),(.int .i64)]),(.imm [(.int .i64),(.int .i64),(.int .i64)])])],[]⟩
def qgP:List FOut:=[⟨(.tuple [(.agg [(.int .i64),(.int .i64)]),(.int .i64)]),[],none⟩]
noncomputable def qo5:=qe [(24,q9 q9n q9G jN),(68,q9 q6K q6p yX)] [(22,f22)] [] 0
noncomputable def q7p:=qj qo5 22 f22 true qhD qgP
theorem qrY:qx prog qa 22 (q9 qhD qgP q7p):=sk qo5 qc q8 (alc qcQ (alc qay aln)) aln (b1 func22) func22
def qlC:FIn:=⟨[(.int .i64)],[]⟩
def qly:List FOut:=[⟨.str,[],none⟩]
noncomputable def q4Q:List PV->TR:=qFL
set_option maxRecDepth 100000 in
theorem qqP:qx prog qa 166 (q9 qlC qly q4Q):=qDI laysM171 (uu func166 (by kernel_rfl) (by kernel_rfl)) (by kernel_rfl) (by unfold qa;exact qOx)
def q4a:FIn:=⟨[(.int .i64)],[]⟩
def q3R:List FOut:=[⟨.str,[],none⟩]
noncomputable def qvX:=qe [(166,q9 qlC qly q4Q)] [(105,f105)] [] 0
noncomputable def za:=qj qvX 105 f105 true q4a q3R
theorem q1h:qx prog qa 105 (q9 q4a q3R za):=sk qvX qc q8 (alc qqP aln) aln (b1 func105) func105
def jK:FIn:=⟨[(.int .i64)],[]⟩
def jG:List FOut:=[⟨.str,[],none⟩]
noncomputable def qo9:=qe [(105,q9 q4a q3R za)] [(53,f53)] [] 0
noncomputable def qw:=qj qo9 53 f53 true jK jG
theorem jf:qx prog qa 53 (q9 jK jG qw):=sk qo9 qc q8 (alc q1h aln) aln (b1 func53) func53
def ky:FIn:=⟨[(.agg [(.int .i64),(.int .i64)])],[]⟩
def kW:List FOut:=[⟨.bool,[],none⟩]
noncomputable def qnP:=qe [(149,q9 q7j q6H qU)] [(84,f84)] [] 0
noncomputable def jB:=qj qnP 84 f84 true ky kW
theorem ki:qx prog qa 84 (q9 ky kW jB):=sk qnP qc q8 (alc qeg aln) aln (b1 func84) func84
def jm:FIn:=⟨[(.fn 84 [] []),(.imm [(.int .i64),(.int .i64)])],[]⟩
def jj:List FOut:=[⟨(.int .i64),[],none⟩]
def q0V:Tmpl:={ t:=((.fn 84 [] [])::qt 6 ((.imm [(.int .i64),(.int .i64)])::(.int .i64)::(.int .i64)::qt 8 [])),h:=[] }
def q0W:List Out:=[⟨(.exit 0),{ t:=(qt 18 []),h:=[] }⟩,⟨.ret,{ t:=(qt 4 ((.int .i64)::qt 13 [])),h:=[] }⟩]
noncomputable def yi:=qe [(84,q9 ky kW jB)] [(83,f83)] [] 0
noncomputable def zk:=wT yi 83 f83 3 q0V q0W
theorem qdc:qk prog qa yi.nimp (qq prog yi.iter 83) (z7 f83 3) (qh q0V q0W (qf zk)):=gk yi qc q8 (alc ki aln) aln (b1 func83) func83
noncomputable def q8a:=qe [(84,q9 ky kW jB)] [(83,f83)] [((83,3),qh q0V q0W (qf zk))] 0
noncomputable def qM:=qj q8a 83 f83 true jm jj
theorem q02:qx prog qa 83 (q9 jm jj qM):=sk q8a qc q8 (alc ki aln) (alc (lk func83 qdc) aln) (b1 func83) func83
def k8:FIn:=⟨[(.imm [(.int .i64),(.int .i64)]),(.fn 84 [] [])],[]⟩
def ke:List FOut:=[⟨(.int .i64),[],none⟩]
noncomputable def q4i:=qe [(83,q9 jm jj qM),(84,q9 ky kW jB)] [(167,f167)] [] 0
noncomputable def wo:=qj q4i 167 f167 true k8 ke
theorem qa7:qx prog qa 167 (q9 k8 ke wo):=sk q4i qc q8 (alc q02 (alc ki aln)) aln (b1 func167) func167
def vO:FIn:=⟨[(.imm [(.int .i64),(.int .i64)])],[]⟩
def vK:List FOut:=[⟨(.int .i64),[],none⟩]
noncomputable def qlE:=qe [(84,q9 ky kW jB),(167,q9 k8 ke wo)] [(106,f106)] [] 0
noncomputable def qI:=qj qlE 106 f106 true vO vK
theorem vg:qx prog qa 106 (q9 vO vK qI):=sk qlE qc q8 (alc ki (alc qa7 aln)) aln (b1 func106) func106
def qek:FIn:=⟨[(.int .i64)],[]⟩
def qeT:List FOut:=[⟨(.int .i64),[],none⟩]
noncomputable def qme:=qe [] [(183,f183)] [] 0
noncomputable def q55:=qj qme 183 f183 true qek qeT
theorem qqi:qx prog qa 183 (q9 qek qeT q55):=sk qme qc q8 aln aln (b1 func183) func183
def qfh:FIn:=⟨[(.imm [(.int .i64),(.int .i64)])],[]⟩
def qf9:List FOut:=[⟨(.int .i64),[],none⟩]
noncomputable def qlS:=qe [(106,q9 vO vK qI),(183,q9 qek qeT q55)] [(130,f130)] [] 0
noncomputable def q4O:=qj qlS 130 f130 true qfh qf9
theorem qqH:qx prog qa 130 (q9 qfh qf9 q4O):=sk qlS qc q8 (alc vg (alc qqi aln)) aln (b1 func130) func130
def q2s:FIn:=⟨[(.imm [(.int .i64)])],[]⟩
def q2F:List FOut:=[⟨(.vec 0),[.vec 3 [(.int .i64)]],none⟩]
noncomputable def qiF:=qe [] [(227,f227)] [] 0
abbrev q6b:=q2s
abbrev q6h:=q2F
noncomputable abbrev q6k:=qiF
noncomputable def q61:=qj q6k 227 f227 false q6b q6h
theorem qd3:qx prog qa 227 (q9 q6b q6h q61):=qq7 (E:=q6k) qc ⟨um q8,⟨aln,aln⟩,aln,(b1 func227)⟩ func227 (by kernel_rfl) (by kernel_rfl) (fun _=>rfl)
theorem qf1(x0:R):q61 [.r x0]=(.br (ilt 0 (qg x0)) (.br (ile ((qg [])+(qg x0)) 17592186044416) (.leaf (0,[(.r (yB [] x0))])) .fail) .fail):=by kernel_rfl
def qgq:Go.Shelf.Ren:=⟨fun|41=>227|n=>n,fun|4=>4|22=>38|23=>3|n=>n,fun n=>n⟩
noncomputable def wH:=qFj
theorem qev:qx prog qa 227 (q9 q2s q2F wH):=qE9 (ρ:=qgq) ⟨by kernel_rfl,⟨ "slices.Clone[[]int,int]",by decide,func227.trans (congrArg some (by kernel_rfl))⟩,underlying4,isAgg4,sizeOf4,zeroValue4,underlying38,isAgg38,sizeOf38,zeroValue38,underlying3,isAgg3,sizeOf3,zeroValue3,by kernel_rfl⟩ qd3 (qHW qf1)
def zR:FIn:=⟨[.str,.str],[]⟩
def zS:List FOut:=[⟨.bool,[],none⟩]
noncomputable def q0g:=qe [] [(289,f289)] [] 0
noncomputable def qD:=qj q0g 289 f289 true zR zS
theorem uH:qx prog qa 289 (q9 zR zS qD):=sk q0g qc q8 aln aln (b1 func289) func289
def vS:FIn:=⟨[.str,.str],[]⟩
def vV:List FOut:=[⟨.str,[],none⟩]
noncomputable def kX:=qe [(289,q9 zR zS qD)] [(245,f245)] [] 0
noncomputable def zc:=qj kX 245 f245 true vS vV
theorem q4W:qx prog qa 245 (q9 vS vV zc):=sk kX qc q8 (alc uH aln) aln (b1 func245) func245
def yL:FIn:=⟨[.str,.str],[]⟩
def yD:List FOut:=[⟨.str,[],none⟩]
noncomputable def qb0:=qe [(245,q9 vS vV zc)] [(194,f194)] [] 0
noncomputable def qX:=qj qb0 194 f194 true yL yD
theorem q1d:qx prog qa 194 (q9 yL yD qX):=sk qb0 qc q8 (alc q4W aln) aln (b1 func194) func194
def qlq:FIn:=⟨[.str,.str],[]⟩
def qlI:List FOut:=[⟨.str,[],none⟩]
noncomputable def q8W:List PV->TR:=qEK
set_option maxRecDepth 100000 in
theorem qq5:qx prog qa 295 (q9 qlq qlI q8W):=qDS lays160 (uu func295 (by kernel_rfl) (by kernel_rfl)) (by kernel_rfl)
def jH:FIn:=⟨[.str],[]⟩
def jz:List FOut:=[⟨(.int .i64),[],none⟩]
noncomputable def qoW:=qe [(194,q9 yL yD qX),(295,q9 qlq qlI q8W)] [(242,f242)] [] 0
noncomputable def qG:=qj qoW 242 f242 true jH jz
theorem je:qx prog qa 242 (q9 jH jz qG):=sk qoW qc q8 (alc q1d (alc qq5 aln)) aln (b1 func242) func242
def q38:FIn:=⟨[(.imm [.str])],[]⟩
def q3o:List FOut:=[⟨(.int .i64),[],none⟩]
def qgD:Tmpl:={ t:=(qt 6 ((.imm [.str])::(.int .i64)::(.int .i64)::qt 9 [])),h:=[] }
def qgU:List Out:=[⟨(.exit 0),{ t:=(qt 18 []),h:=[] }⟩,⟨.ret,{ t:=(.any::.any::(.int .i64)::qt 15 []),h:=[] }⟩]
noncomputable def qb9:=qe [(242,q9 jH jz qG)] [(191,f191)] [] 0
noncomputable def q6E:=wT qb9 191 f191 3 qgD qgU
theorem qrv:qk prog qa qb9.nimp (qq prog qb9.iter 191) (z7 f191 3) (qh qgD qgU (qf q6E)):=gk qb9 qc q8 (alc je aln) aln (b1 func191) func191
noncomputable def qsT:=qe [(242,q9 jH jz qG)] [(191,f191)] [((191,3),qh qgD qgU (qf q6E))] 0
noncomputable def wy:=qj qsT 191 f191 true q38 q3o
theorem q2d:qx prog qa 191 (q9 q38 q3o wy):=sk qsT qc q8 (alc je aln) (alc (lk func191 qrv) aln) (b1 func191) func191
def qeA:FIn:=⟨[.str],[]⟩
def qfd:List FOut:=[⟨(.tuple [(.int .i64),.any]),[],none⟩]
noncomputable def jJ:List PV->TR:=qGH
set_option maxRecDepth 100000 in
theorem qgp:qx prog qa 292 (q9 qeA qfd jJ):=qEe lays172 (uu func292 (by kernel_rfl) (by kernel_rfl))
def q6Q:FIn:=⟨[.str,.str],[]⟩
def q6q:List FOut:=[⟨(.tuple [(.int .i64),(.int .i64),.bool]),[],none⟩]
noncomputable def qoA:=qe [(292,q9 qeA qfd jJ)] [(237,f237)] [] 0
noncomputable def yN:=qj qoA 237 f237 true q6Q q6q
theorem q9O:qx prog qa 237 (q9 q6Q q6q yN):=sk qoA qc q8 (alc qgp aln) aln (b1 func237) func237
def q8T:FIn:=⟨[(.int .i64)],[]⟩
def q8U:List FOut:=[⟨(.tuple [.str,(.int .i64)]),[],none⟩]
noncomputable def qmd:=qe [(105,q9 q4a q3R za)] [(238,f238)] [] 0
noncomputable def q0d:=qj qmd 238 f238 true q8T q8U
theorem qg4:qx prog qa 238 (q9 q8T q8U q0d):=sk qmd qc q8 (alc q1h aln) aln (b1 func238) func238
def jb:FIn:=⟨[(.ptr 0 0)],[.big [.bool,(.int .i64)] .i64 232]⟩
def j8:List FOut:=[⟨(.ptr 0 0),[.big [.bool,(.int .i64)] .i64 232],none⟩]
def q2p:Tmpl:={ t:=((.ptr 0 0)::qt 28 []),h:=[.big [.bool,(.int .i64)] .i64 232] }
def q2r:List Out:=[⟨(.exit 0),{ t:=((.ptr 0 0)::qt 28 []),h:=[.big [.bool,(.int .i64)] .i64 232] }⟩]
noncomputable def uL:=qe [] [(293,f293)] [] 1
noncomputable def jk:=wT uL 293 f293 2 q2p q2r
theorem qfx:qk prog qa uL.nimp (qq prog uL.iter 293) (z7 f293 2) (qh q2p q2r (qf jk)):=gk uL qc q8 aln aln (b1 func293) func293
noncomputable def qaV:=qe [] [(293,f293)] [((293,2),qh q2p q2r (qf jk))] 1
noncomputable def qO:=qj qaV 293 f293 false jb j8
theorem yT:qx prog qa 293 (q9 jb j8 qO):=qq7 (E:=qaV) qc ⟨um q8,⟨aln,aln⟩,(alc (lk func293 qfx) aln),(b1 func293)⟩ func293 (by kernel_rfl) (by kernel_rfl) (fun _=>rfl)
def q6e:FIn:=⟨[.str],[]⟩
def q6m:List FOut:=[⟨(.ptr 0 0),[.big [.bool,(.int .i64)] .i64 232],none⟩]
def qeZ:Tmpl:={ t:=(.any::.any::.any::.str::(.ptr 0 0)::qt 43 []),h:=[.big [.bool,(.int .i64)] .i64 232] }
def qfb:List Out:=[⟨(.exit 0),{ t:=(qt 4 ((.ptr 0 0)::qt 43 [])),h:=[.big [.bool,(.int .i64)] .i64 232] }⟩]
noncomputable def qhk:List (FuncId×zM):=[(194,q9 yL yD qX),(292,q9 qeA qfd jJ),(293,q9 jb j8 qO)]
theorem qlz:∀x,x∈qhk->qx prog qa x.1 x.2:=(alc q1d (alc qgp (alc yT aln)))
noncomputable def q9b:=qe qhk [(239,f239)] [] 0
noncomputable def q58:=wT q9b 239 f239 5 qeZ qfb
theorem qqe:qk prog qa q9b.nimp (qq prog q9b.iter 239) (z7 f239 5) (qh qeZ qfb (qf q58)):=gk q9b qc q8 qlz aln (b1 func239) func239
noncomputable def qrr:=qe qhk [(239,f239)] [((239,5),qh qeZ qfb (qf q58))] 0
noncomputable def wE:=qj qrr 239 f239 false q6e q6m
theorem q7W:qx prog qa 239 (q9 q6e q6m wE):=qq7 (E:=qrr) qc ⟨um q8,⟨qlz,aln⟩,(alc (lk func239 qqe) aln),(b1 func239)⟩ func239 (by kernel_rfl) (by kernel_rfl) (fun _=>rfl)
def jY:FIn:=⟨[(.ptr 0 0),(.ptr 1 0),(.int .i64),(.int .i64)],[.big [.bool,(.int .i64)] .i64 232,.big [.bool,(.int .i64)] .i64 232]⟩
def yg:List FOut:=[⟨(.tuple []),[.big [.bool,(.int .i64)] .i64 232,.big [.bool,(.int .i64)] .i64 232],none⟩]
def q4q:Tmpl:={ t:=((.ptr 0 0)::(.ptr 1 0)::(.int .i64)::(.int .i64)::qt 4 ((.int .i64)::(.int .i64)::qt 73 [])),h:=[.big [.bool,(.int .i64)] .i64 232,.big [.bool,(.int .i64)] .i64 232] }
def q4C:List Out:=[⟨(.exit 0),{ t:=((.ptr 0 0)::qt 82 []),h:=[.big [.bool,(.int .i64)] .i64 232,.big [.bool,(.int .i64)] .i64 232] }⟩]
noncomputable def q0w:=qe [(293,q9 jb j8 qO)] [(294,f294)] [] 2
noncomputable def j9:=wT q0w 294 f294 3 q4q q4C
theorem qh6:qk prog qa q0w.nimp (qq prog q0w.iter 294) (z7 f294 3) (qh q4q q4C (qf j9)):=gk q0w qc q8 (alc yT aln) aln (b1 func294) func294
noncomputable def qdK:=qe [(293,q9 jb j8 qO)] [(294,f294)] [((294,3),qh q4q q4C (qf j9))] 2
noncomputable def qT:=qj qdK 294 f294 true jY yg
theorem kx:qx prog qa 294 (q9 jY yg qT):=sk qdK qc q8 (alc yT aln) (alc (lk func294 qh6) aln) (b1 func294) func294
def q73:FIn:=⟨[(.ptr 0 0),(.ptr 1 0)],[.big [.bool,(.int .i64)] .i64 232,.big [.bool,(.int .i64)] .i64 232]⟩
def q7T:List FOut:=[⟨(.ptr 2 0),[.big [.bool,(.int .i64)] .i64 232,.big [.bool,(.int .i64)] .i64 232,.big [.bool,(.int .i64)] .i64 232],none⟩]
def q4o:Tmpl:={ t:=((.ptr 0 0)::(.ptr 1 0)::.any::.any::.any::(.ptr 2 0)::qt 15 ((.int .i64)::(.int .i64)::qt 14 [])),h:=[.big [.bool,(.int .i64)] .i64 232,.big [.bool,(.int .i64)] .i64 232,.big [.bool,(.int .i64)] .i64 232] }
def q4w:List Out:=[⟨(.exit 0),{ t:=(qt 5 ((.ptr 2 0)::qt 31 [])),h:=[.big [.bool,(.int .i64)] .i64 232,.big [.bool,(.int .i64)] .i64 232,.big [.bool,(.int .i64)] .i64 232] }⟩]
noncomputable def q0z:=qe [(294,q9 jY yg qT)] [(240,f240)] [] 2
noncomputable def yE:=wT q0z 240 f240 4 q4o q4w
theorem qgB:qk prog qa q0z.nimp (qq prog q0z.iter 240) (z7 f240 4) (qh q4o q4w (qf yE)):=gk q0z qc q8 (alc kx aln) aln (b1 func240) func240
noncomputable def qdU:=qe [(294,q9 jY yg qT)] [(240,f240)] [((240,4),qh q4o q4w (qf yE))] 2
noncomputable def kB:=qj qdU 240 f240 false q73 q7T
theorem qjr:qx prog qa 240 (q9 q73 q7T kB):=qq7 (E:=qdU) qc ⟨um q8,⟨(alc kx aln),aln⟩,(alc (lk func240 qgB) aln),(b1 func240)⟩ func240 (by kernel_rfl) (by kernel_rfl) (fun _=>rfl)
def q4f:FIn:=⟨[(.ptr 0 0)],[.big [.bool,(.int .i64)] .i64 232]⟩
def q3T:List FOut:=[⟨.str,[.big [.bool,(.int .i64)] .i64 232],none⟩]
noncomputable def zm:List PV->TR:=qFr
theorem q4y:qx prog qa 288 (q9 q4f q3T zm):=qEl (by unfold qa;exact qOx)
def q0v:FIn:=⟨[(.ptr 0 0)],[.big [.bool,(.int .i64)] .i64 232]⟩
def q0i:List FOut:=[⟨(.tuple [.str,(.int .i64)]),[.big [.bool,(.int .i64)] .i64 232],none⟩]
noncomputable def qaT:=qe [(242,q9 jH jz qG),(288,q9 q4f q3T zm)] [(241,f241)] [] 1
noncomputable def wz:=qj qaT 241 f241 true q0v q0i
theorem q7R:qx prog qa 241 (q9 q0v q0i wz):=sk qaT qc q8 (alc je (alc q4y aln)) aln (b1 func241) func241
def q8m:FIn:=⟨[.str,.str],[]⟩
def q8d:List FOut:=[⟨(.tuple [.str,(.int .i64)]),[],none⟩]
noncomputable def qtS:=qe [(191,q9 q38 q3o wy),(237,q9 q6Q q6q yN),(238,q9 q8T q8U q0d),(239,q9 q6e q6m wE),(240,q9 q73 q7T kB),(241,q9 q0v q0i wz)] [(188,f188)] [] 0
noncomputable def q1j:=qj qtS 188 f188 true q8m q8d
theorem q91:qx prog qa 188 (q9 q8m q8d q1j):=sk qtS qc q8 (alc q2d (alc q9O (alc qg4 (alc q7W (alc qjr (alc q7R aln)))))) aln (b1 func188) func188
def jx:FIn:=⟨[(.ptr 0 0),(.fn 188 [] []),.str,.str],[.cells [(.int .i64)]]⟩
def jE:List FOut:=[⟨.str,[.cells [(.int .i64)]],none⟩]
noncomputable def q4F:=qe [(188,q9 q8m q8d q1j)] [(187,f187)] [] 1
noncomputable def zF:=qj q4F 187 f187 true jx jE
theorem q2Y:qx prog qa 187 (q9 jx jE zF):=sk q4F qc q8 (alc q91 aln) aln (b1 func187) func187
def yq:FIn:=⟨[(.ptr 0 0),(.imm [.str])],[.cells [(.int .i64)]]⟩
def yw:List FOut:=[⟨.str,[.cells [(.int .i64)]],none⟩]
def q6B:Tmpl:={ t:=(qt 5 (.str::(.fn 187 [(.ptr 0 0)] [])::qt 4 ((.imm [.str])::(.int .i64)::(.int .i64)::qt 9 []))),h:=[.cells [(.int .i64)]] }
def q7P:List Out:=[⟨(.exit 0),{ t:=(qt 5 (.str::qt 17 [])),h:=[.cells [(.int .i64)]] }⟩]
noncomputable def q2M:=qe [(188,q9 q8m q8d q1j),(187,q9 jx jE zF)] [(136,f136)] [] 1
noncomputable def ye:=wT q2M 136 f136 4 q6B q7P
theorem qkq:qk prog qa q2M.nimp (qq prog q2M.iter 136) (z7 f136 4) (qh q6B q7P (qf ye)):=gk q2M qc q8 (alc q91 (alc q2Y aln)) aln (b1 func136) func136
noncomputable def qik:=qe [(188,q9 q8m q8d q1j),(187,q9 jx jE zF)] [(136,f136)] [((136,4),qh q6B q7P (qf ye))] 1
noncomputable def qo:=qj qik 136 f136 true yq yw
theorem uo:qx prog qa 136 (q9 yq yw qo):=sk qik qc q8 (alc q91 (alc q2Y aln)) (alc (lk func136 qkq) aln) (b1 func136) func136
def q1n:FIn:=⟨[(.ptr 0 0),(.ptr 1 0)],[.big [.bool,(.int .i64)] .i64 232,.big [.bool,(.int .i64)] .i64 232]⟩
def q1Q:List FOut:=[⟨(.int .i64),[.big [.bool,(.int .i64)] .i64 232,.big [.bool,(.int .i64)] .i64 232],none⟩]
def q33:Tmpl:={ t:=((.ptr 0 0)::(.ptr 1 0)::.any::.any::.any::(.int .i64)::qt 53 []),h:=[.big [.bool,(.int .i64)] .i64 232,.big [.bool,(.int .i64)] .i64 232] }
def q3q:List Out:=[⟨(.exit 0),{ t:=(qt 59 []),h:=[.big [.bool,(.int .i64)] .i64 232,.big [.bool,(.int .i64)] .i64 232] }⟩,⟨.ret,{ t:=(qt 4 ((.int .i64)::qt 54 [])),h:=[.big [.bool,(.int .i64)] .i64 232,.big [.bool,(.int .i64)] .i64 232] }⟩]
noncomputable def kE:=qe [] [(340,f340)] [] 2
noncomputable def jP:=wT kE 340 f340 6 q33 q3q
theorem qg6:qk prog qa kE.nimp (qq prog kE.iter 340) (z7 f340 6) (qh q33 q3q (qf jP)):=gk kE qc q8 aln aln (b1 func340) func340
noncomputable def qda:=qe [] [(340,f340)] [((340,6),qh q33 q3q (qf jP))] 2
noncomputable def wZ:=qj qda 340 f340 true q1n q1Q
theorem q81:qx prog qa 340 (q9 q1n q1Q wZ):=sk qda qc q8 aln (alc (lk func340 qg6) aln) (b1 func340) func340
def q3I:FIn:=⟨[(.ptr 0 0),(.ptr 1 0)],[.big [.bool,(.int .i64)] .i64 232,.big [.bool,(.int .i64)] .i64 232]⟩
def q49:List FOut:=[⟨(.tuple []),[.big [.bool,(.int .i64)] .i64 232,.big [.bool,(.int .i64)] .i64 232],none⟩]
noncomputable def qgd:=qe [(294,q9 jY yg qT),(340,q9 q1n q1Q wZ)] [(347,f347)] [] 2
noncomputable def vu:=qj qgd 347 f347 true q3I q49
theorem qaO:qx prog qa 347 (q9 q3I q49 vu):=sk qgd qc q8 (alc kx (alc q81 aln)) aln (b1 func347) func347
def qn5:FIn:=⟨[(.imm [.str])],[]⟩
def qmX:List FOut:=[⟨(.tuple [.str,(.int .i64)]),[],none⟩]
def qhp:Tmpl:={ t:=(qt 4 ((.ptr 0 0)::qt 4 ((.imm [.str])::(.int .i64)::(.int .i64)::qt 12 []))),h:=[.big [.bool,(.int .i64)] .i64 232] }
def qgV:List Out:=[⟨(.exit 0),{ t:=(qt 4 ((.ptr 0 0)::qt 19 [])),h:=[.big [.bool,(.int .i64)] .i64 232] }⟩]
noncomputable def qjT:List (FuncId×zM):=[(239,q9 q6e q6m wE),(241,q9 q0v q0i wz),(347,q9 q3I q49 vu)]
theorem qnW:∀x,x∈qjT->qx prog qa x.1 x.2:=(alc q7W (alc q7R (alc qaO aln)))
noncomputable def qbt:=qe qjT [(383,f383)] [] 0
noncomputable def q7S:=wT qbt 383 f383 4 qhp qgV
theorem qrN:qk prog qa qbt.nimp (qq prog qbt.iter 383) (z7 f383 4) (qh qhp qgV (qf q7S)):=gk qbt qc q8 qnW aln (b1 func383) func383
noncomputable def qt0:=qe qjT [(383,f383)] [((383,4),qh qhp qgV (qf q7S))] 0
noncomputable def qd1:=qj qt0 383 f383 true qn5 qmX
theorem qvz:qx prog qa 383 (q9 qn5 qmX qd1):=sk qt0 qc q8 qnW (alc (lk func383 qrN) aln) (b1 func383) func383
def qct:FIn:=⟨[.str,.str],[]⟩
def qbZ:List FOut:=[⟨(.tuple [.str,(.int .i64)]),[],none⟩]
noncomputable def qsO:=qe [(191,q9 q38 q3o wy),(237,q9 q6Q q6q yN),(238,q9 q8T q8U q0d),(383,q9 qn5 qmX qd1)] [(345,f345)] [] 0
noncomputable def q34:=qj qsO 345 f345 true qct qbZ
theorem qeM:qx prog qa 345 (q9 qct qbZ q34):=sk qsO qc q8 (alc q2d (alc q9O (alc qg4 (alc qvz aln)))) aln (b1 func345) func345
def q9u:FIn:=⟨[.str],[]⟩
def q9l:List FOut:=[⟨(.int .i64),[],none⟩]
noncomputable def qrg:=qe [] [(192,f192)] [] 0
noncomputable def ub:=qj qrg 192 f192 true q9u q9l
theorem qcs:qx prog qa 192 (q9 q9u q9l ub):=sk qrg qc q8 aln aln (b1 func192) func192
def q9Z:FIn:=⟨[.str],[]⟩
def qad:List FOut:=[⟨.str,[],none⟩]
noncomputable def qin:=qe [(192,q9 q9u q9l ub)] [(346,f346)] [] 0
noncomputable def q1V:=qj qin 346 f346 true q9Z qad
theorem qmG:qx prog qa 346 (q9 q9Z qad q1V):=sk qin qc q8 (alc qcs aln) aln (b1 func346) func346
def qhz:FIn:=⟨[.str,.str],[]⟩
def qhv:List FOut:=[⟨(.tuple [.str,(.int .i64)]),[],none⟩]
noncomputable def qtq:=qe [(191,q9 q38 q3o wy),(345,q9 qct qbZ q34),(346,q9 q9Z qad q1V)] [(290,f290)] [] 0
noncomputable def q8G:=qj qtq 290 f290 true qhz qhv
theorem qm0:qx prog qa 290 (q9 qhz qhv q8G):=sk qtq qc q8 (alc q2d (alc qeM (alc qmG aln))) aln (b1 func290) func290
def kZ:FIn:=⟨[(.ptr 0 0),(.fn 290 [] []),.str,.str],[.cells [(.int .i64)]]⟩
def q03:List FOut:=[⟨.str,[.cells [(.int .i64)]],none⟩]
noncomputable def q4H:=qe [(290,q9 qhz qhv q8G)] [(187,f187)] [] 1
noncomputable def wS:=qj q4H 187 f187 true kZ q03
theorem qb8:qx prog qa 187 (q9 kZ q03 wS):=sk q4H qc q8 (alc qm0 aln) aln (b1 func187) func187
def q5u:FIn:=⟨[(.ptr 0 0),.str,.str],[.cells [(.int .i64)]]⟩
def q5e:List FOut:=[⟨.str,[.cells [(.int .i64)]],none⟩]
noncomputable def qis:=qe [(290,q9 qhz qhv q8G),(187,q9 kZ q03 wS)] [(234,f234)] [] 1
noncomputable def jh:=qj qis 234 f234 true q5u q5e
theorem qcK:qx prog qa 234 (q9 q5u q5e jh):=sk qis qc q8 (alc qm0 (alc qb8 aln)) aln (b1 func234) func234
def qb6:FIn:=⟨[(.ptr 0 0),.str,.str,.str,.str],[.cells [(.int .i64)]]⟩
def qbe:List FOut:=[⟨(.tuple [.str,.str]),[.cells [(.int .i64)]],none⟩]
noncomputable def qnB:=qe [(136,q9 yq yw qo),(234,q9 q5u q5e jh)] [(262,f262)] [] 1
noncomputable def q3M:=qj qnB 262 f262 true qb6 qbe
theorem qi4:qx prog qa 262 (q9 qb6 qbe q3M):=sk qnB qc q8 (alc uo (alc qcK aln)) aln (b1 func262) func262
def q2P:FIn:=⟨[.str,.str],[]⟩
def q2T:List FOut:=[⟨(.int .i64),[],none⟩]
noncomputable def vA:List PV->TR:=qzO
set_option maxRecDepth 100000 in
theorem q8B:qx prog qa 296 (q9 q2P q2T vA):=qBf lays219 (uu func296 (by kernel_rfl) (by kernel_rfl))
def k9:FIn:=⟨[.str,.str],[]⟩
def kg:List FOut:=[⟨(.tuple [.str,.str,.bool]),[],none⟩]
noncomputable def q4h:=qe [(296,q9 q2P q2T vA)] [(243,f243)] [] 0
noncomputable def wt:=qj q4h 243 f243 true k9 kg
theorem q9W:qx prog qa 243 (q9 k9 kg wt):=sk q4h qc q8 (alc q8B aln) aln (b1 func243) func243
def qgC:FIn:=⟨[.str,.str],[]⟩
def qh3:List FOut:=[⟨(.tuple [.str,.str,.bool]),[],none⟩]
noncomputable def qnV:=qe [(243,q9 k9 kg wt)] [(190,f190)] [] 0
noncomputable def q7z:=qj qnV 190 f190 true qgC qh3
theorem qrL:qx prog qa 190 (q9 qgC qh3 q7z):=sk qnV qc q8 (alc q9W aln) aln (b1 func190) func190
def q1O:FIn:=⟨[.str],[]⟩
def q1m:List FOut:=[⟨(.tuple [.str,.str,.bool]),[],none⟩]
noncomputable def qtN:=qe [(190,q9 qgC qh3 q7z)] [(138,f138)] [] 0
noncomputable def qW:=qj qtN 138 f138 true q1O q1m
theorem q0b:qx prog qa 138 (q9 q1O q1m qW):=sk qtN qc q8 (alc qrL aln) aln (b1 func138) func138
def qfC:FIn:=⟨[.str,.str],[]⟩
def qfL:List FOut:=[⟨(.int .i64),[],none⟩]
noncomputable def q3J:List PV->TR:=qs6
set_option maxRecDepth 100000 in
theorem qli:qx prog qa 244 (q9 qfC qfL q3J):=qxE lays106 (uu func244 (by kernel_rfl) (by kernel_rfl))
def qh2:FIn:=⟨[.str,.str],[]⟩
def qhr:List FOut:=[⟨(.int .i64),[],none⟩]
noncomputable def qo4:=qe [(244,q9 qfC qfL q3J)] [(193,f193)] [] 0
noncomputable def q6t:=qj qo4 193 f193 true qh2 qhr
theorem qrG:qx prog qa 193 (q9 qh2 qhr q6t):=sk qo4 qc q8 (alc qli aln) aln (b1 func193) func193
def q7o:FIn:=⟨[.str,.str],[]⟩
def q6O:List FOut:=[⟨(.tuple [(.int .i64),(.int .i64)]),[],none⟩]
noncomputable def qke:=qe [(191,q9 q38 q3o wy),(192,q9 q9u q9l ub),(193,q9 qh2 qhr q6t),(194,q9 yL yD qX)] [(139,f139)] [] 0
noncomputable def uD:=qj qke 139 f139 true q7o q6O
theorem qeh:qx prog qa 139 (q9 q7o q6O uD):=sk qke qc q8 (alc q2d (alc qcs (alc qrG (alc q1d aln)))) aln (b1 func139) func139
def q9N:FIn:=⟨[(.ptr 0 0),(.ptr 1 0)],[.big [.bool,(.int .i64)] .i64 232,.big [.bool,(.int .i64)] .i64 232]⟩
def qaE:List FOut:=[⟨(.int .i64),[.big [.bool,(.int .i64)] .i64 232,.big [.bool,(.int .i64)] .i64 232],none⟩]
noncomputable def qit:=qe [] [(341,f341),(381,f381)] [] 2
noncomputable def q25:=qj qit 341 f341 true q9N qaE
theorem qmR:qx prog qa 341 (q9 q9N qaE q25):=sk qit qc q8 aln aln (alc (bk func341) (alc (bk func381) aln)) func341
def q7x:FIn:=⟨[(.ptr 0 0),(.ptr 1 0)],[.big [.bool,(.int .i64)] .i64 232,.big [.bool,(.int .i64)] .i64 232]⟩
def q7a:List FOut:=[⟨(.tuple [(.ptr 2 0),(.ptr 3 0)]),[.big [.bool,(.int .i64)] .i64 232,.big [.bool,(.int .i64)] .i64 232,.big [.bool,(.int .i64)] .i64 232,.big [.bool,(.int .i64)] .i64 232],none⟩]
def q6G:Tmpl:={ t:=((.ptr 0 0)::(.ptr 1 0)::qt 4 ((.ptr 2 0)::(.ptr 3 0)::(.int .i64)::(.int .i64)::qt 80 [])),h:=[.big [.bool,(.int .i64)] .i64 232,.big [.bool,(.int .i64)] .i64 232,.big [.bool,(.int .i64)] .i64 232,.big [.bool,(.int .i64)] .i64 232] }
def q7n:List Out:=[⟨(.exit 2),{ t:=((.ptr 0 0)::(.ptr 1 0)::qt 4 ((.ptr 2 0)::(.ptr 3 0)::(.int .i64)::(.int .i64)::qt 80 [])),h:=[.big [.bool,(.int .i64)] .i64 232,.big [.bool,(.int .i64)] .i64 232,.big [.bool,(.int .i64)] .i64 232,.big [.bool,(.int .i64)] .i64 232] }⟩]
noncomputable def q5p:List (FuncId×zM):=[(293,q9 jb j8 qO),(294,q9 jY yg qT),(340,q9 q1n q1Q wZ),(341,q9 q9N qaE q25)]
theorem q8K:∀x,x∈q5p->qx prog qa x.1 x.2:=(alc yT (alc kx (alc q81 (alc qmR aln))))
noncomputable def q2Z:=qe q5p [(287,f287)] [] 2
noncomputable def yh:=wT q2Z 287 f287 14 q6G q7n
theorem qjP:qk prog qa q2Z.nimp (qq prog q2Z.iter 287) (z7 f287 14) (qh q6G q7n (qf yh)):=gk q2Z qc q8 q8K aln (b1 func287) func287
def q8Q:Tmpl:={ t:=((.ptr 0 0)::(.ptr 1 0)::qt 4 ((.ptr 2 0)::(.ptr 3 0)::(.int .i64)::qt 81 [])),h:=[.big [.bool,(.int .i64)] .i64 232,.big [.bool,(.int .i64)] .i64 232,.big [.bool,(.int .i64)] .i64 232,.big [.bool,(.int .i64)] .i64 232] }
def q8c:List Out:=[⟨(.exit 0),{ t:=(qt 6 ((.ptr 2 0)::(.ptr 3 0)::qt 82 [])),h:=[.big [.bool,(.int .i64)] .i64 232,.big [.bool,(.int .i64)] .i64 232,.big [.bool,(.int .i64)] .i64 232,.big [.bool,(.int .i64)] .i64 232] }⟩]
noncomputable def q3Q:=qe q5p [(287,f287)] [((287,14),qh q6G q7n (qf yh))] 2
noncomputable def q0X:=wT q3Q 287 f287 4 q8Q q8c
theorem ql7:qk prog qa q3Q.nimp (qq prog q3Q.iter 287) (z7 f287 4) (qh q8Q q8c (qf q0X)):=gk q3Q qc q8 q8K (alc (lk func287 qjP) aln) (b1 func287) func287
noncomputable def qjA:=qe q5p [(287,f287)] [((287,4),qh q8Q q8c (qf q0X))] 2
noncomputable def uv:=qj qjA 287 f287 false q7x q7a
theorem qdP:qx prog qa 287 (q9 q7x q7a uv):=qq7 (E:=qjA) qc ⟨um q8,⟨q8K,aln⟩,(alc (lk func287 ql7) aln),(b1 func287)⟩ func287 (by kernel_rfl) (by kernel_rfl) (fun _=>rfl)
def qc3:FIn:=⟨[.str,.str],[]⟩
def qcm:List FOut:=[⟨(.tuple [.str,(.int .i64)]),[],none⟩]
def qfl:Tmpl:={ t:=(qt 9 ((.int .i64)::(.int .i64)::qt 61 [])),h:=[] }
def qeS:List Out:=[⟨(.exit 2),{ t:=(qt 9 ((.int .i64)::qt 62 [])),h:=[] }⟩]
noncomputable def qec:List (FuncId×zM):=[(105,q9 q4a q3R za),(191,q9 q38 q3o wy),(239,q9 q6e q6m wE),(287,q9 q7x q7a uv),(288,q9 q4f q3T zm)]
theorem qhB:∀x,x∈qec->qx prog qa x.1 x.2:=(alc q1h (alc q2d (alc q7W (alc qdP (alc q4y aln)))))
noncomputable def q8R:=qe qec [(232,f232)] [] 0
noncomputable def q2h:=wT q8R 232 f232 14 qfl qeS
theorem qqR:qk prog qa q8R.nimp (qq prog q8R.iter 232) (z7 f232 14) (qh qfl qeS (qf q2h)):=gk q8R qc q8 qhB aln (b1 func232) func232
def qgF:Tmpl:={ t:=(qt 7 ((.ptr 1 0)::(.ptr 2 0)::qt 63 [])),h:=[.dead,.big [.bool,(.int .i64)] .i64 232,.big [.bool,(.int .i64)] .i64 232],sw:=[(7,1),(8,2)],swn:=0 }
def qho:List Out:=[⟨(.exit 0),{ t:=(qt 7 ((.ptr 1 0)::qt 64 [])),h:=[.dead,.big [.bool,(.int .i64)] .i64 232] }⟩,⟨.ret,{ t:=(qt 4 (.str::(.int .i64)::qt 66 [])),h:=[] }⟩]
noncomputable def qbo:=qe qec [(232,f232)] [((232,14),qh qfl qeS (qf q2h))] 0
noncomputable def q7q:=wT qbo 232 f232 7 qgF qho
theorem qru:qk prog qa qbo.nimp (qq prog qbo.iter 232) (z7 f232 7) (qh qgF qho (qf q7q)):=gk qbo qc q8 qhB (alc (lk func232 qqR) aln) (b1 func232) func232
noncomputable def qsv:=qe qec [(232,f232)] [((232,7),qh qgF qho (qf q7q))] 0
noncomputable def q3B:=qj qsv 232 f232 true qc3 qcm
theorem qfz:qx prog qa 232 (q9 qc3 qcm q3B):=sk qsv qc q8 qhB (alc (lk func232 qru) aln) (b1 func232) func232
def yV:FIn:=⟨[.str],[]⟩
def u7:List FOut:=[⟨(.int .i64),[],none⟩]
noncomputable def qox:=qe [(138,q9 q1O q1m qW),(139,q9 q7o q6O uD),(232,q9 qc3 qcm q3B),(242,q9 jH jz qG)] [(189,f189)] [] 0
noncomputable def qQ:=qj qox 189 f189 true yV u7
theorem yl:qx prog qa 189 (q9 yV u7 qQ):=sk qox qc q8 (alc q0b (alc qeh (alc qfz (alc je aln)))) aln (b1 func189) func189
def vJ:FIn:=⟨[(.imm [.str])],[]⟩
def vM:List FOut:=[⟨(.int .i64),[],none⟩]
def qa5:Tmpl:={ t:=(qt 6 ((.imm [.str])::(.int .i64)::(.int .i64)::qt 9 [])),h:=[] }
def qas:List Out:=[⟨(.exit 0),{ t:=(qt 18 []),h:=[] }⟩,⟨.ret,{ t:=(.any::.any::(.int .i64)::qt 15 []),h:=[] }⟩]
noncomputable def q5t:=qe [(189,q9 yV u7 qQ)] [(137,f137)] [] 0
noncomputable def q20:=wT q5t 137 f137 3 qa5 qas
theorem qne:qk prog qa q5t.nimp (qq prog q5t.iter 137) (z7 f137 3) (qh qa5 qas (qf q20)):=gk q5t qc q8 (alc yl aln) aln (b1 func137) func137
noncomputable def qlF:=qe [(189,q9 yV u7 qQ)] [(137,f137)] [((137,3),qh qa5 qas (qf q20))] 0
noncomputable def qA:=qj qlF 137 f137 true vJ vM
theorem v8:qx prog qa 137 (q9 vJ vM qA):=sk qlF qc q8 (alc yl aln) (alc (lk func137 qne) aln) (b1 func137) func137
def q5H:FIn:=⟨[.str,.str],[]⟩
def q5N:List FOut:=[⟨.bool,[],none⟩]
noncomputable def qdd:=qe [(289,q9 zR zS qD)] [(233,f233)] [] 0
noncomputable def uw:=qj qdd 233 f233 true q5H q5N
theorem qiJ:qx prog qa 233 (q9 q5H q5N uw):=sk qdd qc q8 (alc uH aln) aln (b1 func233) func233
def qfi:FIn:=⟨[.str,.str],[]⟩
def qf0:List FOut:=[⟨.str,[],none⟩]
noncomputable def qmb:=qe [] [(235,f235)] [] 0
noncomputable def q2k:=qj qmb 235 f235 true qfi qf0
theorem qqb:qx prog qa 235 (q9 qfi qf0 q2k):=sk qmb qc q8 aln aln (b1 func235) func235
def qfw:FIn:=⟨[.str,.str],[]⟩
def qer:List FOut:=[⟨(.tuple [.str,.str,(.int .i64)]),[],none⟩]
noncomputable def qlT:=qe [(105,q9 q4a q3R za),(191,q9 q38 q3o wy),(237,q9 q6Q q6q yN),(239,q9 q6e q6m wE),(287,q9 q7x q7a uv),(288,q9 q4f q3T zm),(347,q9 q3I q49 vu)] [(291,f291)] [] 0
noncomputable def q52:=qj qlT 291 f291 true qfw qer
theorem qqp:qx prog qa 291 (q9 qfw qer q52):=sk qlT qc q8 (alc q1h (alc q2d (alc q9O (alc q7W (alc qdP (alc q4y (alc qaO aln))))))) aln (b1 func291) func291
def qgY:FIn:=⟨[.str,.str],[]⟩
def qhj:List FOut:=[⟨(.tuple [.str,(.int .i64)]),[],none⟩]
noncomputable def qtp:=qe [(242,q9 jH jz qG),(291,q9 qfw qer q52)] [(236,f236)] [] 0
noncomputable def q8j:=qj qtp 236 f236 true qgY qhj
theorem qlw:qx prog qa 236 (q9 qgY qhj q8j):=sk qtp qc q8 (alc je (alc qqp aln)) aln (b1 func236) func236
def jy:FIn:=⟨[(.ptr 0 0),(.fn 232 [] []),.str,.str],[.cells [(.int .i64)]]⟩
def q0e:List FOut:=[⟨.str,[.cells [(.int .i64)]],none⟩]
noncomputable def q53:=qe [(232,q9 qc3 qcm q3B)] [(187,f187)] [] 1
noncomputable def wU:=qj q53 187 f187 true jy q0e
theorem qbh:qx prog qa 187 (q9 jy q0e wU):=sk q53 qc q8 (alc qfz aln) aln (b1 func187) func187
def jA:FIn:=⟨[(.ptr 0 0),(.fn 236 [] []),.str,.str],[.cells [(.int .i64)]]⟩
def q08:List FOut:=[⟨.str,[.cells [(.int .i64)]],none⟩]
noncomputable def q4U:=qe [(236,q9 qgY qhj q8j)] [(187,f187)] [] 1
noncomputable def qS:=qj q4U 187 f187 true jA q08
theorem qb4:qx prog qa 187 (q9 jA q08 qS):=sk q4U qc q8 (alc qlw aln) aln (b1 func187) func187
def zX:FIn:=⟨[(.ptr 0 0),.str,.str],[.cells [(.int .i64)]]⟩
def zT:List FOut:=[⟨.str,[.cells [(.int .i64)]],none⟩]
noncomputable def qcB:=qe [(232,q9 qc3 qcm q3B),(233,q9 q5H q5N uw),(234,q9 q5u q5e jh),(235,q9 qfi qf0 q2k),(236,q9 qgY qhj q8j),(187,qNU [(jy,q9 jy q0e wU),(jA,q9 jA q08 qS)])] [(186,f186)] [] 1
noncomputable def qB:=qj qcB 186 f186 true zX zT
theorem wI:qx prog qa 186 (q9 zX zT qB):=sk qcB qc q8 (alc qfz (alc qiJ (alc qcK (alc qqb (alc qlw (alc (qIE (uu func187 (by kernel_rfl) (by kernel_rfl)) (qCC qbh (qCC qb4 qLx))) aln)))))) aln (b1 func186) func186
def q0T:FIn:=⟨[.str,.str,(.fn 262 [] [])],[]⟩
def q0Q:List FOut:=[⟨(.tuple [.str,(.int .i64)]),[],none⟩]
noncomputable def q65:=qe [(137,q9 vJ vM qA),(138,q9 q1O q1m qW),(186,q9 zX zT qB),(262,q9 qb6 qbe q3M)] [(134,f134)] [] 0
noncomputable def vj:=qj q65 134 f134 true q0T q0Q
theorem qcr:qx prog qa 134 (q9 q0T q0Q vj):=sk q65 qc q8 (alc v8 (alc q0b (alc wI (alc qi4 aln)))) aln (b1 func134) func134
def qce:FIn:=⟨[.str,.str],[]⟩
def qc9:List FOut:=[⟨(.tuple [.str,(.int .i64)]),[],none⟩]
noncomputable def qtE:=qe [(262,q9 qb6 qbe q3M),(134,q9 q0T q0Q vj)] [(210,f210)] [] 0
noncomputable def zJ:=qj qtE 210 f210 true qce qc9
theorem q99:qx prog qa 210 (q9 qce qc9 zJ):=sk qtE qc q8 (alc qi4 (alc qcr aln)) aln (b1 func210) func210
def vt:FIn:=⟨[(.agg [(.int .i64),(.int .i64),(.int .i64)])],[]⟩
def vh:List FOut:=[⟨(.agg [(.int .i64),(.int .i64),(.int .i64)]),[],none⟩]
noncomputable def q9m:=qe [] [(281,f281)] [] 0
noncomputable def qC:=qj q9m 281 f281 true vt vh
theorem ya:qx prog qa 281 (q9 vt vh qC):=sk q9m qc q8 aln aln (b1 func281) func281
def qhe:FIn:=⟨[(.agg [(.int .i64),(.int .i64),(.int .i64)]),(.agg [(.int .i64),(.int .i64),(.int .i64)]),(.agg [(.int .i64),(.int .i64),(.int .i64)])],[]⟩
def qgQ:List FOut:=[⟨(.int .i64),[],none⟩]
def qd0:Tmpl:={ t:=(qt 7 ((.ptr 3 0)::(.ptr 4 0)::(.ptr 5 0)::(.int .i64)::qt 7 ((.int .i64)::qt 21 []))),h:=[.dead,.dead,.dead,.cells [(.int .i64),(.int .i64),(.int .i64)],.cells [(.int .i64),(.int .i64),(.int .i64)],.cells [(.int .i64),(.int .i64),(.int .i64)]] }
def qc6:List Out:=[⟨(.exit 0),{ t:=(qt 10 ((.int .i64)::qt 29 [])),h:=[] }⟩]
noncomputable def q7l:=qe [(281,q9 vt vh qC)] [(276,f276)] [] 0
noncomputable def q0B:=wT q7l 276 f276 5 qd0 qc6
theorem qnH:qk prog qa q7l.nimp (qq prog q7l.iter 276) (z7 f276 5) (qh qd0 qc6 (qf q0B)):=gk q7l qc q8 (alc ya aln) aln (b1 func276) func276
noncomputable def qnG:=qe [(281,q9 vt vh qC)] [(276,f276)] [((276,5),qh qd0 qc6 (qf q0B))] 0
noncomputable def q1k:=qj qnG 276 f276 true qhe qgQ
theorem qrB:qx prog qa 276 (q9 qhe qgQ q1k):=sk qnG qc q8 (alc ya aln) (alc (lk func276 qnH) aln) (b1 func276) func276
def qbj:FIn:=⟨[(.int .i64)],[]⟩
def qbq:List FOut:=[⟨.bool,[],none⟩]
noncomputable def qo2:=qe [] [(325,f325)] [] 0
noncomputable def j7:=qj qo2 325 f325 true qbj qbq
theorem qhZ:qx prog qa 325 (q9 qbj qbq j7):=sk qo2 qc q8 aln aln (b1 func325) func325
def q48:FIn:=⟨[(.int .i64),(.int .i64),(.ptr 0 0),(.ptr 1 0)],[.cells [(.imm [(.int .i64)])],.cells [(.int .i64)]]⟩
def q3K:List FOut:=[⟨.str,[.cells [(.imm [(.int .i64)])],.cells [(.int .i64)]],none⟩]
noncomputable def qoS:=qe [(53,q9 jK jG qw)] [(327,f327)] [] 2
noncomputable def kz:=qj qoS 327 f327 true q48 q3K
theorem q5b:qx prog qa 327 (q9 q48 q3K kz):=sk qoS qc q8 (alc jf aln) aln (b1 func327) func327
def qgT:FIn:=⟨[(.int .i64),(.int .i64),(.fn 327 [] [(.ptr 0 0),(.ptr 1 0)])],[.cells [(.imm [(.int .i64)])],.cells [(.int .i64)]]⟩
def qhh:List FOut:=[⟨(.agg [(.int .i64),(.int .i64),(.imm [.str])]),[.cells [(.imm [(.int .i64)])],.cells [(.int .i64)]],none⟩]
def qa1:Tmpl:={ t:=(.any::(.int .i64)::(.fn 327 [] [(.ptr 0 0),(.ptr 1 0)])::.any::.any::.any::(.ptr 2 0)::(.ptr 3 0)::(.int .i64)::qt 4 ((.int .i64)::(.int .i64)::.any::.any::(.int .i64)::(.int .i64)::qt 14 [])),h:=[.cells [(.imm [(.int .i64)])],.cells [(.int .i64)],.cells [(.int .i64),(.int .i64),.nils],.cells [(.int .i64),(.int .i64),(.vec 4)],.vec 108 [.str]] }
def qa9:List Out:=[⟨(.exit 2),{ t:=(.any::(.int .i64)::(.fn 327 [] [(.ptr 0 0),(.ptr 1 0)])::.any::.any::.any::(.ptr 2 0)::(.ptr 3 0)::qt 5 ((.int .i64)::(.int .i64)::qt 18 [])),h:=[.cells [(.imm [(.int .i64)])],.cells [(.int .i64)],.cells [(.int .i64),(.int .i64),.nils],.cells [(.int .i64),(.int .i64),(.vec 4)],.vec 108 [.str]] }⟩]
noncomputable def q5d:=qe [(327,q9 q48 q3K kz)] [(326,f326)] [] 2
noncomputable def kj:=wT q5d 326 f326 10 qa1 qa9
theorem qml:qk prog qa q5d.nimp (qq prog q5d.iter 326) (z7 f326 10) (qh qa1 qa9 (qf kj)):=gk q5d qc q8 (alc q5b aln) aln (b1 func326) func326
def qc1:Tmpl:={ t:=(.any::(.int .i64)::(.fn 327 [] [(.ptr 0 0),(.ptr 1 0)])::.any::.any::.any::(.ptr 2 0)::(.ptr 3 0)::qt 5 ((.int .i64)::(.int .i64)::qt 18 [])),h:=[.cells [(.imm [(.int .i64)])],.cells [(.int .i64)],.cells [(.int .i64),(.int .i64),.nils],.cells [(.int .i64),(.int .i64),(.vec 4)],.vec 108 [.str]],prc:=[(7,2,108,[.str])] }
def qcV:List Out:=[⟨(.exit 0),{ t:=(qt 6 ((.ptr 2 0)::(.ptr 3 0)::qt 25 [])),h:=[.cells [(.imm [(.int .i64)])],.cells [(.int .i64)],.cells [(.int .i64),(.int .i64),.nils],.cells [(.int .i64),(.int .i64),(.vec 4)],.vec 108 [.str]] }⟩]
noncomputable def q7m:=qe [(327,q9 q48 q3K kz)] [(326,f326)] [((326,10),qh qa1 qa9 (qf kj))] 2
noncomputable def q0L:=wT q7m 326 f326 4 qc1 qcV
theorem qpd:qk prog qa q7m.nimp (qq prog q7m.iter 326) (z7 f326 4) (qh qc1 qcV (qf q0L)):=gk q7m qc q8 (alc q5b aln) (alc (lk func326 qml) aln) (b1 func326) func326
noncomputable def qnY:=qe [(327,q9 q48 q3K kz)] [(326,f326)] [((326,4),qh qc1 qcV (qf q0L))] 2
noncomputable def q7g:=qj qnY 326 f326 true qgT qhh
theorem qs1:qx prog qa 326 (q9 qgT qhh q7g):=sk qnY qc q8 (alc q5b aln) (alc (lk func326 qpd) aln) (b1 func326) func326
def qmt:FIn:=⟨[(.int .i64),(.int .i64),(.imm [(.int .i64)])],[]⟩
def qmL:List FOut:=[⟨(.tuple [(.agg [(.int .i64),(.int .i64),(.imm [.str])]),(.int .i64)]),[],none⟩]
noncomputable def qtF:=qe [(325,q9 qbj qbq j7),(326,q9 qgT qhh q7g),(327,q9 q48 q3K kz)] [(277,f277)] [] 0
noncomputable def qcn:=qj qtF 277 f277 true qmt qmL
theorem qvp:qx prog qa 277 (q9 qmt qmL qcn):=sk qtF qc q8 (alc qhZ (alc qs1 (alc q5b aln))) aln (b1 func277) func277
def q5h:FIn:=⟨[(.imm [.str])],[]⟩
def q5n:List FOut:=[⟨(.int .i64),[],none⟩]
def q7I:Tmpl:={ t:=(qt 6 ((.imm [.str])::(.int .i64)::(.int .i64)::qt 9 [])),h:=[] }
def q7e:List Out:=[⟨(.exit 0),{ t:=(qt 18 []),h:=[] }⟩,⟨.ret,{ t:=(.any::.any::(.int .i64)::qt 15 []),h:=[] }⟩]
noncomputable def q2X:=qe [(189,q9 yV u7 qQ)] [(333,f333)] [] 0
noncomputable def yd:=wT q2X 333 f333 3 q7I q7e
theorem qjM:qk prog qa q2X.nimp (qq prog q2X.iter 333) (z7 f333 3) (qh q7I q7e (qf yd)):=gk q2X qc q8 (alc yl aln) aln (b1 func333) func333
noncomputable def qio:=qe [(189,q9 yV u7 qQ)] [(333,f333)] [((333,3),qh q7I q7e (qf yd))] 0
noncomputable def jg:=qj qio 333 f333 true q5h q5n
theorem qc5:qx prog qa 333 (q9 q5h q5n jg):=sk qio qc q8 (alc yl aln) (alc (lk func333 qjM) aln) (b1 func333) func333
def qeK:FIn:=⟨[(.agg [(.int .i64),(.int .i64),(.imm [.str])])],[]⟩
def qfj:List FOut:=[⟨(.int .i64),[],none⟩]
noncomputable def qlD:=qe [(325,q9 qbj qbq j7),(333,q9 q5h q5n jg)] [(328,f328)] [] 0
noncomputable def jL:=qj qlD 328 f328 true qeK qfj
theorem qfS:qx prog qa 328 (q9 qeK qfj jL):=sk qlD qc q8 (alc qhZ (alc qc5 aln)) aln (b1 func328) func328
def qbH:FIn:=⟨[(.ptr 0 0),.str,.str,.str,.str],[.cells [(.int .i64)]]⟩
def qbr:List FOut:=[⟨(.tuple [.str,.str]),[.cells [(.int .i64)]],none⟩]
noncomputable def qoH:=qe [(136,q9 yq yw qo)] [(135,f135)] [] 1
noncomputable def q47:=qj qoH 135 f135 true qbH qbr
theorem qhJ:qx prog qa 135 (q9 qbH qbr q47):=sk qoH qc q8 (alc uo aln) aln (b1 func135) func135
def q14:FIn:=⟨[.str,.str,(.fn 135 [] [])],[]⟩
def q0A:List FOut:=[⟨(.tuple [.str,(.int .i64)]),[],none⟩]
noncomputable def q6d:=qe [(135,q9 qbH qbr q47),(137,q9 vJ vM qA),(138,q9 q1O q1m qW),(186,q9 zX zT qB)] [(134,f134)] [] 0
noncomputable def vw:=qj q6d 134 f134 true q14 q0A
theorem qd2:qx prog qa 134 (q9 q14 q0A vw):=sk q6d qc q8 (alc qhJ (alc v8 (alc q0b (alc wI aln)))) aln (b1 func134) func134
def q5Z:FIn:=⟨[.str,.str],[]⟩
def q5K:List FOut:=[⟨(.tuple [.str,(.int .i64)]),[],none⟩]
noncomputable def qtI:=qe [(135,q9 qbH qbr q47),(134,q9 q14 q0A vw)] [(77,f77)] [] 0
noncomputable def wv:=qj qtI 77 f77 true q5Z q5K
theorem q2f:qx prog qa 77 (q9 q5Z q5K wv):=sk qtI qc q8 (alc qhJ (alc qd2 aln)) aln (b1 func77) func77
def qbu:FIn:=⟨[(.ptr 0 0),.str,.str,.str,.str],[.cells [(.int .i64)]]⟩
def qbC:List FOut:=[⟨(.tuple [.str,.str]),[.cells [(.int .i64)]],none⟩]
noncomputable def qpv:=qe [(136,q9 yq yw qo)] [(372,f372)] [] 1
noncomputable def q41:=qj qpv 372 f372 true qbu qbC
theorem qir:qx prog qa 372 (q9 qbu qbC q41):=sk qpv qc q8 (alc uo aln) aln (b1 func372) func372
def q0U:FIn:=⟨[.str,.str,(.fn 372 [] [])],[]⟩
def q0Z:List FOut:=[⟨(.tuple [.str,(.int .i64)]),[],none⟩]
noncomputable def q6j:=qe [(137,q9 vJ vM qA),(138,q9 q1O q1m qW),(186,q9 zX zT qB),(372,q9 qbu qbC q41)] [(134,f134)] [] 0
noncomputable def vl:=qj q6j 134 f134 true q0U q0Z
theorem qbQ:qx prog qa 134 (q9 q0U q0Z vl):=sk q6j qc q8 (alc v8 (alc q0b (alc wI (alc qir aln)))) aln (b1 func134) func134
def qui:FIn:=⟨[.str,.str],[]⟩
def quq:List FOut:=[⟨(.tuple [.str,(.int .i64)]),[],none⟩]
noncomputable def quf:=qe [(137,q9 vJ vM qA),(372,q9 qbu qbC q41),(134,q9 q0U q0Z vl)] [(315,f315)] [] 0
noncomputable def q5P:=qj quf 315 f315 true qui quq
theorem qvs:qx prog qa 315 (q9 qui quq q5P):=sk quf qc q8 (alc v8 (alc qir (alc qbQ aln))) aln (b1 func315) func315
def qia:FIn:=⟨[(.agg [(.int .i64),(.int .i64),(.imm [.str])])],[]⟩
def qiu:List FOut:=[⟨(.tuple [(.agg [(.int .i64),(.int .i64),(.imm [.str])]),(.int .i64)]),[],none⟩]
noncomputable def yo:List PV->TR:=qLK jL wv q5P zJ
theorem qny:qx prog qa 278 (q9 qia qiu yo):=qGg qfS q2f qvs q99
def q05:FIn:=⟨[(.ptr 0 0),(.fn 345 [] []),.str,.str],[.cells [(.int .i64)]]⟩
def q01:List FOut:=[⟨.str,[.cells [(.int .i64)]],none⟩]
noncomputable def q57:=qe [(345,q9 qct qbZ q34)] [(187,f187)] [] 1
noncomputable def wV:=qj q57 187 f187 true q05 q01
theorem qbx:qx prog qa 187 (q9 q05 q01 wV):=sk q57 qc q8 (alc qeM aln) aln (b1 func187) func187
def qaJ:FIn:=⟨[(.ptr 0 0),.str,.str],[.cells [(.int .i64)]]⟩
def qar:List FOut:=[⟨.str,[.cells [(.int .i64)]],none⟩]
noncomputable def qhG:=qe [(345,q9 qct qbZ q34),(187,q9 q05 q01 wV)] [(365,f365)] [] 1
noncomputable def q1X:=qj qhG 365 f365 true qaJ qar
theorem qmZ:qx prog qa 365 (q9 qaJ qar q1X):=sk qhG qc q8 (alc qeM (alc qbx aln)) aln (b1 func365) func365
def qba:FIn:=⟨[(.ptr 0 0),.str,.str,.str,.str],[.cells [(.int .i64)]]⟩
def qbi:List FOut:=[⟨(.tuple [.str,.str]),[.cells [(.int .i64)]],none⟩]
noncomputable def qph:=qe [(136,q9 yq yw qo),(365,q9 qaJ qar q1X)] [(364,f364)] [] 1
noncomputable def q3G:=qj qph 364 f364 true qba qbi
theorem qi3:qx prog qa 364 (q9 qba qbi q3G):=sk qph qc q8 (alc uo (alc qmZ aln)) aln (b1 func364) func364
def q0G:FIn:=⟨[.str,.str,(.fn 364 [] [])],[]⟩
def q0P:List FOut:=[⟨(.tuple [.str,(.int .i64)]),[],none⟩]
noncomputable def q66:=qe [(137,q9 vJ vM qA),(138,q9 q1O q1m qW),(186,q9 zX zT qB),(364,q9 qba qbi q3G)] [(134,f134)] [] 0
noncomputable def ve:=qj q66 134 f134 true q0G q0P
theorem qdj:qx prog qa 134 (q9 q0G q0P ve):=sk q66 qc q8 (alc v8 (alc q0b (alc wI (alc qi3 aln)))) aln (b1 func134) func134
def q3D:FIn:=⟨[.str,.str],[]⟩
def q3u:List FOut:=[⟨(.tuple [.str,(.int .i64)]),[],none⟩]
noncomputable def qti:=qe [(364,q9 qba qbi q3G),(134,q9 q0G q0P ve)] [(305,f305)] [] 0
noncomputable def jn:=qj qti 305 f305 true q3D q3u
theorem q2j:qx prog qa 305 (q9 q3D q3u jn):=sk qti qc q8 (alc qi3 (alc qdj aln)) aln (b1 func305) func305
def q1t:FIn:=⟨[(.ptr 0 0),.str,(.int .i64)],[.cells [(.int .i64)]]⟩
def q1q:List FOut:=[⟨.str,[.cells [(.int .i64)]],none⟩]
noncomputable def qbR:=qe [] [(380,f380)] [] 1
noncomputable def v7:=qj qbR 380 f380 true q1t q1q
theorem q89:qx prog qa 380 (q9 q1t q1q v7):=sk qbR qc q8 aln aln (b1 func380) func380
def q6W:FIn:=⟨[(.ptr 0 0),.str,.str],[.cells [(.int .i64)]]⟩
def q7h:List FOut:=[⟨.str,[.cells [(.int .i64)]],none⟩]
noncomputable def qdG:=qe [(305,q9 q3D q3u jn),(380,q9 q1t q1q v7)] [(334,f334)] [] 1
noncomputable def kO:=qj qdG 334 f334 true q6W q7h
theorem qiW:qx prog qa 334 (q9 q6W q7h kO):=sk qdG qc q8 (alc q2j (alc q89 aln)) aln (b1 func334) func334
def q7O:FIn:=⟨[(.ptr 0 0),.str,.str],[.cells [(.int .i64)]]⟩
def q6P:List FOut:=[⟨.str,[.cells [(.int .i64)]],none⟩]
noncomputable def qdS:=qe [(77,q9 q5Z q5K wv),(380,q9 q1t q1q v7)] [(335,f335)] [] 1
noncomputable def kJ:=qj qdS 335 f335 true q7O q6P
theorem qk9:qx prog qa 335 (q9 q7O q6P kJ):=sk qdS qc q8 (alc q2f (alc q89 aln)) aln (b1 func335) func335
def qeO:FIn:=⟨[(.agg [(.int .i64),(.int .i64),(.imm [.str])]),(.int .i64),(.int .i64)],[]⟩
def qeo:List FOut:=[⟨.str,[],none⟩]
noncomputable def qlB:=qe [] [(336,f336)] [] 0
noncomputable def q4J:=qj qlB 336 f336 true qeO qeo
theorem qpL:qx prog qa 336 (q9 qeO qeo q4J):=sk qlB qc q8 aln aln (b1 func336) func336
def qej:FIn:=⟨[(.agg [(.int .i64),(.int .i64),(.imm [.str])]),(.imm [.str])],[]⟩
def qel:List FOut:=[⟨(.tuple [(.imm [.str]),(.int .i64)]),[],none⟩]
def q8F:Tmpl:={ t:=(.any::(.imm [.str])::(.ptr 0 0)::qt 5 ((.ptr 1 0)::(.vec 2)::(.int .i64)::.str::qt 20 ((.int .i64)::(.int .i64)::.any::.any::(.imm [.str])::(.int .i64)::(.int .i64)::qt 30 []))),h:=[.cells [(.int .i64),(.int .i64),(.imm [.str])],.cells [(.int .i64)],.vec 108 [.str]] }
def q8P:List Out:=[⟨(.exit 2),{ t:=(.any::(.imm [.str])::(.ptr 0 0)::qt 5 ((.ptr 1 0)::(.vec 2)::.any::.str::qt 20 ((.int .i64)::(.int .i64)::qt 35 []))),h:=[.cells [(.int .i64),(.int .i64),(.imm [.str])],.cells [(.int .i64)],.vec 108 [.str]] }⟩]
noncomputable def q6Y:List (FuncId×zM):=[(328,q9 qeK qfj jL),(333,q9 q5h q5n jg),(334,q9 q6W q7h kO),(335,q9 q7O q6P kJ),(336,q9 qeO qeo q4J)]
theorem qaF:∀x,x∈q6Y->qx prog qa x.1 x.2:=(alc qfS (alc qc5 (alc qiW (alc qk9 (alc qpL aln)))))
noncomputable def q44:=qe q6Y [(279,f279)] [] 0
noncomputable def uk:=wT q44 279 f279 24 q8F q8P
theorem qll:qk prog qa q44.nimp (qq prog q44.iter 279) (z7 f279 24) (qh q8F q8P (qf uk)):=gk q44 qc q8 qaF aln (b1 func279) func279
def q8t:Tmpl:={ t:=(.any::(.imm [.str])::(.ptr 0 0)::qt 5 ((.ptr 1 0)::(.vec 2)::qt 22 ((.int .i64)::(.int .i64)::qt 35 []))),h:=[.cells [(.int .i64),(.int .i64),(.imm [.str])],.cells [(.int .i64)],.vec 108 [.str]],pro:=[(9,108,[.str])] }
def q8k:List Out:=[⟨(.exit 0),{ t:=(qt 8 ((.ptr 1 0)::(.vec 2)::qt 59 [])),h:=[.dead,.cells [(.int .i64)],.vec 108 [.str]] }⟩]
noncomputable def q3S:=qe q6Y [(279,f279)] [((279,24),qh q8F q8P (qf uk))] 0
noncomputable def ug:=wT q3S 279 f279 16 q8t q8k
theorem qla:qk prog qa q3S.nimp (qq prog q3S.iter 279) (z7 f279 16) (qh q8t q8k (qf ug)):=gk q3S qc q8 qaF (alc (lk func279 qll) aln) (b1 func279) func279
noncomputable def qm5:=qe q6Y [(279,f279)] [((279,16),qh q8t q8k (qf ug))] 0
noncomputable def q4P:=qj qm5 279 f279 true qej qel
theorem qpQ:qx prog qa 279 (q9 qej qel q4P):=sk qm5 qc q8 qaF (alc (lk func279 qla) aln) (b1 func279) func279
def qmK:FIn:=⟨[(.imm [.str])],[]⟩
def qmE:List FOut:=[⟨(.tuple [.str,(.int .i64)]),[],none⟩]
def qeN:Tmpl:={ t:=(qt 5 (.str::qt 12 ((.imm [.str])::(.int .i64)::(.int .i64)::qt 15 []))),h:=[] }
def qep:List Out:=[⟨(.exit 0),{ t:=(qt 5 (.str::qt 30 [])),h:=[] }⟩,⟨.ret,{ t:=(.any::.any::.str::(.int .i64)::qt 32 []),h:=[] }⟩]
noncomputable def q92:=qe [(137,q9 vJ vM qA),(305,q9 q3D q3u jn)] [(280,f280)] [] 0
noncomputable def q27:=wT q92 280 f280 11 qeN qep
theorem qqN:qk prog qa q92.nimp (qq prog q92.iter 280) (z7 f280 11) (qh qeN qep (qf q27)):=gk q92 qc q8 (alc v8 (alc q2j aln)) aln (b1 func280) func280
noncomputable def qud:=qe [(137,q9 vJ vM qA),(305,q9 q3D q3u jn)] [(280,f280)] [((280,11),qh qeN qep (qf q27))] 0
noncomputable def qcq:=qj qud 280 f280 true qmK qmE
theorem qvr:qx prog qa 280 (q9 qmK qmE qcq):=sk qud qc q8 (alc v8 (alc q2j aln)) (alc (lk func280 qqN) aln) (b1 func280) func280
def w9:FIn:=⟨[(.imm [.str]),(.imm [.str])],[]⟩
def wk:List FOut:=[⟨(.tuple [.str,(.int .i64)]),[],none⟩]
def vY:Tmpl:={ t:=(.any::(.imm [.str])::qt 4 (.str::qt 4 ((.imm [.str])::(.int .i64)::(.int .i64)::qt 27 []))),h:=[] }
def vP:List Out:=[⟨(.exit 0),{ t:=(qt 6 (.str::qt 34 [])),h:=[] }⟩,⟨.ret,{ t:=(qt 4 (.str::(.int .i64)::qt 35 [])),h:=[] }⟩]
noncomputable def zK:=qe [(77,q9 q5Z q5K wv),(305,q9 q3D q3u jn)] [(282,f282)] [] 0
noncomputable def qK:=wT zK 282 f282 4 vY vP
theorem q54:qk prog qa zK.nimp (qq prog zK.iter 282) (z7 f282 4) (qh vY vP (qf qK)):=gk zK qc q8 (alc q2f (alc q2j aln)) aln (b1 func282) func282
noncomputable def q0C:=qe [(77,q9 q5Z q5K wv),(305,q9 q3D q3u jn)] [(282,f282)] [((282,4),qh vY vP (qf qK))] 0
noncomputable def qy:=qj q0C 282 f282 true w9 wk
theorem uV:qx prog qa 282 (q9 w9 wk qy):=sk q0C qc q8 (alc q2f (alc q2j aln)) (alc (lk func282 q54) aln) (b1 func282) func282
def q4X:FIn:=⟨[(.agg [.str,.str,.str]),(.agg [(.int .i64),(.int .i64),(.int .i64)])],[]⟩
def q4V:List FOut:=[⟨(.tuple [.str,(.int .i64)]),[],none⟩]
def qaz:Tmpl:={ t:=(.any::.any::(.ptr 0 0)::.any::.any::.any::(.vec 2)::qt 5 ((.agg [(.int .i64),(.int .i64),(.int .i64)])::(.int .i64)::qt 25 [])),h:=[.cells [.str,.str,.str],.dead,.vec 108 [.str]],pro:=[(6,108,[.str])] }
def qal:List Out:=[⟨(.exit 0),{ t:=(qt 6 ((.vec 2)::qt 32 [])),h:=[.dead,.dead,.vec 108 [.str]] }⟩,⟨.ret,{ t:=(qt 4 (.str::(.int .i64)::qt 33 [])),h:=[] }⟩]
noncomputable def qcf:List (FuncId×zM):=[(53,q9 jK jG qw),(210,q9 qce qc9 zJ),(281,q9 vt vh qC),(282,q9 w9 wk qy)]
theorem qhX:∀x,x∈qcf->qx prog qa x.1 x.2:=(alc jf (alc q99 (alc ya (alc uV aln))))
noncomputable def q5g:=qe qcf [(283,f283)] [] 0
noncomputable def km:=wT q5g 283 f283 4 qaz qal
theorem qmk:qk prog qa q5g.nimp (qq prog q5g.iter 283) (z7 f283 4) (qh qaz qal (qf km)):=gk q5g qc q8 qhX aln (b1 func283) func283
noncomputable def qlr:=qe qcf [(283,f283)] [((283,4),qh qaz qal (qf km))] 0
noncomputable def vN:=qj qlr 283 f283 true q4X q4V
theorem q8z:qx prog qa 283 (q9 q4X q4V vN):=sk qlr qc q8 qhX (alc (lk func283 qmk) aln) (b1 func283) func283
def qac:FIn:=⟨[(.imm [(.int .i64),(.int .i64),(.int .i64)])],[]⟩
def qan:List FOut:=[⟨(.tuple [(.agg [.str,.str,.str,.str,(.imm [.str])]),.bool,(.int .i64)]),[],none⟩]
def q5Q:Tmpl:={ t:=((.imm [(.int .i64),(.int .i64),(.int .i64)])::.any::(.ptr 0 0)::.any::.any::(.int .i64)::(.vec 1)::(.vec 2)::(.int .i64)::qt 15 ((.int .i64)::(.int .i64)::.any::.any::(.int .i64)::(.int .i64)::qt 141 [])),h:=[.cells [.str,.str,.str,.str,.nils],.vec 3 [(.int .i64)],.vec 108 [.str]] }
def q5G:List Out:=[⟨(.exit 2),{ t:=((.imm [(.int .i64),(.int .i64),(.int .i64)])::.any::(.ptr 0 0)::.any::.any::(.int .i64)::(.vec 1)::(.vec 2)::(.int .i64)::qt 15 ((.int .i64)::(.int .i64)::qt 145 [])),h:=[.cells [.str,.str,.str,.str,.nils],.vec 3 [(.int .i64)],.vec 108 [.str]] }⟩]
noncomputable def ul:List (FuncId×zM):=[(53,q9 jK jG qw),(210,q9 qce qc9 zJ),(276,q9 qhe qgQ q1k),(277,q9 qmt qmL qcn),(278,q9 qia qiu yo),(279,q9 qej qel q4P),(280,q9 qmK qmE qcq),(281,q9 vt vh qC),(282,q9 w9 wk qy),(283,q9 q4X q4V vN)]
theorem kQ:∀x,x∈ul->qx prog qa x.1 x.2:=(alc jf (alc q99 (alc qrB (alc qvp (alc qny (alc qpQ (alc qvr (alc ya (alc uV (alc q8z aln))))))))))
noncomputable def q1A:=qe ul [(228,f228)] [] 0
noncomputable def jr:=wT q1A 228 f228 13 q5Q q5G
theorem qiE:qk prog qa q1A.nimp (qq prog q1A.iter 228) (z7 f228 13) (qh q5Q q5G (qf jr)):=gk q1A qc q8 kQ aln (b1 func228) func228
def q7G:Tmpl:={ t:=((.imm [(.int .i64),(.int .i64),(.int .i64)])::.any::(.ptr 0 0)::.any::.any::(.int .i64)::(.vec 1)::(.vec 2)::qt 16 ((.int .i64)::(.int .i64)::qt 145 [])),h:=[.cells [.str,.str,.str,.str,.nils],.vec 3 [(.int .i64)],.vec 108 [.str]],pro:=[(6,3,[(.int .i64)]),(7,108,[.str])] }
def q7i:List Out:=[⟨(.exit 0),{ t:=((.imm [(.int .i64),(.int .i64),(.int .i64)])::.any::(.ptr 0 0)::.any::.any::(.int .i64)::(.vec 1)::(.vec 2)::qt 163 []),h:=[.cells [.str,.str,.str,.str,.nils],.vec 3 [(.int .i64)],.vec 108 [.str]] }⟩]
noncomputable def q2R:=qe ul [(228,f228)] [((228,13),qh q5Q q5G (qf jr))] 0
noncomputable def jW:=wT q2R 228 f228 6 q7G q7i
theorem qki:qk prog qa q2R.nimp (qq prog q2R.iter 228) (z7 f228 6) (qh q7G q7i (qf jW)):=gk q2R qc q8 kQ (alc (lk func228 qiE) aln) (b1 func228) func228
def q5C:Tmpl:={ t:=((.imm [(.int .i64),(.int .i64),(.int .i64)])::.any::(.ptr 0 0)::qt 13 ((.ptr 6 0)::(.int .i64)::(.vec 7)::qt 107 ((.int .i64)::.any::.any::(.imm [(.int .i64),(.int .i64),(.int .i64)])::(.int .i64)::(.int .i64)::qt 39 []))),h:=[.cells [.str,.str,.str,.str,.nils],.dead,.dead,.dead,.dead,.frz 108 [.str],.cells [.str,.str,.str,.str,(.vec 5)],.vec 108 [.str]],pro:=[(18,108,[.str])] }
def q5O:List Out:=[⟨(.exit 6),{ t:=((.imm [(.int .i64),(.int .i64),(.int .i64)])::.any::(.ptr 0 0)::qt 13 ((.ptr 6 0)::(.int .i64)::(.vec 7)::qt 107 ((.int .i64)::qt 44 []))),h:=[.cells [.str,.str,.str,.str,.nils],.dead,.dead,.dead,.dead,.frz 108 [.str],.cells [.str,.str,.str,.str,(.vec 5)],.vec 108 [.str]] }⟩]
noncomputable def q1N:=qe ul [(228,f228)] [] 0
noncomputable def jp:=wT q1N 228 f228 52 q5C q5O
theorem qiz:qk prog qa q1N.nimp (qq prog q1N.iter 228) (z7 f228 52) (qh q5C q5O (qf jp)):=gk q1N qc q8 kQ aln (b1 func228) func228
def q5M:Tmpl:={ t:=((.imm [(.int .i64),(.int .i64),(.int .i64)])::.any::(.ptr 0 0)::qt 13 ((.ptr 6 0)::qt 109 ((.int .i64)::qt 44 []))),h:=[.cells [.str,.str,.str,.str,.nils],.dead,.dead,.dead,.dead,.frz 108 [.str],.cells [.str,.str,.str,.str,(.vec 5)]],fz:=[5] }
def q5Y:List Out:=[⟨(.exit 4),{ t:=((.imm [(.int .i64),(.int .i64),(.int .i64)])::.any::(.ptr 0 0)::qt 13 ((.ptr 6 0)::qt 154 [])),h:=[.cells [.str,.str,.str,.str,.nils],.dead,.dead,.dead,.dead,.frz 108 [.str],.cells [.str,.str,.str,.str,(.vec 5)]] }⟩,⟨.ret,{ t:=(.any::.any::(.ptr 0 0)::.bool::(.int .i64)::qt 166 []),h:=[.cells [.str,.str,.str,.str,.nils]] }⟩]
noncomputable def q1s:=qe ul [(228,f228)] [((228,52),qh q5C q5O (qf jp))] 0
noncomputable def jt:=wT q1s 228 f228 44 q5M q5Y
theorem qiw:qk prog qa q1s.nimp (qq prog q1s.iter 228) (z7 f228 44) (qh q5M q5Y (qf jt)):=gk q1s qc q8 kQ (alc (lk func228 qiz) aln) (b1 func228) func228
noncomputable def qic:=qe ul [(228,f228)] [((228,6),qh q7G q7i (qf jW)),((228,44),qh q5M q5Y (qf jt))] 0
noncomputable def ku:=qj qic 228 f228 true qac qan
theorem qmn:qx prog qa 228 (q9 qac qan ku):=sk qic qc q8 kQ (alc (lk func228 qki) (alc (lk func228 qiw) aln)) (b1 func228) func228
def qa2:FIn:=⟨[(.imm [(.int .i64),(.int .i64),(.int .i64)]),(.imm [(.int .i64)])],[]⟩
def qaD:List FOut:=[⟨(.imm [(.int .i64),(.int .i64),(.int .i64)]),[],none⟩]
def q6F:Tmpl:={ t:=((.imm [(.int .i64),(.int .i64),(.int .i64)])::qt 4 ((.vec 0)::.any::.any::(.imm [(.int .i64)])::(.int .i64)::(.int .i64)::qt 12 [])),h:=[.vec 71 [(.int .i64),(.int .i64),(.int .i64)]],pro:=[(5,71,[(.int .i64),(.int .i64),(.int .i64)])] }
def q6o:List Out:=[⟨(.exit 0),{ t:=(qt 5 ((.vec 0)::qt 17 [])),h:=[.vec 71 [(.int .i64),(.int .i64),(.int .i64)]] }⟩]
noncomputable def q2N:=qe [] [(229,f229)] [] 0
noncomputable def jU:=wT q2N 229 f229 4 q6F q6o
theorem qiX:qk prog qa q2N.nimp (qq prog q2N.iter 229) (z7 f229 4) (qh q6F q6o (qf jU)):=gk q2N qc q8 aln aln (b1 func229) func229
noncomputable def qi6:=qe [] [(229,f229)] [((229,4),qh q6F q6o (qf jU))] 0
noncomputable def q1S:=qj qi6 229 f229 true qa2 qaD
theorem qmT:qx prog qa 229 (q9 qa2 qaD q1S):=sk qi6 qc q8 aln (alc (lk func229 qiX) aln) (b1 func229) func229
def qh0:FIn:=⟨[.str],[]⟩
def qhu:List FOut:=[⟨(.tuple [.str,.str,(.int .i64)]),[],none⟩]
noncomputable def qnJ:=qe [(138,q9 q1O q1m qW),(189,q9 yV u7 qQ)] [(338,f338)] [] 0
noncomputable def q7u:=qj qnJ 338 f338 true qh0 qhu
theorem qrZ:qx prog qa 338 (q9 qh0 qhu q7u):=sk qnJ qc q8 (alc q0b (alc yl aln)) aln (b1 func338) func338
def qkf:FIn:=⟨[.str],[]⟩
def qjc:List FOut:=[⟨(.tuple [(.int .i64),(.int .i64)]),[],none⟩]
noncomputable def qro:=qe [(192,q9 q9u q9l ub),(242,q9 jH jz qG)] [(339,f339)] [] 0
noncomputable def q9t:=qj qro 339 f339 true qkf qjc
theorem qsz:qx prog qa 339 (q9 qkf qjc q9t):=sk qro qc q8 (alc qcs (alc je aln)) aln (b1 func339) func339
def qjO:FIn:=⟨[.str],[]⟩
def qjQ:List FOut:=[⟨(.tuple [(.int .i64),(.int .i64)]),[],none⟩]
noncomputable def qrc:=qe [(338,q9 qh0 qhu q7u),(339,q9 qkf qjc q9t)] [(286,f286)] [] 0
noncomputable def q67:=qj qrc 286 f286 true qjO qjQ
theorem quM:qx prog qa 286 (q9 qjO qjQ q67):=sk qrc qc q8 (alc qrZ (alc qsz aln)) aln (b1 func286) func286
def zD:FIn:=⟨[.str],[]⟩
def zB:List FOut:=[⟨.bool,[],none⟩]
noncomputable def q4S:=qe [(286,q9 qjO qjQ q67)] [(285,f285)] [] 0
noncomputable def qR:=qj q4S 285 f285 true zD zB
theorem vC:qx prog qa 285 (q9 zD zB qR):=sk q4S qc q8 (alc quM aln) aln (b1 func285) func285
def vF:FIn:=⟨[(.imm [.str]),(.fn 285 [] [])],[]⟩
def vE:List FOut:=[⟨(.int .i64),[],none⟩]
def wK:Tmpl:={ t:=((.imm [.str])::(.fn 285 [] [])::qt 5 ((.int .i64)::(.int .i64)::qt 10 [])),h:=[] }
def wN:List Out:=[⟨(.exit 0),{ t:=(qt 19 []),h:=[] }⟩,⟨.ret,{ t:=(qt 4 ((.int .i64)::qt 14 [])),h:=[] }⟩]
noncomputable def zr:=qe [(285,q9 zD zB qR)] [(337,f337)] [] 0
noncomputable def qv:=wT zr 337 f337 3 wK wN
theorem q3i:qk prog qa zr.nimp (qq prog zr.iter 337) (z7 f337 3) (qh wK wN (qf qv)):=gk zr qc q8 (alc vC aln) aln (b1 func337) func337
noncomputable def uZ:=qe [(285,q9 zD zB qR)] [(337,f337)] [((337,3),qh wK wN (qf qv))] 0
noncomputable def qJ:=qj uZ 337 f337 true vF vE
theorem q4t:qx prog qa 337 (q9 vF vE qJ):=sk uZ qc q8 (alc vC aln) (alc (lk func337 q3i) aln) (b1 func337) func337
def wu:FIn:=⟨[(.imm [.str]),(.fn 285 [] [])],[]⟩
def wC:List FOut:=[⟨.bool,[],none⟩]
noncomputable def yF:=qe [(285,q9 zD zB qR),(337,q9 vF vE qJ)] [(284,f284)] [] 0
noncomputable def qN:=qj yF 284 f284 true wu wC
theorem q32:qx prog qa 284 (q9 wu wC qN):=sk yF qc q8 (alc vC (alc q4t aln)) aln (b1 func284) func284
def q1R:FIn:=⟨[(.agg [.str,.str,.str,.str,(.imm [.str])])],[]⟩
def q1p:List FOut:=[⟨.bool,[],none⟩]
noncomputable def q6s:=qe [(284,q9 wu wC qN),(285,q9 zD zB qR)] [(230,f230)] [] 0
noncomputable def j3:=qj q6s 230 f230 true q1R q1p
theorem qdy:qx prog qa 230 (q9 q1R q1p j3):=sk q6s qc q8 (alc q32 (alc vC aln)) aln (b1 func230) func230
def ut:FIn:=⟨[.str,.str],[]⟩
def un:List FOut:=[⟨(.tuple [(.int .i64),(.int .i64)]),[],none⟩]
noncomputable def qkk:=qe [(136,q9 yq yw qo),(137,q9 vJ vM qA),(138,q9 q1O q1m qW),(139,q9 q7o q6O uD)] [(78,f78)] [] 0
noncomputable def qP:=qj qkk 78 f78 true ut un
theorem kG:qx prog qa 78 (q9 ut un qP):=sk qkk qc q8 (alc uo (alc v8 (alc q0b (alc qeh aln)))) aln (b1 func78) func78
def q07:FIn:=⟨[(.agg [.str,.str,.str,.str,(.imm [.str])]),(.imm [(.int .i64),(.int .i64),(.int .i64)])],[]⟩
def q0a:List FOut:=[⟨(.tuple [.bool,(.int .i64)]),[],none⟩]
def uB:Tmpl:={ t:=(.any::.any::(.ptr 0 0)::qt 9 ((.imm [(.int .i64),(.int .i64),(.int .i64)])::(.int .i64)::(.int .i64)::qt 28 [])),h:=[.cells [.str,.str,.str,.str,(.imm [.str])]] }
def uJ:List Out:=[⟨(.exit 0),{ t:=(qt 43 []),h:=[] }⟩,⟨.ret,{ t:=(qt 4 (.bool::(.int .i64)::qt 37 [])),h:=[] }⟩]
noncomputable def j6:=qe [(78,q9 ut un qP),(283,q9 q4X q4V vN)] [(231,f231)] [] 0
noncomputable def qV:=wT j6 231 f231 3 uB uJ
theorem q9E:qk prog qa j6.nimp (qq prog j6.iter 231) (z7 f231 3) (qh uB uJ (qf qV)):=gk j6 qc q8 (alc kG (alc q8z aln)) aln (b1 func231) func231
noncomputable def q4D:=qe [(78,q9 ut un qP),(283,q9 q4X q4V vN)] [(231,f231)] [((231,3),qh uB uJ (qf qV))] 0
noncomputable def wQ:=qj q4D 231 f231 true q07 q0a
theorem qbp:qx prog qa 231 (q9 q07 q0a wQ):=sk q4D qc q8 (alc kG (alc q8z aln)) (alc (lk func231 q9E) aln) (b1 func231) func231
def q5I:FIn:=⟨[(.imm [(.int .i64),(.int .i64),(.int .i64)]),(.imm [(.int .i64)])],[]⟩
def q5T:List FOut:=[⟨(.tuple [(.agg [.str,.str,.str,.str,(.imm [.str])]),.bool,(.int .i64)]),[],none⟩]
noncomputable def qc0:=qe [(228,q9 qac qan ku),(229,q9 qa2 qaD q1S),(230,q9 q1R q1p j3),(231,q9 q07 q0a wQ)] [(185,f185)] [] 0
noncomputable def zW:=qj qc0 185 f185 true q5I q5T
theorem qiK:qx prog qa 185 (q9 q5I q5T zW):=sk qc0 qc q8 (alc qmn (alc qmT (alc qdy (alc qbp aln)))) aln (b1 func185) func185
def qcZ:FIn:=⟨[(.imm [(.int .i64),(.int .i64),(.int .i64)]),(.int .i64)],[]⟩
def qcD:List FOut:=[⟨(.tuple [(.agg [.str,.str,.str,.str,(.imm [.str])]),(.imm [(.int .i64)]),(.int .i64)]),[],none⟩]
def q2B:Tmpl:={ t:=(.yld::.any::(.ptr 4 0)::.any::.any::(.vec 7)::.any::(.imm [(.int .i64)])::.any::(.int .i64)::.any::.any::(.int .i64)::(.int .i64)::.any::(.vec 6)::(.int .i64)::(.int .i64)::qt 35 []),h:=[.cells [(.imm [(.int .i64),(.int .i64),(.int .i64)])],.cells [.str,.str,.str,.str,.nils],.cells [.nils],.cells [(.int .i64)],.cells [(.int .i64)],.cells [(.int .i64)],.vec 38 [(.sl [(.int .i64)])],.vec 38 [(.sl [(.int .i64)])]],fs:=[[.any,.any,(.ptr 0 0),.any,(.ptr 1 0),(.ptr 2 0),(.ptr 3 0),.any,.any,.any,.any,.any,.any,.any,(.fn 226 [] [(.ptr 5 0),(.ptr 4 0)]),.any,.any,.any,.any,.any,.any,.any,.any,.any,.any,.any,.any,.any,.any,.any,.any],[]] }
def q2w:List Out:=[⟨(.exit 4),{ t:=(.yld::.any::(.ptr 4 0)::.any::.any::(.vec 7)::qt 6 ((.int .i64)::(.int .i64)::.any::(.vec 6)::(.int .i64)::(.int .i64)::qt 35 [])),h:=[.cells [(.imm [(.int .i64),(.int .i64),(.int .i64)])],.cells [.str,.str,.str,.str,.nils],.cells [.nils],.cells [(.int .i64)],.cells [(.int .i64)],.cells [(.int .i64)],.vec 38 [(.sl [(.int .i64)])],.vec 38 [(.sl [(.int .i64)])]],fs:=[[.any,.any,(.ptr 0 0),.any,(.ptr 1 0),(.ptr 2 0),(.ptr 3 0),.any,.any,.any,.any,.any,.any,.any,(.fn 226 [] [(.ptr 5 0),(.ptr 4 0)]),.any,.any,.any,.any,.any,.any,.any,.any,.any,.any,.any,.any,.any,.any,.any,.any],[]] }⟩,⟨.ret,{ t:=(qt 53 []),h:=[.cells [(.imm [(.int .i64),(.int .i64),(.int .i64)])],.cells [.str,.str,.str,.str,(.imm [.str])],.cells [(.vec 8)],.cells [(.int .i64)],.cells [(.int .i64)],.cells [(.int .i64)],.dead,.dead,.frz 3 [(.int .i64)]],fs:=[[.any,.any,(.ptr 0 0),.any,(.ptr 1 0),(.ptr 2 0),(.ptr 3 0),.any,.any,.any,.any,.any,.any,.any,(.fn 226 [] [(.ptr 5 0),(.ptr 4 0)]),.any,.any,.any,.any,.any,.any,.any,.any,.any,.any,.any,.any,.any,.any,.any,.any],[]],pend:=(.some .ret) }⟩]
noncomputable def q22:List (FuncId×zM):=[(185,q9 q5I q5T zW),(227,q9 q2s q2F wH)]
theorem q42:∀x,x∈q22->qx prog qa x.1 x.2:=(alc qiK (alc qev aln))
noncomputable def uN:Env:={ tt:=q1l,glob:=qa,spec:=q22,body:=[(131,f131),(184,f184),(226,f226)],loops:=[],nimp:=0,iter:=[(226,131,3)],raws:=[227] }
noncomputable def qE:=qtJ uN (some (131,f131,3)) 226 f226 18 q2B q2w
theorem qf7:qk prog qa uN.nimp (qq prog uN.iter 226) (z7 f226 18) (qh q2B q2w (qf qE)):=q36 (E:=uN) qc ⟨um q8,⟨q42,aln⟩,aln,(alc (bk func131) (alc (bk func184) (alc (bk func226) aln)))⟩ func226 (by kernel_rfl) (y:=some (131,f131,3)) ⟨func131,by kernel_rfl⟩ (by kernel_rfl) (by kernel_rfl) (fun _=>rfl)
def q3c:Tmpl:={ t:=(.yld::.any::(.ptr 4 0)::.any::.any::(.vec 7)::qt 6 ((.int .i64)::(.int .i64)::.any::(.vec 6)::(.int .i64)::(.int .i64)::qt 35 [])),h:=[.cells [(.imm [(.int .i64),(.int .i64),(.int .i64)])],.cells [.str,.str,.str,.str,.nils],.cells [.nils],.cells [(.int .i64)],.cells [(.int .i64)],.cells [(.int .i64)],.vec 38 [(.sl [(.int .i64)])],.vec 38 [(.sl [(.int .i64)])]],pro:=[(5,38,[(.sl [(.int .i64)])])],fs:=[[.any,.any,(.ptr 0 0),.any,(.ptr 1 0),(.ptr 2 0),(.ptr 3 0),.any,.any,.any,.any,.any,.any,.any,(.fn 226 [] [(.ptr 5 0),(.ptr 4 0)]),.any,.any,.any,.any,.any,.any,.any,.any,.any,.any,.any,.any,.any,.any,.any,.any],[]] }
def q3p:List Out:=[⟨(.exit 2),{ t:=(.yld::.any::(.ptr 4 0)::.any::.any::(.vec 7)::qt 6 ((.int .i64)::(.int .i64)::qt 39 [])),h:=[.cells [(.imm [(.int .i64),(.int .i64),(.int .i64)])],.cells [.str,.str,.str,.str,.nils],.cells [.nils],.cells [(.int .i64)],.cells [(.int .i64)],.cells [(.int .i64)],.dead,.vec 38 [(.sl [(.int .i64)])]],fs:=[[.any,.any,(.ptr 0 0),.any,(.ptr 1 0),(.ptr 2 0),(.ptr 3 0),.any,.any,.any,.any,.any,.any,.any,(.fn 226 [] [(.ptr 5 0),(.ptr 4 0)]),.any,.any,.any,.any,.any,.any,.any,.any,.any,.any,.any,.any,.any,.any,.any,.any],[]] }⟩,⟨.ret,{ t:=(qt 53 []),h:=[.cells [(.imm [(.int .i64),(.int .i64),(.int .i64)])],.cells [.str,.str,.str,.str,(.imm [.str])],.cells [(.vec 8)],.cells [(.int .i64)],.cells [(.int .i64)],.cells [(.int .i64)],.dead,.dead,.frz 3 [(.int .i64)]],fs:=[[.any,.any,(.ptr 0 0),.any,(.ptr 1 0),(.ptr 2 0),(.ptr 3 0),.any,.any,.any,.any,.any,.any,.any,(.fn 226 [] [(.ptr 5 0),(.ptr 4 0)]),.any,.any,.any,.any,.any,.any,.any,.any,.any,.any,.any,.any,.any,.any,.any,.any],[]],pend:=(.some .ret) }⟩]
noncomputable def kC:Env:={ tt:=q1l,glob:=qa,spec:=q22,body:=[(131,f131),(184,f184),(226,f226)],loops:=[((226,18),qh q2B q2w (qf qE))],nimp:=0,iter:=[(226,131,3)],raws:=[227] }
noncomputable def vr:=qtJ kC (some (131,f131,3)) 226 f226 9 q3c q3p
theorem qfP:qk prog qa kC.nimp (qq prog kC.iter 226) (z7 f226 9) (qh q3c q3p (qf vr)):=q36 (E:=kC) qc ⟨um q8,⟨q42,aln⟩,(alc (lk func226 qf7) aln),(alc (bk func131) (alc (bk func184) (alc (bk func226) aln)))⟩ func226 (by kernel_rfl) (y:=some (131,f131,3)) ⟨func131,by kernel_rfl⟩ (by kernel_rfl) (by kernel_rfl) (fun _=>rfl)
def q3b:Tmpl:={ t:=(.yld::.any::(.ptr 4 0)::.any::(.vec 6)::qt 7 ((.int .i64)::(.int .i64)::qt 39 [])),h:=[.cells [(.imm [(.int .i64),(.int .i64),(.int .i64)])],.cells [.str,.str,.str,.str,.nils],.cells [.nils],.cells [(.int .i64)],.cells [(.int .i64)],.cells [(.int .i64)],.vec 38 [(.sl [(.int .i64)])]],sw:=[(2,4),(4,6)],swn:=0,fs:=[[.any,.any,(.ptr 0 0),.any,(.ptr 1 0),(.ptr 2 0),(.ptr 3 0),.any,.any,.any,.any,.any,.any,.any,(.fn 226 [] [(.ptr 5 0),(.ptr 4 0)]),.any,.any,.any,.any,.any,.any,.any,.any,.any,.any,.any,.any,.any,.any,.any,.any],[]] }
def q3v:List Out:=[⟨(.exit 0),{ t:=(qt 53 []),h:=[.cells [(.imm [(.int .i64),(.int .i64),(.int .i64)])],.cells [.str,.str,.str,.str,.nils],.cells [.nils],.cells [(.int .i64)],.cells [(.int .i64)],.cells [(.int .i64)]],fs:=[[.any,.any,(.ptr 0 0),.any,(.ptr 1 0),(.ptr 2 0),(.ptr 3 0),.any,.any,.any,.any,.any,.any,.any,(.fn 226 [] [(.ptr 5 0),(.ptr 4 0)]),.any,.any,.any,.any,.any,.any,.any,.any,.any,.any,.any,.any,.any,.any,.any,.any],[]] }⟩,⟨.ret,{ t:=(qt 53 []),h:=[.cells [(.imm [(.int .i64),(.int .i64),(.int .i64)])],.cells [.str,.str,.str,.str,(.imm [.str])],.cells [(.vec 8)],.cells [(.int .i64)],.cells [(.int .i64)],.cells [(.int .i64)],.dead,.dead,.frz 3 [(.int .i64)]],fs:=[[.any,.any,(.ptr 0 0),.any,(.ptr 1 0),(.ptr 2 0),(.ptr 3 0),.any,.any,.any,.any,.any,.any,.any,(.fn 226 [] [(.ptr 5 0),(.ptr 4 0)]),.any,.any,.any,.any,.any,.any,.any,.any,.any,.any,.any,.any,.any,.any,.any,.any],[]],pend:=(.some .ret) }⟩]
noncomputable def kM:Env:={ tt:=q1l,glob:=qa,spec:=q22,body:=[(131,f131),(184,f184),(226,f226)],loops:=[((226,9),qh q3c q3p (qf vr))],nimp:=0,iter:=[(226,131,3)],raws:=[227] }
noncomputable def vd:=qtJ kM (some (131,f131,3)) 226 f226 2 q3b q3v
theorem qfN:qk prog qa kM.nimp (qq prog kM.iter 226) (z7 f226 2) (qh q3b q3v (qf vd)):=q36 (E:=kM) qc ⟨um q8,⟨q42,aln⟩,(alc (lk func226 qfP) aln),(alc (bk func131) (alc (bk func184) (alc (bk func226) aln)))⟩ func226 (by kernel_rfl) (y:=some (131,f131,3)) ⟨func131,by kernel_rfl⟩ (by kernel_rfl) (by kernel_rfl) (fun _=>rfl)
noncomputable def qk6:Env:={ tt:=q1l,glob:=qa,spec:=q22,body:=[(131,f131),(184,f184),(226,f226)],loops:=[((226,2),qh q3b q3v (qf vd))],nimp:=0,iter:=[(226,131,3)],raws:=[227] }
noncomputable def q15:=qj qk6 131 f131 true qcZ qcD
theorem qo3:qx prog qa 131 (q9 qcZ qcD q15):=sk qk6 qc q8 q42 (alc (lk func226 qfN) aln) (alc (bk func131) (alc (bk func184) (alc (bk func226) aln))) func131
def q9S:FIn:=⟨[(.imm [(.int .i64),(.int .i64)])],[]⟩
def q9U:List FOut:=[⟨(.imm [(.int .i64),(.int .i64),(.int .i64)]),[],none⟩]
def q6R:Tmpl:={ t:=(.any::.any::.any::(.vec 0)::.any::.any::(.imm [(.int .i64),(.int .i64)])::(.int .i64)::(.int .i64)::qt 13 []),h:=[.vec 71 [(.int .i64),(.int .i64),(.int .i64)]],pro:=[(3,71,[(.int .i64),(.int .i64),(.int .i64)])] }
def q6Z:List Out:=[⟨(.exit 0),{ t:=(.any::.any::.any::(.vec 0)::qt 18 []),h:=[.vec 71 [(.int .i64),(.int .i64),(.int .i64)]] }⟩]
noncomputable def q2L:=qe [] [(132,f132)] [] 0
noncomputable def yf:=wT q2L 132 f132 4 q6R q6Z
theorem qj0:qk prog qa q2L.nimp (qq prog q2L.iter 132) (z7 f132 4) (qh q6R q6Z (qf yf)):=gk q2L qc q8 aln aln (b1 func132) func132
noncomputable def qi9:=qe [] [(132,f132)] [((132,4),qh q6R q6Z (qf yf))] 0
noncomputable def q1Z:=qj qi9 132 f132 true q9S q9U
theorem qns:qx prog qa 132 (q9 q9S q9U q1Z):=sk qi9 qc q8 aln (alc (lk func132 qj0) aln) (b1 func132) func132
def q2v:FIn:=⟨[(.agg [.str,.str,.str,.str,(.imm [.str])])],[]⟩
def q2q:List FOut:=[⟨(.agg [.str,.str]),[],none⟩]
noncomputable def q84:=qe [] [(133,f133)] [] 0
noncomputable def uP:=qj q84 133 f133 true q2v q2q
theorem qem:qx prog qa 133 (q9 q2v q2q uP):=sk q84 qc q8 aln aln (b1 func133) func133
def q9Y:FIn:=⟨[(.imm [(.int .i64),(.int .i64)])],[]⟩
def q9V:List FOut:=[⟨(.tuple [(.agg [.str,.str]),.str,(.imm [(.int .i64)]),(.int .i64)]),[],none⟩]
noncomputable def qhL:=qe [(130,q9 qfh qf9 q4O),(131,q9 qcZ qcD q15),(132,q9 q9S q9U q1Z),(133,q9 q2v q2q uP)] [(76,f76)] [] 0
noncomputable def kr:=qj qhL 76 f76 true q9Y q9V
theorem qmw:qx prog qa 76 (q9 q9Y q9V kr):=sk qhL qc q8 (alc qqH (alc qo3 (alc qns (alc qem aln)))) aln (b1 func76) func76
def qfQ:FIn:=⟨[(.imm [(.int .i64),(.int .i64)]),(.int .i64)],[]⟩
def qgf:List FOut:=[⟨(.tuple [.bool,(.int .i64)]),[],none⟩]
noncomputable def qwC:=qe [(53,q9 jK jG qw),(76,q9 q9Y q9V kr),(77,q9 q5Z q5K wv),(78,q9 ut un qP)] [(27,f27)] [] 0
noncomputable def jS:=qj qwC 27 f27 true qfQ qgf
theorem qhl:qx prog qa 27 (q9 qfQ qgf jS):=sk qwC qc q8 (alc jf (alc qmw (alc q2f (alc kG aln)))) aln (b1 func27) func27
def qf2:FIn:=⟨[(.agg [(.int .i64),(.int .i64),(.int .i64)]),(.agg [(.int .i64),(.int .i64),(.int .i64)])],[]⟩
def qeG:List FOut:=[⟨(.agg [(.int .i64),(.int .i64),(.int .i64)]),[],none⟩]
noncomputable def qlt:=qe [] [(151,f151)] [] 0
noncomputable def q97:=qj qlt 151 f151 true qf2 qeG
theorem qqL:qx prog qa 151 (q9 qf2 qeG q97):=sk qlt qc q8 aln aln (b1 func151) func151
def q8v:FIn:=⟨[(.agg [(.int .i64),(.int .i64),(.int .i64)]),(.agg [(.int .i64),(.int .i64),(.int .i64)])],[]⟩
def q8o:List FOut:=[⟨(.int .i64),[],none⟩]
noncomputable def qga:=qe [] [(152,f152)] [] 0
noncomputable def q3V:=qj qga 152 f152 true q8v q8o
theorem ql8:qx prog qa 152 (q9 q8v q8o q3V):=sk qga qc q8 aln aln (b1 func152) func152
def q0k:FIn:=⟨[(.agg [(.int .i64),(.int .i64),(.int .i64)]),(.agg [(.int .i64),(.int .i64),(.int .i64)])],[]⟩
def q0n:List FOut:=[⟨(.tuple [(.int .i64),(.int .i64)]),[],none⟩]
noncomputable def qaW:=qe [(126,q9 q1r q1I yM),(150,q9 kF kU zu),(151,q9 qf2 qeG q97),(152,q9 q8v q8o q3V)] [(90,f90)] [] 0
noncomputable def ja:=qj qaW 90 f90 true q0k q0n
theorem q7M:qx prog qa 90 (q9 q0k q0n ja):=sk qaW qc q8 (alc q1W (alc q62 (alc qqL (alc ql8 aln)))) aln (b1 func90) func90
def q4d:FIn:=⟨[(.imm [(.int .i64),(.int .i64),(.int .i64),(.int .i64),(.int .i64),(.int .i64)])],[]⟩
def q45:List FOut:=[⟨(.tuple [(.imm [(.int .i64)]),(.int .i64)]),[],none⟩]
def qcP:Tmpl:={ t:=(qt 4 ((.vec 0)::qt 7 ((.imm [(.int .i64),(.int .i64),(.int .i64),(.int .i64),(.int .i64),(.int .i64)])::(.int .i64)::(.int .i64)::qt 20 []))),h:=[.vec 3 [(.int .i64)]],pro:=[(4,3,[(.int .i64)])] }
def qcM:List Out:=[⟨(.exit 0),{ t:=(qt 4 ((.vec 0)::qt 30 [])),h:=[.vec 3 [(.int .i64)]] }⟩,⟨.ret,{ t:=(.any::.any::.nils::(.int .i64)::qt 31 []),h:=[] }⟩]
noncomputable def q6w:=qe [(90,q9 q0k q0n ja)] [(34,f34)] [] 0
noncomputable def q0F:=wT q6w 34 f34 7 qcP qcM
theorem qp8:qk prog qa q6w.nimp (qq prog q6w.iter 34) (z7 f34 7) (qh qcP qcM (qf q0F)):=gk q6w qc q8 (alc q7M aln) aln (b1 func34) func34
noncomputable def qo8:=qe [(90,q9 q0k q0n ja)] [(34,f34)] [((34,7),qh qcP qcM (qf q0F))] 0
noncomputable def j5:=qj qo8 34 f34 true q4d q45
theorem q5l:qx prog qa 34 (q9 q4d q45 j5):=sk qo8 qc q8 (alc q7M aln) (alc (lk func34 qp8) aln) (b1 func34) func34
def q75:FIn:=⟨[(.int .i64)],[]⟩
def q7C:List FOut:=[⟨.bool,[],none⟩]
noncomputable def qe5:=qe [] [(173,f173)] [] 0
noncomputable def wF:=qj qe5 173 f173 true q75 q7C
theorem qkl:qx prog qa 173 (q9 q75 q7C wF):=sk qe5 qc q8 aln aln (b1 func173) func173
def q8L:FIn:=⟨[(.agg [(.int .i64),(.int .i64)])],[]⟩
def q8E:List FOut:=[⟨(.int .i64),[],none⟩]
noncomputable def qgg:=qe [(173,q9 q75 q7C wF)] [(113,f113)] [] 0
noncomputable def q0H:=qj qgg 113 f113 true q8L q8E
theorem qle:qx prog qa 113 (q9 q8L q8E q0H):=sk qgg qc q8 (alc qkl aln) aln (b1 func113) func113
def qbg:FIn:=⟨[(.agg [(.int .i64),(.int .i64)])],[]⟩
def qbw:List FOut:=[⟨(.int .i64),[],none⟩]
noncomputable def qoJ:=qe [(113,q9 q8L q8E q0H)] [(87,f87)] [] 0
noncomputable def q1z:=qj qoJ 87 f87 true qbg qbw
theorem qi8:qx prog qa 87 (q9 qbg qbw q1z):=sk qoJ qc q8 (alc qle aln) aln (b1 func87) func87
def q4E:FIn:=⟨[(.int .i64),(.ptr 0 0)],[.cells [(.int .i64),(.int .i64)]]⟩
def q4N:List FOut:=[⟨.bool,[.cells [(.int .i64),(.int .i64)]],none⟩]
noncomputable def qlA:=qe [] [(89,f89)] [] 1
noncomputable def q2c:=qj qlA 89 f89 true q4E q4N
theorem q8n:qx prog qa 89 (q9 q4E q4N q2c):=sk qlA qc q8 aln aln (b1 func89) func89
def kf:FIn:=⟨[(.imm [(.int .i64)]),(.fn 89 [] [(.ptr 0 0)])],[.cells [(.int .i64),(.int .i64)]]⟩
def kd:List FOut:=[⟨(.int .i64),[.cells [(.int .i64),(.int .i64)]],none⟩]
def yY:Tmpl:={ t:=((.imm [(.int .i64)])::(.fn 89 [] [(.ptr 0 0)])::qt 5 ((.int .i64)::(.int .i64)::qt 10 [])),h:=[.cells [(.int .i64),(.int .i64)]] }
def yW:List Out:=[⟨(.exit 0),{ t:=(qt 19 []),h:=[.cells [(.int .i64),(.int .i64)]] }⟩,⟨.ret,{ t:=(qt 4 ((.int .i64)::qt 14 [])),h:=[.cells [(.int .i64),(.int .i64)]] }⟩]
noncomputable def vB:=qe [(89,q9 q4E q4N q2c)] [(88,f88)] [] 1
noncomputable def ze:=wT vB 88 f88 3 yY yW
theorem q8f:qk prog qa vB.nimp (qq prog vB.iter 88) (z7 f88 3) (qh yY yW (qf ze)):=gk vB qc q8 (alc q8n aln) aln (b1 func88) func88
noncomputable def q4g:=qe [(89,q9 q4E q4N q2c)] [(88,f88)] [((88,3),qh yY yW (qf ze))] 1
noncomputable def wn:=qj q4g 88 f88 true kf kd
theorem qaA:qx prog qa 88 (q9 kf kd wn):=sk q4g qc q8 (alc q8n aln) (alc (lk func88 q8f) aln) (b1 func88) func88
def qdZ:FIn:=⟨[(.imm [(.int .i64),(.int .i64),(.int .i64),(.int .i64),(.int .i64),(.int .i64)]),(.agg [(.int .i64),(.int .i64)])],[]⟩
def qdD:List FOut:=[⟨(.tuple [.bool,(.int .i64),(.int .i64)]),[],none⟩]
noncomputable def qqY:=qe [(34,q9 q4d q45 j5),(87,q9 qbg qbw q1z),(88,q9 kf kd wn),(89,q9 q4E q4N q2c)] [(31,f31)] [] 0
noncomputable def q17:=qj qqY 31 f31 true qdZ qdD
theorem qjL:qx prog qa 31 (q9 qdZ qdD q17):=sk qqY qc q8 (alc q5l (alc qi8 (alc qaA (alc q8n aln)))) aln (b1 func31) func31
def uS:FIn:=⟨[(.imm [(.int .i64)]),(.imm [(.int .i64)])],[]⟩
def uM:List FOut:=[⟨.bool,[],none⟩]
def q0J:Tmpl:={ t:=((.imm [(.int .i64)])::(.imm [(.int .i64)])::qt 10 ((.int .i64)::(.int .i64)::qt 12 [])),h:=[] }
def q16:List Out:=[⟨(.exit 0),{ t:=(qt 26 []),h:=[] }⟩,⟨.ret,{ t:=(qt 4 (.bool::qt 21 [])),h:=[] }⟩]
noncomputable def yj:=qe [] [(39,f39)] [] 0
noncomputable def zQ:=wT yj 39 f39 6 q0J q16
theorem qcx:qk prog qa yj.nimp (qq prog yj.iter 39) (z7 f39 6) (qh q0J q16 (qf zQ)):=gk yj qc q8 aln aln (b1 func39) func39
noncomputable def q87:=qe [] [(39,f39)] [((39,6),qh q0J q16 (qf zQ))] 0
noncomputable def zI:=qj q87 39 f39 true uS uM
theorem q4R:qx prog qa 39 (q9 uS uM zI):=sk q87 qc q8 aln (alc (lk func39 qcx) aln) (b1 func39) func39
def qk8:FIn:=⟨[],[]⟩
def qkj:List FOut:=[⟨(.agg [(.int .i64),(.imm [(.int .i64),(.int .i64),(.int .i64)]),(.imm [(.int .i64),(.int .i64),(.int .i64)])]),[],none⟩]
noncomputable def qqZ:=qe [] [(67,f67)] [] 0
noncomputable def qee:=qj qqZ 67 f67 true qk8 qkj
theorem qtW:qx prog qa 67 (q9 qk8 qkj qee):=sk qqZ qc q8 aln aln (b1 func67) func67
def q7K:FIn:=⟨[],[]⟩
def q7d:List FOut:=[⟨.bool,[],none⟩]
noncomputable def qp6:=qe [(20,q9 qbc qb3 yP),(22,q9 qhD qgP q7p),(27,q9 qfQ qgf jS),(31,q9 qdZ qdD q17),(34,q9 q4d q45 j5),(39,q9 uS uM zI),(67,q9 qk8 qkj qee)] [(19,f19)] [] 0
noncomputable def wW:=qj qp6 19 f19 true q7K q7d
theorem q9Q:qx prog qa 19 (q9 q7K q7d wW):=sk qp6 qc q8 (alc qii (alc qrY (alc qhl (alc qjL (alc q5l (alc q4R (alc qtW aln))))))) aln (b1 func19) func19
def q1f:FIn:=⟨[(.agg [(.int .i64),(.int .i64),(.int .i64)])],[]⟩
def q1D:List FOut:=[⟨(.agg [(.int .i64),(.int .i64),(.int .i64)]),[],none⟩]
noncomputable def qcR:=qe [] [(182,f182)] [] 0
noncomputable def uK:=qj qcR 182 f182 true q1f q1D
theorem q85:qx prog qa 182 (q9 q1f q1D uK):=sk qcR qc q8 aln aln (b1 func182) func182
def q3O:FIn:=⟨[(.imm [(.int .i64),(.int .i64),(.int .i64)]),(.int .i64)],[]⟩
def q3P:List FOut:=[⟨(.imm [(.int .i64)]),[],none⟩]
def qde:Tmpl:={ t:=((.imm [(.int .i64),(.int .i64),(.int .i64)])::(.int .i64)::.any::.any::.any::(.vec 0)::(.int .i64)::qt 17 []),h:=[.vec 3 [(.int .i64)]],pro:=[(5,3,[(.int .i64)])] }
def qcv:List Out:=[⟨(.exit 0),{ t:=(qt 5 ((.vec 0)::qt 18 [])),h:=[.vec 3 [(.int .i64)]] }⟩]
noncomputable def q7f:=qe [(182,q9 q1f q1D uK)] [(124,f124)] [] 0
noncomputable def q0N:=wT q7f 124 f124 4 qde qcv
theorem qod:qk prog qa q7f.nimp (qq prog q7f.iter 124) (z7 f124 4) (qh qde qcv (qf q0N)):=gk q7f qc q8 (alc q85 aln) aln (b1 func124) func124
noncomputable def qo7:=qe [(182,q9 q1f q1D uK)] [(124,f124)] [((124,4),qh qde qcv (qf q0N))] 0
noncomputable def vZ:=qj qo7 124 f124 true q3O q3P
theorem q5q:qx prog qa 124 (q9 q3O q3P vZ):=sk qo7 qc q8 (alc q85 aln) (alc (lk func124 qod) aln) (b1 func124) func124
def qbD:FIn:=⟨[(.agg [(.int .i64),(.imm [(.int .i64),(.int .i64),(.int .i64)]),(.imm [(.int .i64),(.int .i64),(.int .i64)])])],[]⟩
def qbJ:List FOut:=[⟨(.imm [(.int .i64)]),[],none⟩]
def qaC:Tmpl:={ t:=(.any::.any::.any::(.imm [(.int .i64)])::(.imm [(.int .i64)])::(.vec 1)::(.int .i64)::(.int .i64)::qt 35 []),h:=[.dead,.vec 3 [(.int .i64)]] }
def qag:List Out:=[⟨(.exit 2),{ t:=(.any::.any::.any::(.imm [(.int .i64)])::(.imm [(.int .i64)])::(.vec 1)::(.int .i64)::qt 36 []),h:=[.dead,.vec 3 [(.int .i64)]] }⟩]
noncomputable def q5r:=qe [(124,q9 q3O q3P vZ)] [(71,f71)] [] 0
noncomputable def ko:=wT q5r 71 f71 10 qaC qag
theorem qmY:qk prog qa q5r.nimp (qq prog q5r.iter 71) (z7 f71 10) (qh qaC qag (qf ko)):=gk q5r qc q8 (alc q5q aln) aln (b1 func71) func71
def qcb:Tmpl:={ t:=(.any::.any::.any::(.imm [(.int .i64)])::(.imm [(.int .i64)])::(.vec 1)::(.int .i64)::qt 36 []),h:=[.dead,.vec 3 [(.int .i64)]],pro:=[(5,3,[(.int .i64)])] }
def qcE:List Out:=[⟨(.exit 0),{ t:=(qt 5 ((.vec 1)::qt 37 [])),h:=[.dead,.vec 3 [(.int .i64)]] }⟩]
noncomputable def q74:=qe [(124,q9 q3O q3P vZ)] [(71,f71)] [((71,10),qh qaC qag (qf ko))] 0
noncomputable def q0K:=wT q74 71 f71 5 qcb qcE
theorem qnL:qk prog qa q74.nimp (qq prog q74.iter 71) (z7 f71 5) (qh qcb qcE (qf q0K)):=gk q74 qc q8 (alc q5q aln) (alc (lk func71 qmY) aln) (b1 func71) func71
noncomputable def qpo:=qe [(124,q9 q3O q3P vZ)] [(71,f71)] [((71,5),qh qcb qcE (qf q0K))] 0
noncomputable def q1i:=qj qpo 71 f71 true qbD qbJ
theorem qim:qx prog qa 71 (q9 qbD qbJ q1i):=sk qpo qc q8 (alc q5q aln) (alc (lk func71 qnL) aln) (b1 func71) func71
def qiU:FIn:=⟨[(.int .i64)],[]⟩
def qks:List FOut:=[⟨(.int .i64),[],none⟩]
noncomputable def qrk:=qe [] [(74,f74)] [] 0
noncomputable def q9F:=qj qrk 74 f74 true qiU qks
theorem qso:qx prog qa 74 (q9 qiU qks q9F):=sk qrk qc q8 aln aln (b1 func74) func74
def qkR:FIn:=⟨[(.int .i64)],[]⟩
def ql3:List FOut:=[⟨.bool,[],none⟩]
noncomputable def qvU:=qe [] [(96,f96)] [] 0
noncomputable def ju:=qj qvU 96 f96 true qkR ql3
theorem qoi:qx prog qa 96 (q9 qkR ql3 ju):=sk qvU qc q8 aln aln (b1 func96) func96
def ud:FIn:=⟨[(.agg [(.int .i64),(.int .i64),(.int .i64)])],[]⟩
def uf:List FOut:=[⟨.bool,[],none⟩]
noncomputable def qfT:=qe [(96,q9 qkR ql3 ju)] [(153,f153)] [] 0
noncomputable def zE:=qj qfT 153 f153 true ud uf
theorem q0q:qx prog qa 153 (q9 ud uf zE):=sk qfT qc q8 (alc qoi aln) aln (b1 func153) func153
def q7E:FIn:=⟨[(.imm [(.int .i64),(.int .i64),(.int .i64)])],[]⟩
def q7y:List FOut:=[⟨(.int .i64),[],none⟩]
def q4B:Tmpl:={ t:=((.imm [(.int .i64),(.int .i64),(.int .i64)])::.any::.any::(.int .i64)::qt 15 []),h:=[] }
def q4n:List Out:=[⟨(.exit 0),{ t:=(qt 19 []),h:=[] }⟩,⟨.ret,{ t:=(.any::.any::(.int .i64)::qt 16 []),h:=[] }⟩]
noncomputable def q0r:=qe [(153,q9 ud uf zE)] [(129,f129)] [] 0
noncomputable def wB:=wT q0r 129 f129 6 q4B q4n
theorem qh5:qk prog qa q0r.nimp (qq prog q0r.iter 129) (z7 f129 6) (qh q4B q4n (qf wB)):=gk q0r qc q8 (alc q0q aln) aln (b1 func129) func129
noncomputable def qe6:=qe [(153,q9 ud uf zE)] [(129,f129)] [((129,6),qh q4B q4n (qf wB))] 0
noncomputable def jT:=qj qe6 129 f129 true q7E q7y
theorem qjh:qx prog qa 129 (q9 q7E q7y jT):=sk qe6 qc q8 (alc q0q aln) (alc (lk func129 qh5) aln) (b1 func129) func129
def qjF:FIn:=⟨[(.imm [(.int .i64),(.int .i64),(.int .i64)])],[]⟩
def qko:List FOut:=[⟨(.int .i64),[],none⟩]
noncomputable def qr8:=qe [(129,q9 q7E q7y jT)] [(75,f75)] [] 0
noncomputable def q60:=qj qr8 75 f75 true qjF qko
theorem qsZ:qx prog qa 75 (q9 qjF qko q60):=sk qr8 qc q8 (alc qjh aln) aln (b1 func75) func75
def qbm:FIn:=⟨[(.agg [(.int .i64),(.imm [(.int .i64),(.int .i64),(.int .i64)]),(.imm [(.int .i64),(.int .i64),(.int .i64)])])],[]⟩
def qbz:List FOut:=[⟨(.int .i64),[],none⟩]
def qab:Tmpl:={ t:=(qt 6 ((.imm [(.int .i64)])::(.int .i64)::qt 31 [])),h:=[] }
def qap:List Out:=[⟨(.exit 0),{ t:=(qt 39 []),h:=[] }⟩,⟨.ret,{ t:=(.any::.any::(.int .i64)::qt 36 []),h:=[] }⟩]
noncomputable def qet:List (FuncId×zM):=[(71,q9 qbD qbJ q1i),(74,q9 qiU qks q9F),(75,q9 qjF qko q60)]
theorem qiO:∀x,x∈qet->qx prog qa x.1 x.2:=(alc qim (alc qso (alc qsZ aln)))
noncomputable def q5v:=qe qet [(25,f25)] [] 0
noncomputable def yp:=wT q5v 25 f25 16 qab qap
theorem qnj:qk prog qa q5v.nimp (qq prog q5v.iter 25) (z7 f25 16) (qh qab qap (qf yp)):=gk q5v qc q8 qiO aln (b1 func25) func25
noncomputable def qnC:=qe qet [(25,f25)] [((25,16),qh qab qap (qf yp))] 0
noncomputable def q1F:=qj qnC 25 f25 true qbm qbz
theorem qi5:qx prog qa 25 (q9 qbm qbz q1F):=sk qnC qc q8 qiO (alc (lk func25 qnj) aln) (b1 func25) func25
def qdR:FIn:=⟨[(.imm [(.int .i64)])],[]⟩
def qdO:List FOut:=[⟨(.tuple [(.int .i64),(.int .i64)]),[],none⟩]
def qfp:Tmpl:={ t:=((.imm [(.int .i64)])::.any::.any::.any::(.int .i64)::(.int .i64)::(.int .i64)::qt 26 []),h:=[] }
def qeR:List Out:=[⟨(.exit 0),{ t:=(qt 4 ((.int .i64)::(.int .i64)::qt 27 [])),h:=[] }⟩]
noncomputable def q8X:=qe [] [(70,f70)] [] 0
noncomputable def q2a:=wT q8X 70 f70 4 qfp qeR
theorem qq0:qk prog qa q8X.nimp (qq prog q8X.iter 70) (z7 f70 4) (qh qfp qeR (qf q2a)):=gk q8X qc q8 aln aln (b1 func70) func70
noncomputable def qrs:=qe [] [(70,f70)] [((70,4),qh qfp qeR (qf q2a))] 0
noncomputable def uc:=qj qrs 70 f70 true qdR qdO
theorem qiS:qx prog qa 70 (q9 qdR qdO uc):=sk qrs qc q8 aln (alc (lk func70 qq0) aln) (b1 func70) func70
def qgZ:FIn:=⟨[(.agg [(.int .i64),(.imm [(.int .i64),(.int .i64),(.int .i64)]),(.imm [(.int .i64),(.int .i64),(.int .i64)])]),.bool],[]⟩
def qhq:List FOut:=[⟨(.int .i64),[],none⟩]
noncomputable def qob:=qe [(70,q9 qdR qdO uc),(124,q9 q3O q3P vZ)] [(69,f69)] [] 0
noncomputable def q43:=qj qob 69 f69 true qgZ qhq
theorem qrD:qx prog qa 69 (q9 qgZ qhq q43):=sk qob qc q8 (alc qiS (alc q5q aln)) aln (b1 func69) func69
def qgz:FIn:=⟨[(.imm [(.int .i64),(.int .i64)])],[]⟩
def qhg:List FOut:=[⟨.bool,[],none⟩]
noncomputable def qt5:=qe [] [(26,f26)] [] 0
noncomputable def q1y:=qj qt5 26 f26 true qgz qhg
theorem qm2:qx prog qa 26 (q9 qgz qhg q1y):=sk qt5 qc q8 aln aln (b1 func26) func26
def q3W:FIn:=⟨[(.agg [(.int .i64),(.int .i64)])],[]⟩
def q40:List FOut:=[⟨.bool,[],none⟩]
noncomputable def qnS:=qe [(96,q9 qkR ql3 ju)] [(48,f48)] [] 0
noncomputable def vW:=qj qnS 48 f48 true q3W q40
theorem q5j:qx prog qa 48 (q9 q3W q40 vW):=sk qnS qc q8 (alc qoi aln) aln (b1 func48) func48
def qb2:FIn:=⟨[(.imm [(.int .i64),(.int .i64)])],[]⟩
def qb5:List FOut:=[⟨(.int .i64),[],none⟩]
def qc2:Tmpl:={ t:=((.imm [(.int .i64),(.int .i64)])::.any::.any::(.int .i64)::qt 15 []),h:=[] }
def qcj:List Out:=[⟨(.exit 0),{ t:=(qt 19 []),h:=[] }⟩,⟨.ret,{ t:=(.any::.any::(.int .i64)::qt 16 []),h:=[] }⟩]
noncomputable def q6X:=qe [(48,q9 q3W q40 vW)] [(29,f29)] [] 0
noncomputable def uG:=wT q6X 29 f29 6 qc2 qcj
theorem qnE:qk prog qa q6X.nimp (qq prog q6X.iter 29) (z7 f29 6) (qh qc2 qcj (qf uG)):=gk q6X qc q8 (alc q5j aln) aln (b1 func29) func29
noncomputable def qnR:=qe [(48,q9 q3W q40 vW)] [(29,f29)] [((29,6),qh qc2 qcj (qf uG))] 0
noncomputable def u5:=qj qnR 29 f29 true qb2 qb5
theorem qhV:qx prog qa 29 (q9 qb2 qb5 u5):=sk qnR qc q8 (alc q5j aln) (alc (lk func29 qnE) aln) (b1 func29) func29
def q7H:FIn:=⟨[(.agg [(.int .i64),(.int .i64),(.int .i64)]),(.agg [(.int .i64),(.int .i64),(.int .i64)])],[]⟩
def q71:List FOut:=[⟨(.int .i64),[],none⟩]
noncomputable def qdL:=qe [] [(154,f154)] [] 0
noncomputable def q2S:=qj qdL 154 f154 true q7H q71
theorem qjU:qx prog qa 154 (q9 q7H q71 q2S):=sk qdL qc q8 aln aln (b1 func154) func154
def qjw:FIn:=⟨[(.agg [(.int .i64),(.int .i64),(.int .i64)]),(.agg [(.int .i64),(.int .i64),(.int .i64)])],[]⟩
def qk7:List FOut:=[⟨(.agg [(.int .i64),(.int .i64),(.int .i64)]),[],none⟩]
noncomputable def qr4:=qe [] [(155,f155)] [] 0
noncomputable def qdA:=qj qr4 155 f155 true qjw qk7
theorem qt8:qx prog qa 155 (q9 qjw qk7 qdA):=sk qr4 qc q8 aln aln (b1 func155) func155
end Go.Eng

