/- Texts of the proof, merged: what the code computes, and plain laws. No statement stands here. -/
import Derived.Shelf.Strings.SlTrimAscii
import Derived.Shelf.Strings.Search2
import Derived.Shelf.Small.Strs
import Derived.Shelf.Strconv.Itoa3
import Derived.Shelf.Strconv.Atoi
import Derived.Shelf.Strings.BuilderK
import Derived.Shelf.LaysM
import Derived.Test.YtcngjnijbegcmaaGreatDoorProg
import Derived.WalkKit
import Derived.BigCall
import Derived.Deep.RegionWith
import Derived.Laws.Externs
import Derived.Lib.Builder
import Derived.Lib.AppendStr
import Derived.Shelf.SlicesG.Clone
import Derived.WalkSpells
import Derived.KernelRfl
import Derived.Test.YtcngjnijbegcmaaGreatDoorF4
namespace Go.Eng
def su:Nat->(Nat->Rat)->Rat
 | 0,_=>0
 | n+1,f=>su n f+f n
theorem qo:∀{n:Nat} {f g:Nat->Rat},(∀i,i<n->f i=g i)->su n f=su n g
 | 0,_,_,_=>rfl
 | n+1,f,g,h=>by simp only[su];rw[qo (fun i hi=>h i (by omega)),h n (by omega)]
theorem q5E:∀(n:Nat) (f g:Nat->Rat),su n (fun i=>f i+g i)=su n f+su n g
 | 0,_,_=>by show (0:Rat)=0+0;grind
 | n+1,f,g=>by simp only[su];rw[q5E n f g];grind
theorem wF:∀(n:Nat) (a:Rat) (f:Nat->Rat),su n (fun i=>a*f i)=a*su n f
 | 0,a,_=>by simp[su]
 | n+1,a,f=>by simp only[su];rw[wF n a f];grind
theorem q7V(n:Nat)(f g:Nat->Rat):su n (fun i=>f i-g i)=su n f-su n g:=by have h:=q5E n f (fun i=>(-1)*g i);rw[wF] at h;rw[qo (g:=fun i=>f i+(-1)*g i) (fun i _=>by grind),h];grind
theorem q6X:∀(n:Nat),su n (fun _=>0)=0
 | 0=>rfl
 | n+1=>by simp only[su];rw[q6X n];grind
theorem qDu:∀{n:Nat} {f:Nat->Rat},(∀i,i<n->0<=f i)->0<=su n f
 | 0,_,_=>qKv
 | n+1,f,h=>by
  have a:=qDu (n:=n) (f:=f) (fun i hi=>h i (by omega));have b:=h n (by omega);simp only[su];grind
theorem qwn:∀(m n:Nat) (f:Nat->Nat->Rat),su m (fun i=>su n (f i))=su n (fun j=>su m (fun i=>f i j))
 | 0,n,f=>by simp only[su];rw[q6X]
 | m+1,n,f=>by simp only[su];rw[qwn m n f,q5E]
theorem q7R:∀{n k:Nat} (f:Nat->Rat),k<n->(∀i,i<n->i≠k->f i=0)->su n f=f k
 | 0,k,f,h,_=>by omega
 | n+1,k,f,h,hz=>by
  simp only[su];by_cases hk:k=n
  ·subst hk;rw[qo (g:=fun _=>0) (fun i hi=>hz i (by omega) (by omega)),q6X];grind
  ·rw[q7R f (by omega:k<n) (fun i hi hne=>hz i (by omega) hne),hz n (by omega) (by omega)];grind
theorem qrb:∀{n:Nat} {f:Nat->Rat},su n f≠0->∃i,i<n/\f i≠0
 | 0,_,h=>absurd rfl h
 | n+1,f,h=>by
  by_cases hn:f n=0
  ·obtain⟨i,hi,h'⟩:=qrb (n:=n) (f:=f) (by simp only[su] at h;rw[hn] at h;grind);exact⟨i,by omega,h'⟩
  ·exact⟨n,by omega,hn⟩
def qmq(m n:Nat)(M:Nat->Nat->Rat)(b x:Nat->Rat):Prop:=∀i,i<m->su n (fun j=>M i j*x j)=b i
def qFK(m n:Nat)(M:Nat->Nat->Rat)(b y:Nat->Rat):Prop:=(∀j,j<n->su m (fun i=>y i*M i j)=0)/\su m (fun i=>y i*b i)≠0
theorem qs5(m:Nat):∀(n:Nat) (M:Nat->Nat->Rat) (b:Nat->Rat),(∃x,qmq m n M b x)\/∃y,qFK m n M b y
 | 0,M,b=>by
  by_cases h:∀i,i<m->b i=0
  ·exact .inl ⟨fun _=>0,fun i hi=>(h i hi).symm⟩
  ·right;obtain⟨k,hk⟩:=qLx.1 h;obtain⟨hk,hb⟩:=qL8.1 hk;refine⟨fun i=>if i=k then 1 else 0,fun j hj=>by omega,?_⟩;rw[q7R _ hk (fun i _ hne=>by simp[hne])];simpa using hb
 | n+1,M,b=>by
  by_cases h:∀i,i<m->M i n=0
  ·rcases qs5 m n M b with⟨x,hx⟩|⟨y,h1,h2⟩
   ·refine .inl ⟨fun j=>if j=n then 0 else x j,fun i hi=>?_⟩;simp only[su];rw[<-hx i hi,h i hi,qo (g:=fun j=>M i j*x j) (fun j hj=>by rw[if_neg (by omega)])];grind
   ·refine .inr ⟨y,fun j hj=>?_,h2⟩;by_cases hjn:j=n
    ·subst hjn;rw[qo (g:=fun _=>0) (fun i hi=>by rw[h i hi];grind),q6X]
    ·exact h1 j (by omega)
  ·obtain⟨k,hk⟩:=qLx.1 h;obtain⟨hk,ha⟩:=qL8.1 hk;have inv:M k n*(M k n)⁻¹=1:=qLk _ ha;rcases qs5 m n (fun i j=>M i j-M i n*(M k n)⁻¹*M k j) (fun i=>b i-M i n*(M k n)⁻¹*b k) with⟨x,hx⟩|⟨y,h1,h2⟩
   ·refine .inl ⟨fun j=>if j=n then (M k n)⁻¹*(b k-su n (fun j=>M k j*x j)) else x j,fun i hi=>?_⟩;have e:=hx i hi;simp only[su,if_true];rw[qo (g:=fun j=>M i j*x j) (fun j hj=>by rw[if_neg (by omega)])];have e2:su n (fun j=>(M i j-M i n*(M k n)⁻¹*M k j)*x j)=su n (fun j=>M i j*x j)-M i n*(M k n)⁻¹*su n (fun j=>M k j*x j):=by rw[<-wF,<-q7V];exact qo fun j _=>by grind
    rw[e2] at e;grind
   ·refine .inr ⟨fun i=>y i-(if i=k then su m (fun i=>y i*M i n)*(M k n)⁻¹ else 0),fun j hj=>?_,?_⟩
    ·have e1:su m (fun i=>(y i-(if i=k then su m (fun i=>y i*M i n)*(M k n)⁻¹ else 0))*M i j)=su m (fun i=>y i*M i j)-su m (fun i=>y i*M i n)*(M k n)⁻¹*M k j:=by have s:=q7R (n:=m) (k:=k) (fun i=>(if i=k then su m (fun i=>y i*M i n)*(M k n)⁻¹ else 0)*M i j) hk (fun i _ hne=>by simp[hne]);simp only[if_true] at s;rw[<-s,<-q7V];exact qo fun i _=>by grind
     rw[e1];by_cases hjn:j=n
     ·subst hjn;grind
     ·have:=h1 j (by omega);have e2:su m (fun i=>y i*(M i j-M i n*(M k n)⁻¹*M k j))=su m (fun i=>y i*M i j)-su m (fun i=>y i*M i n)*((M k n)⁻¹*M k j):=by rw[show su m (fun i=>y i*M i n)*((M k n)⁻¹*M k j)=((M k n)⁻¹*M k j)*su m (fun i=>y i*M i n) from by grind,<-wF,<-q7V];exact qo fun i _=>by grind
      rw[e2] at this;grind
    ·have e1:su m (fun i=>(y i-(if i=k then su m (fun i=>y i*M i n)*(M k n)⁻¹ else 0))*b i)=su m (fun i=>y i*b i)-su m (fun i=>y i*M i n)*(M k n)⁻¹*b k:=by have s:=q7R (n:=m) (k:=k) (fun i=>(if i=k then su m (fun i=>y i*M i n)*(M k n)⁻¹ else 0)*b i) hk (fun i _ hne=>by simp[hne]);simp only[if_true] at s;rw[<-s,<-q7V];exact qo fun i _=>by grind
     rw[e1];have e2:su m (fun i=>y i*(b i-M i n*(M k n)⁻¹*b k))=su m (fun i=>y i*b i)-su m (fun i=>y i*M i n)*((M k n)⁻¹*b k):=by rw[show su m (fun i=>y i*M i n)*((M k n)⁻¹*b k)=((M k n)⁻¹*b k)*su m (fun i=>y i*M i n) from by grind,<-wF,<-q7V];exact qo fun i _=>by grind
     rw[e2] at h2;intro h0;apply h2;grind
variable {n:Nat}
structure V3 where
 x:Rat
 y:Rat
 z:Rat
def qaA(a b:V3):Rat:=a.x*b.x+a.y*b.y+a.z*b.z
def d2(a b:V3):Rat:=(a.x-b.x)*(a.x-b.x)+(a.y-b.y)*(a.y-b.y)+(a.z-b.z)*(a.z-b.z)
theorem qud (a b:V3):d2 a b=qaA a a-2*qaA a b+qaA b b:=by unfold d2 qaA;grind
theorem qo3 (a:Rat):0<=a*a:=by
 rcases Rat.le_total (a:=0) (b:=a) with h|h
 ·exact qJr h h
 ·have:=qJr (show 0<=-a by grind) (show 0<=-a by grind);grind
theorem qui (a b:V3):0<=d2 a b:=by have h1:=qo3 (a.x-b.x);have h2:=qo3 (a.y-b.y);have h3:=qo3 (a.z-b.z);unfold d2;grind
theorem qt6 {a:Rat}(h:a*a<=0):a=0:=by
 have h1:=qo3 a;have h2:a*a=0:=by grind
 rcases qKB.1 h2 with h|h<;>exact h
theorem qvd {a b:V3}(h:d2 a b<=0):a=b:=by have h1:=qo3 (a.x-b.x);have h2:=qo3 (a.y-b.y);have h3:=qo3 (a.z-b.z);unfold d2 at h;have e1:=qt6 (a:=a.x-b.x) (by grind);have e2:=qt6 (a:=a.y-b.y) (by grind);have e3:=qt6 (a:=a.z-b.z) (by grind);cases a;cases b;simp only[V3.mk.injEq];refine⟨?_,?_,?_⟩<;>simp only at e1 e2 e3<;>grind
def cen(n:Nat)(w:Nat->Rat)(p:Nat->V3):V3:=⟨su n fun i=>w i*(p i).x,su n fun i=>w i*(p i).y,su n fun i=>w i*(p i).z⟩
theorem qx8 (n:Nat)(w:Nat->Rat)(p:Nat->V3)(c:V3):su n (fun i=>w i*qaA c (p i))=qaA c (cen n w p):=by unfold qaA cen;simp only;rw[<-wF,<-wF,<-wF,<-q5E,<-q5E];exact qo fun i _=>by grind
theorem qFA (n:Nat)(w:Nat->Rat)(p:Nat->V3)(c:V3):su n (fun i=>w i*d2 c (p i))=qaA c c*su n w-2*qaA c (cen n w p)+su n (fun i=>w i*qaA (p i) (p i)):=by rw[<-qx8,<-wF,<-wF,<-q7V,<-q5E];exact qo fun i _=>by rw[qud];grind
def en(n:Nat)(p:Nat->V3)(w:Nat->Rat):Rat:=su n fun i=>w i*d2 (cen n w p) (p i)
theorem qqW {w:Nat->Rat}(p:Nat->V3)(h:su n w=1)(c:V3):su n (fun i=>w i*d2 c (p i))=en n p w+d2 c (cen n w p):=by unfold en;rw[qFA,qFA,h,qud];grind
structure Wt (n:Nat) (w:Nat->Rat):Prop where
 nn:∀i,i<n->0<=w i
 one:su n w=1
def qwm(n:Nat)(p:Nat->V3)(w:Nat->Rat)(s:Rat):Prop:=Wt n w/\∀i,i<n->w i≠0->d2 (cen n w p) (p i)=s
theorem qhj {w f:Nat->Rat}{s:Rat}(h1:su n w=1)(h:∀i,i<n->w i≠0->f i=s):su n (fun i=>w i*f i)=s:=by
 rw[qo (g:=fun i=>s*w i) (fun i hi=>by
  by_cases hw:w i=0
  ·rw[hw];grind
  ·rw[h i hi hw];grind),wF,h1];grind
theorem qwm.en {p:Nat->V3}{w:Nat->Rat}{s:Rat}(h:qwm n p w s):en n p w=s:=qhj h.1.one h.2
def cnt:Nat->(Nat->Rat)->Nat
 | 0,_=>0
 | n+1,w=>cnt n w+if w n=0 then 0 else 1
theorem qEF:∀{n:Nat} {w v:Nat->Rat},(∀i,i<n->w i=0->v i=0)->cnt n v<=cnt n w
 | 0,_,_,_=>qJe _
 | n+1,w,v,h=>by
  have a:=qEF (n:=n) (w:=w) (v:=v) fun i hi=>h i (by omega);have b:=h n (by omega);simp only[cnt];by_cases hw:w n=0
  ·rw[if_pos hw,if_pos (b hw)];omega
  ·rw[if_neg hw];split<;>omega
theorem qxQ:∀{n:Nat} {w v:Nat->Rat} {k:Nat},(∀i,i<n->w i=0->v i=0)->k<n->w k≠0->v k=0->cnt n v<cnt n w
 | 0,_,_,_,_,hk,_,_=>by omega
 | n+1,w,v,k,h,hk,hw,hv=>by
  simp only[cnt];by_cases e:k=n
  ·subst e;have a:=qEF (n:=k) (w:=w) (v:=v) fun i hi=>h i (by omega);rw[if_neg hw,if_pos hv];omega
  ·have a:=qxQ (n:=n) (w:=w) (v:=v) (k:=k) (fun i hi=>h i (by omega)) (by omega) hw hv;have b:=h n (by omega);by_cases hwn:w n=0
   ·rw[if_pos hwn,if_pos (b hwn)];omega
   ·rw[if_neg hwn];split<;>omega
theorem quM:∀(n:Nat) (w v:Nat->Rat),(∀i,i<n->v i<0->0<w i)->(∃k,k<n/\v k<0)->∃t,0<t/\∃k,k<n/\v k<0/\w k+t*v k=0/\∀i,i<n->v i<0->0<=w i+t*v i
 | 0,_,_,_,⟨k,hk,_⟩=>by omega
 | n+1,w,v,h,⟨k,hk,hv⟩=>by
  have own:v n<0->0<w n*(-(v n))⁻¹/\w n+(w n*(-(v n))⁻¹)*v n=0:=fun hn=>by
   have h1:0 < -(v n):=by grind
   have h2:-(v n)*(-(v n))⁻¹=1:=qLk _ (by grind);exact⟨qJF (h n (by omega) hn) (Rat.inv_pos.2 h1),by grind⟩
  by_cases hex:∃k,k<n/\v k<0
  ·obtain⟨t,t0,k,hk,hv,hz,hall⟩:=quM n w v (fun i hi=>h i (by omega)) hex;by_cases hn:v n<0/\w n+t*v n<0
   ·obtain⟨o1,o2⟩:=own hn.1;refine⟨w n*(-(v n))⁻¹,o1,n,by omega,hn.1,o2,fun i hi hvi=>?_⟩;by_cases e:i=n
    ·subst e;rw[o2];exact qKv
    ·have a:=hall i (by omega) hvi;have lt:w n*(-(v n))⁻¹<t:=by apply qJZ;intro hh;have:=qJr (show 0<=w n*(-(v n))⁻¹-t by grind) (show 0<=-(v n) by grind);grind
     have:=qJr (show 0<=t-w n*(-(v n))⁻¹ by grind) (show 0<=-(v i) by grind);grind
   ·refine⟨t,t0,k,by omega,hv,hz,fun i hi hvi=>?_⟩;by_cases e:i=n
    ·subst e;apply qJZ;intro hh;exact hn ⟨hvi,by grind⟩
    ·exact hall i (by omega) hvi
  ·have e:k=n:=by apply qJZ;intro hh;exact hex ⟨k,by omega,hv⟩
   subst e;obtain⟨o1,o2⟩:=own hv;refine⟨_,o1,k,by omega,hv,o2,fun i hi hvi=>?_⟩;have:i=k:=by apply qJZ;intro hh;exact hex ⟨i,by omega,hvi⟩
   subst this;rw[o2];exact qKv
theorem qAx {w v:Nat->Rat}(hw:Wt n w)(h0:su n v=0)(hz:∀i,i<n->w i=0->v i=0)(hk:∃k,k<n/\v k<0) :∃t,0<t/\Wt n (fun i=>w i+t*v i)/\cnt n (fun i=>w i+t*v i)<cnt n w/\∀i,i<n->w i=0->w i+t*v i=0:=by
 obtain⟨t,t0,k,hk,hv,he,hall⟩:=quM n w v (fun i hi hv=>by
  have a:=hw.nn i hi;have b:w i≠0:=fun e=>by rw[hz i hi e] at hv;exact absurd hv (by grind)
  grind) hk
 have zz:∀i,i<n->w i=0->w i+t*v i=0:=fun i hi e=>by rw[e,hz i hi e];grind
 refine⟨t,t0,⟨fun i hi=>?_,?_⟩,qxQ zz hk (fun e=>?_) he,zz⟩
 ·by_cases hvi:v i<0
  ·exact hall i hi hvi
  ·have:=qJr (show 0<=t by grind) (show 0<=v i by grind);have:=hw.nn i hi;grind
 ·rw[q5E,wF,h0,hw.one];grind
 ·rw[hz k hk e] at hv;exact absurd hv (by grind)
theorem qlu:∀{n:Nat} {f:Nat->Rat},(∀i,i<n->0<=f i)->su n f=0->∀i,i<n->f i=0
 | 0,_,_,_,i,hi=>by omega
 | n+1,f,h,hs,i,hi=>by
  have a:=qDu (n:=n) (f:=f) (fun i hi=>h i (by omega));have b:=h n (by omega);simp only[su] at hs;by_cases e:i=n
  ·subst e;grind
  ·exact qlu (n:=n) (f:=f) (fun i hi=>h i (by omega)) (by grind) i (by omega)
theorem qnu (n:Nat)(w v:Nat->Rat)(t:Rat)(p:Nat->V3):cen n (fun i=>w i+t*v i) p=⟨(cen n w p).x+t*(cen n v p).x,(cen n w p).y+t*(cen n v p).y,(cen n w p).z+t*(cen n v p).z⟩:=by unfold cen;simp only[V3.mk.injEq];refine⟨?_,?_,?_⟩<;>rw[<-wF,<-q5E]<;>exact qo fun i _=>by grind
end Go.Eng

namespace Go.Eng
variable {n:Nat}{p:Nat->V3}
theorem qFN {v:Nat->Rat}{S:Nat->Prop}(hv:∀i,i<n->¬S i->v i=0){r:Rat}(h0:su n v=0)(h:∀j,j<n->S j->2*qaA (cen n v p) (p j)+r=0):cen n v p=⟨0,0,0⟩:=by
 have e:su n (fun j=>v j*(2*qaA (cen n v p) (p j)+r))=0:=by
  rw[qo (g:=fun _=>0) (fun j hj=>by
   by_cases hs:S j
   ·rw[h j hj hs];grind
   ·rw[hv j hj hs];grind),q6X]
 have e2:su n (fun j=>v j*(2*qaA (cen n v p) (p j)+r))=2*qaA (cen n v p) (cen n v p)+r*su n v:=by rw[<-qx8,<-wF,<-wF,<-q5E];exact qo fun i _=>by grind
 rw[e2,h0] at e;have:d2 (cen n v p) ⟨0,0,0⟩<=0:=by rw[qud];unfold qaA at *;simp only at *;grind
 exact qvd this
theorem qAw (n:Nat)(p:Nat->V3)(w:Nat->Rat)(h1:su n w=1) :(∃x s,su n x=1/\(∀i,i<n->w i=0->x i=0)/\∀i,i<n->w i≠0->d2 (cen n x p) (p i)=s) \/∃v,(∀i,i<n->w i=0->v i=0)/\su n v=0/\cen n v p=⟨0,0,0⟩/\0<su n (fun i=>v i*qaA (p i) (p i)):=by
 rcases qs5 (n+1) (n+1) (fun i j=>if i=n then (if j=n then 0 else 1) else if w i=0 then (if j=i then 1 else 0) else if j=n then 1 else 2*qaA (p i) (p j))
  (fun i=>if i=n then 1 else if w i=0 then 0 else qaA (p i) (p i)) with⟨x,hx⟩|⟨y,h2,h3⟩
 ·left;have xz:∀i,i<n->w i=0->x i=0:=fun i hi hw=>by have:=hx i (by omega);simp only[show ¬i=n by omega,if_false,hw,if_true] at this;rw[q7R (k:=i) _ (by omega) (fun j _ hne=>by rw[if_neg hne];grind)] at this;simpa using this
  have x1:su n x=1:=by have:=hx n (by omega);simp only[if_true,su] at this;rw[qo (g:=x) (fun j hj=>by rw[if_neg (by omega)];grind)] at this;grind
  refine⟨x,qaA (cen n x p) (cen n x p)+x n,x1,xz,fun i hi hw=>?_⟩;have:=hx i (by omega);simp only[show ¬i=n by omega,if_false,hw,su,if_true] at this;rw[qo (g:=fun j=>2*(x j*qaA (p i) (p j))) (fun j hj=>by rw[if_neg (by omega)];grind),wF,qx8] at this;rw[qud];have sym:qaA (cen n x p) (p i)=qaA (p i) (cen n x p):=by unfold qaA;grind
  rw[sym];grind
 ·right;obtain⟨m,hm⟩:∃m:Nat->Rat,m=fun i=>if w i=0 then 0 else y i:=⟨_,rfl⟩
  have mz:∀i,i<n->w i=0->m i=0:=fun i _ hw=>by rw[hm];simp[hw]
  have m0:su n m=0:=by
   have:=h2 n (by omega);simp only[su,if_true] at this;rw[qo (g:=m) (fun i hi=>by
    rw[hm];by_cases hw:w i=0
    ·simp only[show ¬i=n by omega,show ¬n=i by omega,if_false,hw,if_true];grind
    ·simp only[show ¬i=n by omega,if_false,hw];grind)] at this
   grind
  have md:∀j,j<n->w j≠0->2*qaA (cen n m p) (p j)+y n=0:=fun j hj hw=>by
   have:=h2 j (by omega);simp only[su,if_true,show ¬j=n by omega,if_false] at this;rw[qo (g:=fun i=>2*(m i*qaA (p j) (p i))) (fun i hi=>by
    rw[hm];by_cases hw':w i=0
    ·have hne:¬j=i:=fun e=>hw (e▸hw');simp only[show ¬i=n by omega,if_false,hw',if_true,hne];grind
    ·simp only[show ¬i=n by omega,if_false,hw'];unfold qaA;grind),wF,qx8] at this
   have sym:qaA (cen n m p) (p j)=qaA (p j) (cen n m p):=by unfold qaA;grind
   rw[sym];grind
  have mc:cen n m p=⟨0,0,0⟩:=qFN (S:=fun i=>w i≠0) (r:=y n) (fun i hi hs=>mz i hi (Classical.not_not.1 hs)) m0 md;have yn:y n=0:=by obtain⟨j,hj,hw⟩:=qrb (n:=n) (f:=w) (by rw[h1];decide);have:=md j hj hw;rw[mc] at this;unfold qaA at this;grind
  have mk:su n (fun i=>m i*qaA (p i) (p i))≠0:=by
   intro e;apply h3;simp only[su,if_true,yn];rw[qo (g:=fun i=>m i*qaA (p i) (p i)) (fun i hi=>by
    rw[hm];by_cases hw:w i=0
    ·simp only[show ¬i=n by omega,if_false,hw,if_true];grind
    ·simp only[show ¬i=n by omega,if_false,hw]),e]
   grind
  by_cases pos:0<su n (fun i=>m i*qaA (p i) (p i))
  ·exact⟨m,mz,m0,mc,pos⟩
  ·refine⟨fun i=>(-1)*m i,fun i hi hw=>by show (-1)*m i=0;rw[mz i hi hw];grind,by rw[wF,m0];grind,?_,?_⟩
   ·have:cen n (fun i=>(-1)*m i) p=⟨(-1)*(cen n m p).x,(-1)*(cen n m p).y,(-1)*(cen n m p).z⟩:=by unfold cen;simp only[V3.mk.injEq];refine⟨?_,?_,?_⟩<;>rw[<-wF]<;>exact qo fun i _=>by grind
    rw[this,mc];simp only[V3.mk.injEq];refine⟨?_,?_,?_⟩<;>grind
   ·rw[qo (g:=fun i=>(-1)*(m i*qaA (p i) (p i))) (fun i _=>by grind),wF];grind
theorem qGK (n:Nat)(w:Nat->Rat)(p:Nat->V3)(h:su n w=1):en n p w=su n (fun i=>w i*qaA (p i) (p i))-qaA (cen n w p) (cen n w p):=by unfold en;rw[qFA,h];grind
theorem qEN (n:Nat)(p:Nat->V3):∀(c:Nat) (w:Nat->Rat),Wt n w->cnt n w<=c->∃w' s,qwm n p w' s/\en n p w<=s/\∀i,i<n->w i=0->w' i=0:=by
 intro c;induction c with
 | zero=>
  intro w hw hc;obtain⟨j,hj,hne⟩:=qrb (n:=n) (f:=w) (by rw[hw.one];decide);have:=qxQ (n:=n) (w:=w) (v:=fun _=>0) (k:=j) (fun _ _ _=>rfl) hj hne rfl;omega
 | succ c ih=>
  intro w hw hc;have again:∀v:Nat->Rat,su n v=0->(∀i,i<n->w i=0->v i=0)->(∃k,k<n/\v k<0)->(∀t:Rat,0<t->Wt n (fun i=>w i+t*v i)->en n p w<=en n p (fun i=>w i+t*v i)) ->
    ∃w' s,qwm n p w' s/\en n p w<=s/\∀i,i<n->w i=0->w' i=0:=by
   intro v v0 vz hk he;obtain⟨t,t0,a1,a2,a3⟩:=qAx hw v0 vz hk;obtain⟨w',s,g1,g2,g3⟩:=ih _ a1 (by omega);exact⟨w',s,g1,Rat.le_trans (he t t0 a1) g2,fun i hi hz=>g3 i hi (a3 i hi hz)⟩
  rcases qAw n p w hw.one with⟨x,s,x1,xz,xs⟩|⟨v,vz,v0,vc,vp⟩
  ·have sw:su n (fun i=>w i*d2 (cen n x p) (p i))=s:=qhj hw.one xs;have e1:=qqW p hw.one (cen n x p);rw[sw] at e1;have dn:=qui (cen n x p) (cen n w p);by_cases hx:∀i,i<n->0<=x i
   ·refine⟨x,s,⟨⟨hx,x1⟩,fun i hi hne=>xs i hi fun e=>hne (xz i hi e)⟩,by grind,xz⟩
   ·obtain⟨k,hk⟩:=qLx.1 hx;obtain⟨hk,hneg⟩:=qL8.1 hk;refine again (fun i=>x i-w i) (by rw[q7V,x1,hw.one];grind) (fun i hi e=>by rw[xz i hi e,e];grind) ⟨k,hk,by have:=hw.nn k hk;grind⟩ fun t t0 ht=>?_;have t1:t<=1:=by have a:=ht.nn k hk;have b:=hw.nn k hk;apply qJZ;intro hh;have c1:=qJr (show 0<=t-1 by grind) b;have c2:=qJF t0 (show 0 < -(x k) by grind);grind
    have sw':su n (fun i=>(w i+t*(x i-w i))*d2 (cen n x p) (p i))=s:=qhj (w:=fun i=>w i+t*(x i-w i)) ht.one fun i hi hne=>xs i hi fun e=>hne (by rw[e,xz i hi e];grind);have e2:=qqW p ht.one (cen n x p);rw[sw'] at e2;have cm:=qnu n w (fun i=>x i-w i) t p;have cx:cen n (fun i=>x i-w i) p=⟨(cen n x p).x-(cen n w p).x,(cen n x p).y-(cen n w p).y,(cen n x p).z-(cen n w p).z⟩:=by unfold cen;simp only[V3.mk.injEq];refine⟨?_,?_,?_⟩<;>rw[<-q7V]<;>exact qo fun i _=>by grind
    have dd:d2 (cen n x p) (cen n (fun i=>w i+t*(x i-w i)) p)=(1-t)*(1-t)*d2 (cen n x p) (cen n w p):=by rw[cm,cx];unfold d2;grind
    rw[dd] at e2;have f1:=qJr (show 0<=t by grind) (show 0<=2-t by grind);have f2:=qJr f1 dn;grind
  ·refine again v v0 vz ?_ fun t t0 ht=>?_
   ·apply qJZ;intro hh;have all:∀i,i<n->0<=v i:=fun i hi=>by apply qJZ;intro h';exact hh ⟨i,hi,by grind⟩
    have z:=qlu all v0;rw[qo (g:=fun _=>0) (fun i hi=>by rw[z i hi];grind),q6X] at vp;exact absurd vp (by decide)
   ·rw[qGK n w p hw.one,qGK n _ p ht.one,qnu,vc];have:su n (fun i=>(w i+t*v i)*qaA (p i) (p i))=su n (fun i=>w i*qaA (p i) (p i))+t*su n (fun i=>v i*qaA (p i) (p i)):=by rw[<-wF,<-q5E];exact qo fun i _=>by grind
    rw[this];have f:=qJF t0 vp;unfold qaA at *;simp only;grind
structure Least (n:Nat) (p:Nat->V3) (w:Nat->Rat) (s:Rat):Prop where
 good:qwm n p w s
 all:∀i,i<n->d2 (cen n w p) (p i)<=s
theorem qzC {w v:Nat->Rat}{s t:Rat}(hw:qwm n p w s)(hv:qwm n p v t)(h:∀i,i<n->(w i=0↔v i=0)):s=t:=by have a:su n (fun i=>w i*d2 (cen n v p) (p i))=t:=qhj hw.1.one fun i hi hne=>hv.2 i hi fun e=>hne ((h i hi).2 e);have b:su n (fun i=>v i*d2 (cen n w p) (p i))=s:=qhj hv.1.one fun i hi hne=>hw.2 i hi fun e=>hne ((h i hi).1 e);rw[qqW p hw.1.one,hw.en] at a;rw[qqW p hv.1.one,hv.en] at b;have:=qui (cen n v p) (cen n w p);have:=qui (cen n w p) (cen n v p);grind
theorem qsp {w:Nat->Rat}{s:Rat}(hw:Least n p w s){c:V3}{r:Rat}(h:∀i,i<n->d2 c (p i)<=r):s+d2 c (cen n w p)<=r:=by
 have a:=qqW p hw.good.1.one c;rw[hw.good.en] at a;have b:0<=su n (fun i=>w i*(r-d2 c (p i))):=qDu fun i hi=>qJr (hw.good.1.nn i hi) (by have:=h i hi;grind);have e:su n (fun i=>w i*(r-d2 c (p i)))=r-su n (fun i=>w i*d2 c (p i)):=by rw[qo (g:=fun i=>r*w i-w i*d2 c (p i)) (fun i _=>by grind),q7V,wF,hw.good.1.one];grind
 grind
theorem qyk {w v:Nat->Rat}{s t:Rat}(hw:Least n p w s)(hv:Least n p v t):s=t/\cen n w p=cen n v p:=by have a:=qsp hw (c:=cen n v p) (r:=t) hv.all;have b:=qsp hv (c:=cen n w p) (r:=s) hw.all;have d1:=qui (cen n v p) (cen n w p);have d3:=qui (cen n w p) (cen n v p);exact⟨by grind,qvd (by grind)⟩
end Go.Eng

namespace Go.Eng
def qIN:Nat->List (Nat->Bool)
 | 0=>[fun _=>false]
 | n+1=>(qIN n).flatMap fun f=>[fun i=>if i=n then true else f i,fun i=>if i=n then false else f i]
theorem qsf:∀(n:Nat) (w:Nat->Rat),∃b∈qIN n,∀i,i<n->(b i=true↔w i≠0)
 | 0,_=>⟨_,qJJ.2 rfl,fun i hi=>by omega⟩
 | n+1,w=>by
  obtain⟨b,hb,h⟩:=qsf n w;by_cases hw:w n=0
  ·refine⟨fun i=>if i=n then false else b i,qLj.2 ⟨b,hb,by simp⟩,fun i hi=>?_⟩;by_cases e:i=n
   ·subst e;simp[hw]
   ·simp only[e,if_false];exact h i (by omega)
  ·refine⟨fun i=>if i=n then true else b i,qLj.2 ⟨b,hb,by simp⟩,fun i hi=>?_⟩;by_cases e:i=n
   ·subst e;simp[hw]
   ·simp only[e,if_false];exact h i (by omega)
theorem qsk(n:Nat)(p:Nat->V3):∀L:List (Nat->Bool),(∃w s,qwm n p w s/\∃b∈L,∀i,i<n->(b i=true↔w i≠0)) ->
  ∃w s,qwm n p w s/\∀w' s',qwm n p w' s'->(∃b∈L,∀i,i<n->(b i=true↔w' i≠0))->s'<=s
 | [],⟨_,_,_,b,hb,_⟩=>by cases hb
 | b::L,⟨w0,s0,g0,b0,hb0,h0⟩=>by
  have same:∀w s w' s',qwm n p w s->qwm n p w' s'->(∀i,i<n->(b i=true↔w i≠0))->(∀i,i<n->(b i=true↔w' i≠0))->s=s':=fun w s w' s' g g' h h'=>qzC g g' fun i hi=>by
   have a:=h i hi;have c:=h' i hi;by_cases e:b i=true
   ·exact⟨fun z=>absurd z (a.1 e),fun z=>absurd z (c.1 e)⟩
   ·exact⟨fun _=>Classical.not_not.1 fun z=>e (c.2 z),fun _=>Classical.not_not.1 fun z=>e (a.2 z)⟩
  by_cases hB:∃w s,qwm n p w s/\∀i,i<n->(b i=true↔w i≠0)
  ·obtain⟨w1,s1,g1,h1⟩:=hB;by_cases hL:∃w s,qwm n p w s/\∃b∈L,∀i,i<n->(b i=true↔w i≠0)
   ·obtain⟨w2,s2,g2,h2⟩:=qsk n p L hL;rcases Rat.le_total (a:=s1) (b:=s2) with hle|hle
    ·refine⟨w2,s2,g2,fun w' s' g' ⟨c,hc,hp⟩=>?_⟩;rcases qJi.1 hc with rfl|hc
     ·rw[<-same w1 s1 w' s' g1 g' h1 hp];exact hle
     ·exact h2 w' s' g' ⟨c,hc,hp⟩
    ·refine⟨w1,s1,g1,fun w' s' g' ⟨c,hc,hp⟩=>?_⟩;rcases qJi.1 hc with rfl|hc
     ·rw[<-same w1 s1 w' s' g1 g' h1 hp];exact qKv
     ·exact Rat.le_trans (h2 w' s' g' ⟨c,hc,hp⟩) hle
   ·refine⟨w1,s1,g1,fun w' s' g' ⟨c,hc,hp⟩=>?_⟩;rcases qJi.1 hc with rfl|hc
    ·rw[<-same w1 s1 w' s' g1 g' h1 hp];exact qKv
    ·exact absurd ⟨w',s',g',c,hc,hp⟩ hL
  ·have hL:∃w s,qwm n p w s/\∃b∈L,∀i,i<n->(b i=true↔w i≠0):=by
    rcases qJi.1 hb0 with rfl|hb0
    ·exact absurd ⟨w0,s0,g0,h0⟩ hB
    ·exact⟨w0,s0,g0,b0,hb0,h0⟩
   obtain⟨w2,s2,g2,h2⟩:=qsk n p L hL;refine⟨w2,s2,g2,fun w' s' g' ⟨c,hc,hp⟩=>?_⟩;rcases qJi.1 hc with rfl|hc
   ·exact absurd ⟨w',s',g',hp⟩ hB
   ·exact h2 w' s' g' ⟨c,hc,hp⟩
theorem qDg{n k:Nat}(p:Nat->V3)(hk:k<n):cen n (fun i=>if i=k then 1 else 0) p=p k:=by unfold cen;rw[q7R (k:=k) _ hk (fun i _ h=>by simp[h]),q7R (k:=k) _ hk (fun i _ h=>by simp[h]),q7R (k:=k) _ hk (fun i _ h=>by simp[h])];simp only[if_true];rcases hp:p k with⟨x,y,z⟩;simp only[V3.mk.injEq];refine⟨?_,?_,?_⟩<;>grind
theorem qAa{n:Nat}(p:Nat->V3)(hn:0<n):∃w s,Least n p w s:=by
 have unit:∀k,k<n->su n (fun i=>if i=k then (1:Rat) else 0)=1:=fun k hk=>by rw[q7R (k:=k) _ hk (fun i _ h=>by rw[if_neg h])];simp
 have w0:Wt n (fun i=>if i=0 then (1:Rat) else 0):=⟨fun i _=>by
  show (0:Rat)<=if i=0 then 1 else 0
  split<;>decide,unit 0 hn⟩
 obtain⟨w1,s1,g1,_⟩:=qEN n p _ _ w0 (qJe _);obtain⟨b,hb,h⟩:=qsf n w1;obtain⟨w,s,g,hmax⟩:=qsk n p (qIN n) ⟨w1,s1,g1,b,hb,h⟩;refine⟨w,s,g,fun k hk=>?_⟩;apply qJZ;intro hh;have hD:s<d2 (cen n w p) (p k):=by grind
 obtain⟨D,eD⟩:∃D,D=d2 (cen n w p) (p k):=⟨_,rfl⟩;rw[<-eD] at hD;have s0:0<=s:=by obtain⟨j,hj,hne⟩:=qrb (n:=n) (f:=w) (by rw[g.1.one];decide);rw[<-g.2 j hj hne];exact qui _ _
 have Dp:0<D:=by grind
 have inv:(2*D)*(2*D)⁻¹=1:=qLk _ (by grind);have ip:0<(2*D)⁻¹:=Rat.inv_pos.2 (by grind);obtain⟨t,et⟩:∃t,t=(D-s)*(2*D)⁻¹:=⟨_,rfl⟩;have t0:0<t:=by rw[et];exact qJF (by grind) ip
 have tD:t*D*2=D-s:=by rw[et];grind
 have t1:t<=1:=by apply qJZ;intro h1;have:=qJF (show 0<t-1 by grind) Dp;grind
 have W:Wt n (fun i=>w i+t*((if i=k then 1 else 0)-w i)):=by
  refine⟨fun i hi=>?_,?_⟩
  ·have a:=qJr (show 0<=1-t by grind) (g.1.nn i hi);by_cases e:i=k
   ·simp only[e,if_true];rw[e] at a;grind
   ·simp only[e,if_false];grind
  ·rw[q5E,wF,q7V,unit k hk,g.1.one];grind
 have e1:=qqW p W.one (cen n w p);have lhs:su n (fun i=>(w i+t*((if i=k then 1 else 0)-w i))*d2 (cen n w p) (p i))=s+t*(D-s):=by
  have a:=qhj (f:=fun i=>d2 (cen n w p) (p i)) g.1.one g.2;have c:su n (fun i=>(if i=k then 1 else 0)*d2 (cen n w p) (p i))=D:=by rw[q7R (k:=k) _ hk (fun i _ h=>by rw[if_neg h];grind),eD];simp
  rw[qo (g:=fun i=>w i*d2 (cen n w p) (p i)+t*((if i=k then 1 else 0)*d2 (cen n w p) (p i)-w i*d2 (cen n w p) (p i))) (fun i _=>by grind),q5E,wF,q7V,a,c]
 have cm:=qnu n w (fun i=>(if i=k then 1 else 0)-w i) t p;have cx:cen n (fun i=>(if i=k then 1 else 0)-w i) p=⟨(p k).x-(cen n w p).x,(p k).y-(cen n w p).y,(p k).z-(cen n w p).z⟩:=by have u:=qDg p hk;have ux:=congrArg V3.x u;have uy:=congrArg V3.y u;have uz:=congrArg V3.z u;rw[<-ux,<-uy,<-uz];unfold cen;simp only[V3.mk.injEq];refine⟨?_,?_,?_⟩<;>rw[<-q7V]<;>exact qo fun i _=>by grind
 have dd:d2 (cen n w p) (cen n (fun i=>w i+t*((if i=k then 1 else 0)-w i)) p)=t*t*D:=by rw[cm,cx,eD];unfold d2;grind
 rw[lhs,dd] at e1;obtain⟨w',s',g',h',_⟩:=qEN n p _ _ W (qJe _);obtain⟨b',hb',hp'⟩:=qsf n w';have:=hmax w' s' g' ⟨b',hb',hp'⟩;have gain:=qJF t0 (show 0<D-s by grind);have:t*t*D*2=t*(D-s):=by rw[<-tD];grind
 grind
def qGc(n:Nat)(p:Nat->V3)(w:Nat->Rat):Prop:=∀v:Nat->Rat,(∀i,i<n->w i=0->v i=0)->su n v=0->cen n v p=⟨0,0,0⟩->∀i,i<n->v i=0
theorem qwO{n:Nat}{p:Nat->V3}:∀(c:Nat) {w:Nat->Rat} {s:Rat},Least n p w s->cnt n w<=c->∃w',Least n p w' s/\qGc n p w':=by
 intro c;induction c with
 | zero=>
  intro w s hw hc;obtain⟨j,hj,hne⟩:=qrb (n:=n) (f:=w) (by rw[hw.good.1.one];decide);have:=qxQ (n:=n) (w:=w) (v:=fun _=>0) (k:=j) (fun _ _ _=>rfl) hj hne rfl;omega
 | succ c ih=>
  intro w s hw hc;by_cases hi:qGc n p w
  ·exact⟨w,hw,hi⟩
  ·unfold qGc at hi;obtain⟨v,hv⟩:=qLx.1 hi;obtain⟨vz,hv⟩:=qL8.1 hv;obtain⟨v0,hv⟩:=qL8.1 hv;obtain⟨vc,hv⟩:=qL8.1 hv;have neg:∃k,k<n/\v k<0:=by apply qJZ;intro hh;exact hv (qlu (fun i hi=>by apply qJZ;intro h';exact hh ⟨i,hi,by grind⟩) v0)
   obtain⟨t,t0,a1,a2,a3⟩:=qAx hw.good.1 v0 vz neg;have cs:cen n (fun i=>w i+t*v i) p=cen n w p:=by rw[qnu,vc];rcases hcw:cen n w p with⟨x,y,z⟩;simp only[V3.mk.injEq];refine⟨?_,?_,?_⟩<;>grind
   refine ih (w:=fun i=>w i+t*v i) (s:=s) ⟨⟨a1,fun i hi hne=>?_⟩,fun i hi=>?_⟩ (by omega)
   ·rw[cs];exact hw.good.2 i hi fun e=>hne (a3 i hi e)
   ·rw[cs];exact hw.all i hi
variable {p:Nat->V3}
theorem kernel:∀(m n:Nat) (M:Nat->Nat->Rat),m<n->∃x:Nat->Rat,(∃j,j<n/\x j≠0)/\∀i,i<m->su n (fun j=>M i j*x j)=0
 | 0,n,_,h=>⟨fun _=>1,⟨0,h,by decide⟩,fun i hi=>by omega⟩
 | m+1,0,_,h=>by omega
 | m+1,n+1,M,h=>by
  by_cases hz:∀i,i<m+1->M i n=0
  ·refine⟨fun j=>if j=n then 1 else 0,⟨n,by omega,by simp⟩,fun i hi=>?_⟩;rw[q7R (k:=n) _ (by omega) (fun j _ hne=>by simp[hne])];simp[hz i hi]
  ·obtain⟨k,hk⟩:=qLx.1 hz;obtain⟨hk,ha⟩:=qL8.1 hk;have inv:M k n*(M k n)⁻¹=1:=qLk _ ha;obtain⟨x,⟨j,hj,hx⟩,he⟩:=kernel m n (fun i j=>M (if i=k then m else i) j-M (if i=k then m else i) n*(M k n)⁻¹*M k j) (by omega);refine⟨fun j=>if j=n then -((M k n)⁻¹*su n (fun j=>M k j*x j)) else x j,⟨j,by omega,by simpa[show j≠n by omega] using hx⟩,fun i hi=>?_⟩;simp only[su,if_true];rw[qo (g:=fun j=>M i j*x j) (fun j hj=>by rw[if_neg (by omega)])];by_cases hik:i=k
   ·subst hik;grind
   ·have e:∃i',i'<m/\(if i'=k then m else i')=i:=by
     by_cases him:i=m
     ·exact⟨k,by omega,by simp[him]⟩
     ·exact⟨i,by omega,by simp[hik]⟩
    obtain⟨i',hi',e⟩:=e;have q:=he i' hi';simp only[e] at q;rw[qo (g:=fun j=>M i j*x j-M i n*(M k n)⁻¹*(M k j*x j)) (fun j _=>by grind),q7V,wF] at q;grind
theorem qsy {n q:Nat}{L:Nat->Nat}(hL:∀j,j<q->L j<n)(u f:Nat->Rat):su n (fun i=>su q (fun j=>if L j=i then u j else 0)*f i)=su q (fun j=>u j*f (L j)):=by rw[qo (g:=fun i=>su q (fun j=>(if L j=i then u j else 0)*f i)) (fun i _=>by rw[show su q (fun j=>if L j=i then u j else 0)*f i=f i*su q (fun j=>if L j=i then u j else 0) from by grind,<-wF];exact qo fun j _=>by grind),qwn];refine qo fun j hj=>?_;rw[q7R (k:=L j) _ (hL j hj) (fun i _ hne=>by simp[show ¬L j=i from fun e=>hne e.symm])];simp
theorem qt2 {n q:Nat}{L:Nat->Nat}(hL:∀j,j<q->L j<n)(u:Nat->Rat):su n (fun i=>su q (fun j=>if L j=i then u j else 0))=su q u:=by have:=qsy hL u (fun _=>1);rw[qo (g:=fun i=>su q (fun j=>if L j=i then u j else 0)) (fun i _=>by grind)] at this;rw[this];exact qo fun j _=>by grind
theorem qHP {q:Nat}{L:Nat->Nat}(inj:∀j k,j<q->k<q->L j=L k->j=k)(u:Nat->Rat){k:Nat}(hk:k<q):su q (fun j=>if L j=L k then u j else 0)=u k:=by rw[q7R (k:=k) _ hk (fun j hj hne=>by rw[if_neg fun e=>hne (inj j k hj hk e)])];simp
theorem qnv {n q:Nat}{L:Nat->Nat}(hL:∀j,j<q->L j<n)(u:Nat->Rat)(p:Nat->V3):cen n (fun i=>su q (fun j=>if L j=i then u j else 0)) p=cen q u (fun j=>p (L j)):=by unfold cen;rw[qsy hL,qsy hL,qsy hL]
def qIq(q:Nat)(p:Nat->V3)(L:Nat->Nat):Prop:=∀u:Nat->Rat,su q u=0->cen q u (fun j=>p (L j))=⟨0,0,0⟩->∀j,j<q->u j=0
theorem qD9 {q:Nat}{L:Nat->Nat}(h:qIq q p L):q<=4:=by
 apply qJZ;intro hq;obtain⟨u,⟨j,hj,hne⟩,he⟩:=kernel 4 q (fun i j=>if i=0 then 1 else if i=1 then (p (L j)).x else if i=2 then (p (L j)).y else (p (L j)).z) (by omega);refine hne (h u ?_ ?_ j hj)
 ·have:=he 0 (by omega);simp only[if_true] at this;rw[<-this];exact qo fun i _=>by grind
 ·have e1:=he 1 (by omega);have e2:=he 2 (by omega);have e3:=he 3 (by omega);simp only[show ¬(1=0) by omega,show ¬(2=0) by omega,show ¬(3=0) by omega,show ¬(2=1) by omega,show ¬(3=1) by omega,show ¬(3=2) by omega,if_true,if_false] at e1 e2 e3;unfold cen;simp only[V3.mk.injEq];refine⟨?_,?_,?_⟩
  ·rw[<-e1];exact qo fun i _=>by grind
  ·rw[<-e2];exact qo fun i _=>by grind
  ·rw[<-e3];exact qo fun i _=>by grind
theorem qzA {q:Nat}{L:Nat->Nat}(h:qIq q p L)(hz:∀j,j<q->(p (L j)).z=0):q<=3:=by
 apply qJZ;intro hq;obtain⟨u,⟨j,hj,hne⟩,he⟩:=kernel 3 q (fun i j=>if i=0 then 1 else if i=1 then (p (L j)).x else (p (L j)).y) (by omega);refine hne (h u ?_ ?_ j hj)
 ·have:=he 0 (by omega);simp only[if_true] at this;rw[<-this];exact qo fun i _=>by grind
 ·have e1:=he 1 (by omega);have e2:=he 2 (by omega);simp only[show ¬(1=0) by omega,show ¬(2=0) by omega,show ¬(2=1) by omega,if_true,if_false] at e1 e2;unfold cen;simp only[V3.mk.injEq];refine⟨?_,?_,?_⟩
  ·rw[<-e1];exact qo fun i _=>by grind
  ·rw[<-e2];exact qo fun i _=>by grind
  ·rw[qo (g:=fun _=>0) (fun i hi=>by rw[hz i hi];grind),q6X]
def Asc(q:Nat)(L:Nat->Nat):Prop:=∀j k,j<k->k<q->L j<L k
theorem Asc.inj {q:Nat}{L:Nat->Nat}(h:Asc q L):∀j k,j<q->k<q->L j=L k->j=k:=fun j k hj hk e=>by
 rcases Nat.lt_trichotomy j k with hh|hh|hh
 ·have:=h j k hh hk;omega
 ·exact hh
 ·have:=h k j hh hj;omega
theorem qmw:∀(n:Nat) (w:Nat->Rat),∃(q:Nat) (L:Nat->Nat),q<=n/\Asc q L/\(∀j,j<q->L j<n/\w (L j)≠0)/\∀i,i<n->w i≠0->∃j,j<q/\L j=i
 | 0,_=>⟨0,fun _=>0,by omega,fun j k _ hk=>by omega,fun j hj=>by omega,fun i hi=>by omega⟩
 | n+1,w=>by
  obtain⟨q,L,h0,h1,h2,h3⟩:=qmw n w;by_cases hw:w n=0
  ·refine⟨q,L,by omega,h1,fun j hj=>⟨by have:=(h2 j hj).1;omega,(h2 j hj).2⟩,fun i hi hne=>?_⟩;by_cases e:i=n
   ·subst e;exact absurd hw hne
   ·exact h3 i (by omega) hne
  ·refine⟨q+1,fun j=>if j=q then n else L j,by omega,fun j k hjk hk=>?_,fun j hj=>?_,fun i hi hne=>?_⟩
   ·simp only[show ¬j=q by omega,if_false];by_cases e:k=q
    ·simp only[e,if_true];exact(h2 j (by omega)).1
    ·simp only[e,if_false];exact h1 j k hjk (by omega)
   ·by_cases e:j=q
    ·simp only[e,if_true];exact⟨by omega,hw⟩
    ·simp only[e,if_false];have:=h2 j (by omega);exact⟨by omega,this.2⟩
   ·by_cases e:i=n
    ·exact⟨q,by omega,by simp[e]⟩
    ·obtain⟨j,hj,hL⟩:=h3 i (by omega) hne;exact⟨j,by omega,by simp only[show ¬j=q by omega,if_false];exact hL⟩
structure Sup (n:Nat) (p:Nat->V3) (q:Nat) (L:Nat->Nat) (u:Nat->Rat) (s:Rat):Prop where
 lt:∀j,j<q->L j<n
 asc:Asc q L
 ind:qIq q p L
 one:su q u=1
 eq:∀j,j<q->d2 (cen q u fun j=>p (L j)) (p (L j))=s
 nn:∀j,j<q->0<=u j
 all:∀i,i<n->d2 (cen q u fun j=>p (L j)) (p i)<=s
theorem Sup.least {n q:Nat}{L:Nat->Nat}{u:Nat->Rat}{s:Rat}(h:Sup n p q L u s):Least n p (fun i=>su q (fun j=>if L j=i then u j else 0)) s:=by
 have c:=qnv h.lt u p;refine⟨⟨⟨fun i _=>qDu fun j hj=>?_,by rw[qt2 h.lt];exact h.one⟩,fun i hi hne=>?_⟩,fun i hi=>by rw[c];exact h.all i hi⟩
 ·show (0:Rat)<=if L j=i then u j else 0
  split
  ·exact h.nn j hj
  ·exact qKv
 ·rw[c];obtain⟨j,hj,hz⟩:=qrb hne;by_cases e:L j=i
  ·rw[<-e];exact h.eq j hj
  ·exact absurd (if_neg e) hz
theorem qGM {n:Nat}(p:Nat->V3)(hn:0<n):∃q L u s,Sup n p q L u s/\0<q:=by
 obtain⟨w0,s,h0⟩:=qAa p hn;obtain⟨w,hw,hi⟩:=qwO _ h0 (qJe _);obtain⟨q,L,_,h1,h2,h3⟩:=qmw n w;have e:∀i,i<n->su q (fun j=>if L j=i then w (L j) else 0)=w i:=fun i hi=>by
  by_cases hz:w i=0
  ·rw[qo (g:=fun _=>0) (fun j hj=>by
    by_cases e:L j=i
    ·rw[e,hz];simp
    ·rw[if_neg e]),q6X,hz]
  ·obtain⟨k,hk,hL⟩:=h3 i hi hz;rw[<-hL,qHP h1.inj (fun j=>w (L j)) hk]
 have lt:∀j,j<q->L j<n:=fun j hj=>(h2 j hj).1;have c:cen q (fun j=>w (L j)) (fun j=>p (L j))=cen n w p:=by rw[<-qnv lt (fun j=>w (L j)) p];unfold cen;simp only[V3.mk.injEq];refine⟨?_,?_,?_⟩<;>exact qo fun i hi=>by rw[e i hi]
 have one:su q (fun j=>w (L j))=1:=by rw[<-qt2 lt (fun j=>w (L j)),qo e,hw.good.1.one]
 refine⟨q,L,fun j=>w (L j),s,⟨lt,h1,fun u hu hc j hj=>?_,one,fun j hj=>by rw[c];exact hw.good.2 _ (lt j hj) (h2 j hj).2,fun j hj=>hw.good.1.nn _ (lt j hj),fun i hi=>by rw[c];exact hw.all i hi⟩,?_⟩
 ·have:=hi (fun i=>su q (fun j=>if L j=i then u j else 0)) (fun i _ hz=>by rw[qo (g:=fun _=>0) (fun j hj=>by rw[if_neg (fun e:L j=_=>(h2 j hj).2 (by rw[e];exact hz))]),q6X]) (by rw[qt2 lt,hu]) (by rw[qnv lt,hc]) (L j) (lt j hj);rw[qHP h1.inj u hj] at this;exact this
 ·apply Nat.pos_of_ne_zero;intro hq;subst hq;have z:(0:Rat)=1:=one;exact absurd z (by decide)
end Go.Eng

namespace Go.Eng
variable {n:Nat}{p:Nat->V3}
theorem Sup.cen_eq {q:Nat}{L:Nat->Nat}{u:Nat->Rat}{s:Rat}(h:Sup n p q L u s):cen n (fun i=>su q (fun j=>if L j=i then u j else 0)) p=cen q u fun j=>p (L j):=qnv h.lt u p
theorem qCT {q q':Nat}{L L':Nat->Nat}{u u':Nat->Rat}{s s':Rat}(h:Sup n p q L u s)(h':Sup n p q' L' u' s'):s=s'/\cen q u (fun j=>p (L j))=cen q' u' (fun j=>p (L' j)):=by have:=qyk h.least h'.least;rw[h.cen_eq,h'.cen_eq] at this;exact this
theorem qEO {q:Nat}{L:Nat->Nat}{u:Nat->Rat}{s:Rat}(h:Sup n p q L u s){c:V3}{r:Rat}(hc:∀i,i<n->d2 c (p i)<=r):s+d2 c (cen q u fun j=>p (L j))<=r:=by have:=qsp h.least hc;rw[h.cen_eq] at this;exact this
theorem qCO {n m:Nat}{f:Nat->Nat}(hf:∀i,i<m->f i<n){q q':Nat}{L L':Nat->Nat}{u u':Nat->Rat}{s s':Rat}(h:Sup n p q L u s)(h':Sup m (fun i=>p (f i)) q' L' u' s'):s'<=s:=by have a:=qEO h' (c:=cen q u fun j=>p (L j)) (r:=s) fun i hi=>h.all (f i) (hf i hi);have:=qui (cen q u fun j=>p (L j)) (cen q' u' fun j=>p (f (L' j)));grind
def wts(t:Nat->Rat)(k:Nat):Nat->Rat:=fun j=>if j=0 then 1-su k t else t (j-1)
theorem qbO:∀(k:Nat) (f:Nat->Rat),su (k+1) f=f 0+su k (fun j=>f (j+1))
 | 0,f=>by simp only[su];grind
 | k+1,f=>by
  rw[su,qbO k f];simp only[su];grind
theorem qHd (t:Nat->Rat)(k:Nat):su (k+1) (wts t k)=1:=by rw[qbO];unfold wts;rw[qo (g:=t) (fun j _=>by simp)];simp only[if_true];grind
def qsC(c:Nat->V3)(i k:Nat):Rat:=2*qaA ⟨(c (i+1)).x-(c 0).x,(c (i+1)).y-(c 0).y,(c (i+1)).z-(c 0).z⟩ ⟨(c (k+1)).x-(c 0).x,(c (k+1)).y-(c 0).y,(c (k+1)).z-(c 0).z⟩
theorem qGb (t:Nat->Rat)(k:Nat)(c:Nat->V3):cen (k+1) (wts t k) c=⟨(c 0).x+su k (fun j=>t j*((c (j+1)).x-(c 0).x)),(c 0).y+su k (fun j=>t j*((c (j+1)).y-(c 0).y)),(c 0).z+su k (fun j=>t j*((c (j+1)).z-(c 0).z))⟩:=by
 have key:∀f:Nat->Rat,su (k+1) (fun j=>wts t k j*f j)=f 0+su k (fun j=>t j*(f (j+1)-f 0)):=fun f=>by
  rw[qbO,qo (g:=fun j=>t j*f (j+1)) (fun j _=>by unfold wts;simp)];have e:su k (fun j=>t j*(f (j+1)-f 0))=su k (fun j=>t j*f (j+1))-f 0*su k t:=by rw[<-wF,<-q7V];exact qo fun j _=>by grind
  rw[e];unfold wts;simp only[if_true];grind
 unfold cen;rw[key fun j=>(c j).x,key fun j=>(c j).y,key fun j=>(c j).z]
theorem qx2 (t:Nat->Rat)(k:Nat)(c:Nat->V3)(i:Nat):su k (fun j=>qsC c i j*t j)=d2 (c 0) (c (i+1))+d2 (cen (k+1) (wts t k) c) (c 0)-d2 (cen (k+1) (wts t k) c) (c (i+1)):=by
 rw[qGb];have e:su k (fun j=>qsC c i j*t j)=2*(((c (i+1)).x-(c 0).x)*su k (fun j=>t j*((c (j+1)).x-(c 0).x))+((c (i+1)).y-(c 0).y)*su k (fun j=>t j*((c (j+1)).y-(c 0).y))+((c (i+1)).z-(c 0).z)*su k (fun j=>t j*((c (j+1)).z-(c 0).z))):=by rw[<-wF,<-wF,<-wF,<-q5E,<-q5E,<-wF];exact qo fun j _=>by unfold qsC qaA;grind
 rw[e];unfold d2;simp only;grind
theorem qxu (t:Nat->Rat)(k:Nat)(c:Nat->V3):(∀i,i<k->su k (fun j=>qsC c i j*t j)=d2 (c 0) (c (i+1)))↔∀j,j<k+1->d2 (cen (k+1) (wts t k) c) (c j)=d2 (cen (k+1) (wts t k) c) (c 0):=by
 constructor
 ·intro h j hj;cases j with
  | zero=>rfl
  | succ i=>
   have:=h i (by omega);rw[qx2] at this;grind
 ·intro h i hi;have:=h (i+1) (by omega);rw[qx2,this];grind
end Go.Eng

namespace Go.Eng
def swI(a b i:Nat):Nat:=if i=a then b else if i=b then a else i
theorem qtX{a b i k:Nat}(ha:a<k)(hb:b<k)(hi:i<k):swI a b i<k:=by unfold swI;split<;>(try split)<;>omega
theorem qB4(a b i:Nat):swI a b (swI a b i)=i:=by
 unfold swI;by_cases h1:i=a
 ·subst h1;by_cases h2:b=i
  ·simp[h2]
  ·simp[h2]
 ·by_cases h2:i=b
  ·subst h2;simp[h1]
  ·simp[h1,h2]
def gs(c i0:Nat)(M:Nat->Nat->Rat):Nat->Nat->Rat:=fun i j=>if i=c then M i0 j*(M i0 c)⁻¹ else M (swI c i0 i) j-M (swI c i0 i) c*(M i0 j*(M i0 c)⁻¹)
def gsb(c i0:Nat)(M:Nat->Nat->Rat)(b:Nat->Rat):Nat->Rat:=fun i=>if i=c then b i0*(M i0 c)⁻¹ else b (swI c i0 i)-M (swI c i0 i) c*(b i0*(M i0 c)⁻¹)
theorem qCc(k c i0:Nat)(M:Nat->Nat->Rat)(x:Nat->Rat)(i:Nat):su k (fun j=>gs c i0 M i j*x j)=gsb c i0 M (fun i=>su k fun j=>M i j*x j) i:=by
 unfold gs gsb;by_cases h:i=c
 ·simp only[h,if_true];rw[qo (g:=fun j=>(M i0 c)⁻¹*(M i0 j*x j)) (fun j _=>by grind),wF];grind
 ·simp only[h,if_false];rw[qo (g:=fun j=>M (swI c i0 i) j*x j-(M (swI c i0 i) c*(M i0 c)⁻¹)*(M i0 j*x j)) (fun j _=>by grind),q7V,wF];grind
theorem qED{k c i0:Nat}{M:Nat->Nat->Rat}{b x:Nat->Rat}(hc:c<k)(hi0:i0<k)(hp:M i0 c≠0):qmq k k (gs c i0 M) (gsb c i0 M b) x↔qmq k k M b x:=by
 have inv:M i0 c*(M i0 c)⁻¹=1:=qLk _ hp;constructor
 ·intro h;have h0:su k (fun j=>M i0 j*x j)=b i0:=by have:=h c hc;rw[qCc] at this;unfold gsb at this;simp only[if_true] at this;grind
  intro i hi;by_cases e:i=i0
  ·rw[e];exact h0
  ·have:=h (swI c i0 i) (qtX hc hi0 hi);rw[qCc] at this;unfold gsb at this;have ne:swI c i0 i≠c:=by intro z;have:=qB4 c i0 i;rw[z] at this;unfold swI at this;simp at this;exact e this.symm
   simp only[ne,if_false,qB4] at this;rw[h0] at this;grind
 ·intro h i hi;rw[qCc];unfold gsb;have h0:=h i0 hi0;by_cases e:i=c
  ·simp only[e,if_true];rw[h0]
  ·simp only[e,if_false];rw[h0,h _ (qtX hc hi0 hi)]
def qrd(k c:Nat)(M:Nat->Nat->Rat):Prop:=∀i j,i<k->j<c->M i j=if i=j then 1 else 0
theorem qBE{k c i0:Nat}{M:Nat->Nat->Rat}(h:qrd k c M)(hc:c<k)(hci:c<=i0)(hi0:i0<k)(hp:M i0 c≠0):qrd k (c+1) (gs c i0 M):=by
 have inv:M i0 c*(M i0 c)⁻¹=1:=qLk _ hp;intro i j hi hj;unfold gs;by_cases e:j=c
 ·subst e;by_cases ei:i=j
  ·simp only[ei,if_true];exact inv
  ·simp only[ei,if_false];grind
 ·have hj':j<c:=by omega
  have z0:M i0 j=0:=by rw[h i0 j hi0 hj',if_neg (by omega)]
  by_cases ei:i=c
  ·simp only[ei,if_true];rw[z0,if_neg (by omega)];grind
  ·simp only[ei,if_false];rw[z0,h _ j (qtX hc hi0 hi) hj'];unfold swI;by_cases e0:i=i0
   ·subst e0;simp only[ei,if_false,if_true];rw[if_neg (show ¬c=j by omega),if_neg (show ¬i=j by omega)];grind
   ·simp only[ei,e0,if_false];grind
def qdE(k:Nat)(pv:Nat->(Nat->Nat->Rat)->Option Nat):Nat->Nat->(Nat->Nat->Rat)->Option (Nat->Nat->Rat)
 | 0,_,M=>some M
 | m+1,c,M=>match pv c M with
  | none=>none
  | some i0=>qdE k pv m (c+1) (gs c i0 M)
structure Pivots (k:Nat) (pv:Nat->(Nat->Nat->Rat)->Option Nat):Prop where
 some:∀c M i,c<k->pv c M=some i->c<=i/\i<k/\M i c≠0
 none:∀c M i,pv c M=none->c<=i->i<k->M i c=0
theorem qlL{k:Nat}{pv:Nat->(Nat->Nat->Rat)->Option Nat}(hpv:Pivots k pv):∀(m c:Nat) (M N:Nat->Nat->Rat),c+m=k->qrd k c M->qdE k pv m c M=some N ->
  qrd k k N/\∀r x,qmq k k N (fun i=>N i r) x↔qmq k k M (fun i=>M i r) x
 | 0,c,M,N,hc,hu,h=>by
  simp only[qdE,qJc] at h;subst h;have:c=k:=by omega
  subst this;exact⟨hu,fun _ _=>Iff.rfl⟩
 | m+1,c,M,N,hc,hu,h=>by
  simp only[qdE] at h;cases hp:pv c M with
  | none=>rw[hp] at h;cases h
  | some i0=>
   rw[hp] at h;obtain⟨p1,p2,p3⟩:=hpv.some c M i0 (by omega) hp;obtain⟨q1,q2⟩:=qlL hpv m (c+1) _ N (by omega) (qBE hu (by omega) p1 p2 p3) h;refine⟨q1,fun r x=>(q2 r x).trans ?_⟩;exact qED (b:=fun i=>M i r) (by omega) p2 p3
theorem qqH{k:Nat}{pv:Nat->(Nat->Nat->Rat)->Option Nat}(hpv:Pivots k pv):∀(m c:Nat) (M:Nat->Nat->Rat),c+m=k->qrd k c M->qdE k pv m c M=none ->
  ∃x:Nat->Rat,(∃j,j<k/\x j≠0)/\qmq k k M (fun _=>0) x
 | 0,c,M,hc,hu,h=>by simp only[qdE] at h;cases h
 | m+1,c,M,hc,hu,h=>by
  simp only[qdE] at h;cases hp:pv c M with
  | none=>
   refine⟨fun j=>(if j<c then -(M j c) else 0)+(if j=c then 1 else 0),⟨c,by omega,by show (if c<c then -(M c c) else 0)+(if c=c then 1 else 0)≠(0:Rat);rw[if_neg (by omega),if_pos rfl];intro z;grind⟩,fun i hi=>?_⟩;show su k (fun j=>M i j*((if j<c then -(M j c) else 0)+(if j=c then 1 else 0)))=0;rw[qo (g:=fun j=>M i j*(if j<c then -(M j c) else 0)+M i j*(if j=c then 1 else 0)) (fun j _=>by grind),q5E];have e2:su k (fun j=>M i j*(if j=c then 1 else 0))=M i c:=by rw[q7R (k:=c) _ (by omega) (fun j _ hne=>by simp[hne])];simp
   rw[e2];by_cases h3:i<c
   ·rw[q7R (k:=i) _ hi (fun j hj hne=>by
     by_cases hj':j<c
     ·rw[hu i j hi hj',if_neg (fun z=>hne z.symm)];grind
     ·rw[if_neg hj'];grind),if_pos h3,hu i i hi h3,if_pos rfl];grind
   ·rw[qo (g:=fun _=>0) (fun j hj=>by
     by_cases hj':j<c
     ·rw[hu i j hi hj',if_neg (by omega)];grind
     ·rw[if_neg hj'];grind),q6X,hpv.none c M i hp (by omega) hi];grind
  | some i0=>
   rw[hp] at h;obtain⟨p1,p2,p3⟩:=hpv.some c M i0 (by omega) hp;obtain⟨x,hx,hs⟩:=qqH hpv m (c+1) _ (by omega) (qBE hu (by omega) p1 p2 p3) h;refine⟨x,hx,(qED (b:=fun _=>0) (by omega) p2 p3).1 ?_⟩;intro i hi;rw[hs i hi];unfold gsb;split<;>grind
theorem qjb{k:Nat}{N:Nat->Nat->Rat}(h:qrd k k N)(b x:Nat->Rat):qmq k k N b x↔∀i,i<k->x i=b i:=by
 have e:∀i,i<k->su k (fun j=>N i j*x j)=x i:=fun i hi=>by rw[q7R (k:=i) _ hi (fun j hj hne=>by rw[h i j hi hj,if_neg (fun z=>hne z.symm)];grind),h i i hi hi,if_pos rfl];grind
 constructor
 ·intro hs i hi;rw[<-e i hi];exact hs i hi
 ·intro hs i hi;rw[e i hi];exact hs i hi
variable {k:Nat}
def Ind(q:Nat)(c:Nat->V3):Prop:=∀u:Nat->Rat,su q u=0->cen q u c=⟨0,0,0⟩->∀j,j<q->u j=0
def dif(c:Nat->V3)(t:Nat->Rat)(k:Nat):V3:=⟨su k fun j=>t j*((c (j+1)).x-(c 0).x),su k fun j=>t j*((c (j+1)).y-(c 0).y),su k fun j=>t j*((c (j+1)).z-(c 0).z)⟩
theorem qxz (c:Nat->V3)(t:Nat->Rat)(k i:Nat):su k (fun j=>qsC c i j*t j)=2*(((c (i+1)).x-(c 0).x)*(dif c t k).x+((c (i+1)).y-(c 0).y)*(dif c t k).y+((c (i+1)).z-(c 0).z)*(dif c t k).z):=by unfold dif;simp only;rw[<-wF,<-wF,<-wF,<-q5E,<-q5E,<-wF];exact qo fun j _=>by unfold qsC qaA;grind
theorem qAB (c:Nat->V3)(u:Nat->Rat)(k:Nat)(h:su (k+1) u=0):cen (k+1) u c=dif c (fun j=>u (j+1)) k:=by
 have key:∀f:Nat->Rat,su (k+1) (fun j=>u j*f j)=su k (fun j=>u (j+1)*(f (j+1)-f 0)):=fun f=>by
  have e:su k (fun j=>u (j+1)*(f (j+1)-f 0))=su k (fun j=>u (j+1)*f (j+1))-f 0*su k (fun j=>u (j+1)):=by rw[<-wF,<-q7V];exact qo fun j _=>by grind
  rw[qbO] at h;rw[qbO,e];grind
 unfold cen dif;rw[key fun j=>(c j).x,key fun j=>(c j).y,key fun j=>(c j).z]
theorem qh0 {c:Nat->V3}:Ind (k+1) c↔∀t:Nat->Rat,(∀i,i<k->su k (fun j=>qsC c i j*t j)=0)->∀j,j<k->t j=0:=by
 constructor
 ·intro h t ht j hj;obtain⟨u,hu⟩:∃u:Nat->Rat,u=fun j=>if j=0 then -(su k t) else t (j-1):=⟨_,rfl⟩
  have us:(fun j=>u (j+1))=t:=by funext j;rw[hu];simp
  have u0:su (k+1) u=0:=by rw[qbO,us,hu];simp;try grind
  have dz:dif c t k=⟨0,0,0⟩:=by
   have e:su k (fun i=>t i*su k (fun j=>qsC c i j*t j))=0:=by rw[qo (g:=fun _=>0) (fun i hi=>by rw[ht i hi];grind),q6X]
   have e2:su k (fun i=>t i*su k (fun j=>qsC c i j*t j))=2*qaA (dif c t k) (dif c t k):=by rw[qo (g:=fun i=>2*((dif c t k).x*(t i*((c (i+1)).x-(c 0).x))+(dif c t k).y*(t i*((c (i+1)).y-(c 0).y))+(dif c t k).z*(t i*((c (i+1)).z-(c 0).z)))) (fun i _=>by rw[qxz];grind),wF,q5E,q5E,wF,wF,wF];unfold qaA dif;grind
   rw[e2] at e;have:d2 (dif c t k) ⟨0,0,0⟩<=0:=by rw[qud];unfold qaA at *;simp only at *;grind
   exact qvd this
  have:=h u u0 (by rw[qAB c u k u0,us,dz]) (j+1) (by omega);rw[hu] at this;simpa using this
 ·intro h u u0 hc j hj;have d:dif c (fun j=>u (j+1)) k=⟨0,0,0⟩:=by rw[<-qAB c u k u0,hc]
  have z:=h (fun j=>u (j+1)) fun i _=>by rw[qxz,d];grind
  cases j with
  | zero=>
   rw[qbO,qo (g:=fun _=>0) (fun j hj=>z j hj),q6X] at u0;grind
  | succ j=>exact z j (by omega)
structure Bl (k:Nat) (c:Nat->V3) (t:Nat->Rat):Prop where
 ind:Ind (k+1) c
 eq:∀i,i<k->su k (fun j=>qsC c i j*t j)=d2 (c 0) (c (i+1))
theorem qFw {c:Nat->V3}{t t':Nat->Rat}(h:Bl k c t)(h':Bl k c t'):∀j,j<k->t j=t' j:=fun j hj=>by have:=qh0.1 h.ind (fun j=>t j-t' j) (fun i hi=>by rw[qo (g:=fun j=>qsC c i j*t j-qsC c i j*t' j) (fun j _=>by grind),q7V,h.eq i hi,h'.eq i hi];grind) j hj;grind
theorem qCP {n:Nat}{p:Nat->V3}{L:Nat->Nat}{u:Nat->Rat}{s:Rat}(h:Sup n p (k+1) L u s):Bl k (fun j=>p (L j)) (fun j=>u (j+1))/\∀j,j<k+1->u j=wts (fun j=>u (j+1)) k j:=by
 have e:∀j,j<k+1->u j=wts (fun j=>u (j+1)) k j:=fun j hj=>by
  have:=h.one;rw[qbO] at this;unfold wts;cases j with
  | zero=>simp only[if_true];grind
  | succ j=>simp
 refine⟨⟨h.ind,(qxu _ k _).2 fun j hj=>?_⟩,e⟩;have c:cen (k+1) (wts (fun j=>u (j+1)) k) (fun j=>p (L j))=cen (k+1) u fun j=>p (L j):=by unfold cen;simp only[V3.mk.injEq];refine⟨?_,?_,?_⟩<;>exact qo fun i hi=>by rw[<-e i hi]
 rw[c,h.eq j hj,h.eq 0 (by omega)]
theorem qE3 {n:Nat}{p:Nat->V3}{L:Nat->Nat}{t:Nat->Rat}(h:Bl k (fun j=>p (L j)) t)(lt:∀j,j<k+1->L j<n)(asc:Asc (k+1) L)(nn:∀j,j<k+1->0<=wts t k j)(all:∀i,i<n->d2 (cen (k+1) (wts t k) fun j=>p (L j)) (p i)<=d2 (cen (k+1) (wts t k) fun j=>p (L j)) (p (L 0))) :Sup n p (k+1) L (wts t k) (d2 (cen (k+1) (wts t k) fun j=>p (L j)) (p (L 0))):=⟨lt,asc,h.ind,qHd t k,(qxu t k _).1 h.eq,nn,all⟩
end Go.Eng

namespace Go.Eng
variable {n:Nat}
def nxL(l:List Nat):Nat:=match l.getLast? with
 | none=>0
 | some a=>a+1
def exL(n:Nat)(l:List Nat):List (List Nat):=(List.range' (nxL l) (n-nxL l)).map fun i=>l++[i]
def lsN(n:Nat):Nat->List (List Nat)
 | 0=>[[]]
 | k+1=>(lsN n k).flatMap (exL n)
theorem qAv (l:List Nat)(i:Nat):nxL (l++[i])=i+1:=by unfold nxL;rw[List.getLast?_concat]
theorem qES {l:List Nat}(h:∀a,a∈l->a<n):nxL l<=n:=by
 unfold nxL;cases e:l.getLast? with
 | none=>exact qKL _
 | some a=>exact h a (List.mem_of_getLast? e)
theorem qHx {l:List Nat}(h:l.Pairwise (·<·)):∀a,a∈l->a<nxL l:=by
 intro a ha;rcases List.eq_nil_or_concat l with e|⟨l',b,e⟩
 ·subst e;cases ha
 ·rw[List.concat_eq_append] at e;subst e;rw[qAv];rcases qJG.1 ha with q|q
  ·have:=(List.pairwise_append.1 h).2.2 a q b (qJJ.2 rfl);omega
  ·rw[qJJ.1 q];omega
theorem qAV {l L:List Nat}:L∈exL n l↔∃i,nxL l<=i/\i<n/\L=l++[i]:=by
 unfold exL;rw[qK1];constructor
 ·rintro ⟨i,hi,e⟩;rw[List.mem_range'] at hi;obtain⟨j,h1,h2⟩:=hi;exact⟨i,by omega,by omega,e.symm⟩
 ·rintro ⟨i,h1,h2,e⟩;exact⟨i,by rw[List.mem_range'];exact⟨i-nxL l,by omega,by omega⟩,e.symm⟩
theorem qpF{n:Nat}:∀{k:Nat} {L:List Nat},L∈lsN n k↔L.length=k/\(∀a,a∈L->a<n)/\L.Pairwise (·<·)
 | 0,L=>by
  unfold lsN;rw[qJJ];constructor
  ·intro e;subst e;exact⟨rfl,(fun a h=>by cases h),List.Pairwise.nil⟩
  ·intro h;exact qKY h.1
 | k+1,L=>by
  unfold lsN;rw[qLj];constructor
  ·rintro ⟨l,hl,hL⟩;obtain⟨h1,h2,h3⟩:=qpF.1 hl;obtain⟨i,i1,i2,e⟩:=qAV.1 hL;subst e;refine⟨by rw[qJB,h1];rfl,fun a ha=>?_,List.pairwise_append.2 ⟨h3,List.pairwise_singleton _ _,fun a ha b hb=>?_⟩⟩
   ·rcases qJG.1 ha with q|q
    ·exact h2 a q
    ·rw[qJJ.1 q];exact i2
   ·rw[qJJ.1 hb];have:=qHx h3 a ha;omega
  ·rintro ⟨h1,h2,h3⟩;rcases List.eq_nil_or_concat L with e|⟨l,i,e⟩
   ·subst e;cases h1
   ·rw[List.concat_eq_append] at e;subst e;have hp:=List.pairwise_append.1 h3;refine⟨l,qpF.2 ⟨by rw[qJB] at h1;exact Nat.succ.inj h1,fun a ha=>h2 a (qKb _ ha),hp.1⟩,qAV.2 ⟨i,?_,h2 i (qJY _ (qJJ.2 rfl)),rfl⟩⟩;refine qES fun a ha=>hp.2.2 a ha i (qJJ.2 rfl)
theorem qAe (n:Nat)(l:List Nat):(exL n l).length<=n:=by unfold exL;rw[qJm,List.length_range'];omega
theorem qsZ{α β:Type}(f:α->List β)(n:Nat)(h:∀a,(f a).length<=n):∀l:List α,(l.flatMap f).length<=l.length*n
 | []=>by simp
 | a::l=>by
  rw[List.flatMap_cons,qJB,qJM,Nat.succ_mul];have:=qsZ f n h l;have:=h a;omega
theorem qAW(n:Nat):∀k,(lsN n k).length<=n^k
 | 0=>by unfold lsN;simp
 | k+1=>by
  unfold lsN;refine qJg (qsZ _ n (qAe n) _) ?_;rw[qKN];exact qJD _ (qAW n k)
def qfF(P:List Nat->Bool)(n:Nat):Nat->Nat->Option (List Nat)
 | _,0=>none
 | k,m+1=>match (lsN n k).find? P with
  | some L=>some L
  | none=>qfF P n (k+1) m
theorem qpN{P:List Nat->Bool}{n:Nat}:∀{m k:Nat} {L:List Nat},qfF P n k m=some L->P L=true/\∃j,k<=j/\j<k+m/\L∈lsN n j
 | 0,k,L,h=>by cases h
 | m+1,k,L,h=>by
  unfold qfF at h;split at h
  ·next L' e=>cases h;exact⟨qKy e,k,qJe _,by omega,qK7 e⟩
  ·obtain⟨h1,j,h2,h3,h4⟩:=qpN h;exact⟨h1,j,by omega,by omega,h4⟩
theorem qpa{P:List Nat->Bool}{n:Nat}:∀{m k:Nat},qfF P n k m=none->∀j,k<=j->j<k+m->∀L,L∈lsN n j->P L=false
 | 0,k,_,j,h1,h2,_,_=>by omega
 | m+1,k,h,j,h1,h2,L,hL=>by
  unfold qfF at h;split at h
  ·cases h
  ·next e=>
   by_cases q:j=k
   ·subst q;exact(Bool.not_eq_true _).mp (List.find?_eq_none.1 e L hL)
   ·exact qpa h j (by omega) (by omega) L hL
theorem qDA {q:Nat}{f:Nat->Nat}(h:Asc q f):((List.range q).map f).Pairwise (·<·):=by rw[List.pairwise_iff_getElem];intro i j hi hj hij;rw[qJm,qJV] at hi hj;rw[List.getElem_map,List.getElem_map,List.getElem_range,List.getElem_range];exact h i j hij hj
theorem qDD {L:List Nat}(h:L.Pairwise (·<·))(d:Nat):Asc L.length (fun j=>L.getD j d):=fun i j hij hj=>by show L.getD i d<L.getD j d;rw[qJd,qJd,qJk hj,qJk (by omega)];exact List.pairwise_iff_getElem.1 h i j (by omega) hj hij
theorem qyj {q:Nat}{f:Nat->Nat}{d j:Nat}(h:j<q):((List.range q).map f).getD j d=f j:=by rw[qJd,qJo,qKa h];rfl
theorem qFC {q:Nat}{u:Nat->Rat}{c c':Nat->V3}(h:∀j,j<q->c j=c' j):cen q u c=cen q u c':=by unfold cen;simp only[V3.mk.injEq];refine⟨?_,?_,?_⟩<;>exact qo fun i hi=>by rw[h i hi]
theorem Sup.congr {p:Nat->V3}{q:Nat}{f g:Nat->Nat}{u:Nat->Rat}{s:Rat}(h:Sup n p q f u s)(e:∀j,j<q->f j=g j):Sup n p q g u s:=by
 have ec:∀v:Nat->Rat,(cen q v fun j=>p (g j))=cen q v fun j=>p (f j):=fun v=>qFC fun j hj=>by rw[e j hj]
 refine⟨fun j hj=>by rw[<-e j hj];exact h.lt j hj,fun j k hjk hk=>by rw[<-e j (by omega),<-e k hk];exact h.asc j k hjk hk,fun v h1 h2=>h.ind v h1 (by rw[<-ec];exact h2),h.one,fun j hj=>?_,h.nn,fun i hi=>?_⟩
 ·rw[ec,<-e j hj];exact h.eq j hj
 ·rw[ec];exact h.all i hi
theorem qCZ (p:Nat->V3)(hn:0<n)(d:Nat):∃L:List Nat,∃u s,0<L.length/\L.length<=4/\((∀i,i<n->(p i).z=0)->L.length<=3)/\(∀a,a∈L->a<n)/\L.Pairwise (·<·)/\Sup n p L.length (fun j=>L.getD j d) u s:=by
 obtain⟨q,f,u,s,h,hq⟩:=qGM p hn;refine⟨(List.range q).map f,u,s,by rw[qJm,qJV];exact hq,by rw[qJm,qJV];exact qD9 h.ind,fun hz=>by rw[qJm,qJV];exact qzA h.ind fun j hj=>hz _ (h.lt j hj),fun a ha=>?_,qDA h.asc,?_⟩
 ·obtain⟨j,hj,e⟩:=qK1.1 ha;rw[<-e];exact h.lt j (qKu.1 hj)
 ·rw[qJm,qJV];exact h.congr fun j hj=>(qyj hj).symm
end Go.Eng

namespace Go.Eng
open Go.Shelf Go.RowKit Go.Proofs Go.Sort
variable {P:Program}{gl:List (Nat×AV)}
theorem qmA (w:World)(q:Nat)(os:Array Obj):Below w.heap.size w (grow (w.drewN q) os):=
 ⟨rfl,rfl,rfl,by simp[grow],fun i hi=>by show ((w.drewN q).heap++os)[i]?=_;rw[Array.getElem?_append_left (by show i<w.heap.size;omega)];rfl⟩
theorem quY (w:World)(e:TypeId)(s:ByteArray):Below w.heap.size w (Lib.bytesWorld w e s):=⟨rfl,rfl,rfl,by rw[Lib.bytesWorld_size];omega,fun k hk=>Lib.bytesWorld_at_old w e s k (by omega)⟩
def quW:List PV->TR
 | [.s s,.s [c]]=>.leaf (0,[.i (Lib.indexByte s c)])
 | _=>.fail
theorem qwN {ρ:Ren}(L:Lays.n219 P ρ)(he:qbt P (ρ.f 219)) :qT P gl (ρ.f 219) (q9 { args:=[.str,.str],h:=[] } [{ res:=.int .i64,h:=[] }] quW):=
 qhr he rfl fun B X ps j qs vargs hs hg hh ha hk hT=>by
  obtain⟨s,t,rfl⟩:=qss hk;unfold quW at hT;split at hT
  ·rename_i s' c hps;simp only[qKK,PV.s.injEq,and_true] at hps;obtain⟨rfl,rfl⟩:=hps;cases hT;have:=qp7 ha;subst this;refine⟨rfl,rfl,rfl,(Any.stringslite_Index_one L ⟨s.toArray⟩ c X.w).mono fun e w' ⟨h1,h2⟩=>?_⟩;subst h2;exact⟨_,h1,Below.refl _ _,.int _ _⟩
  ·cases hT
def qnn:List PV->TR
 | [.s s,.s t]=>.leaf (0,[.i (Lib.compareBytes s t)])
 | _=>.fail
theorem qrA {ρ:Ren}(L:Lays.n106 P ρ)(he:qbt P (ρ.f 106)) :qT P gl (ρ.f 106) (q9 { args:=[.str,.str],h:=[] } [{ res:=.int .i64,h:=[] }] qnn):=
 qhr he rfl fun B X ps j qs vargs hs hg hh ha hk hT=>by obtain⟨s,t,rfl⟩:=qss hk;cases hT;have:=qp7 ha;subst this;refine⟨rfl,rfl,rfl,(Any.strings_Compare L ⟨s.toArray⟩ ⟨t.toArray⟩ X.w).mono fun e w' ⟨h1,h2⟩=>?_⟩;subst h2;exact⟨_,h1,Below.refl _ _,.int _ _⟩
def qzB:List PV->TR
 | [.s s,.s t]=>if s.length<=9223372036854775807/\t.length<4294967281/\t.all (fun b=>decide (b.toNat<128))=true then .leaf (0,[.s (Lib.trimS s t)]) else .fail
 | _=>.fail
theorem qyE {ρ:Ren}(L:Lays.n160 P ρ)(he:qbt P (ρ.f 160))(h116:(P.info? (ρ.t 116)).map (fun i=>(i.zero,i.size))=some (some (.agg (Array.replicate 256 (.bool false))),256)) :qT P gl (ρ.f 160) (q9 { args:=[.str,.str],h:=[] } [{ res:=.str,h:=[] }] qzB):=
 qhr he rfl fun B X ps j qs vargs hs hg hh ha hk hT=>by
  obtain⟨s,t,rfl⟩:=qss hk;simp only[qzB] at hT;split at hT
  ·rename_i hc;cases hT;have:=qp7 ha;subst this;refine⟨rfl,rfl,rfl,(Any.strings_Trim_laid L h116 ⟨s.toArray⟩ ⟨t.toArray⟩ X.w (by simpa[ByteArray.size] using hc.1) (by simpa[ByteArray.size] using hc.2.1) (fun j b hj=>?_)).mono fun e w' ⟨h1,h2⟩=>⟨_,h1,h2,.str _⟩⟩;have h3:=hc.2.2;rw[qJL] at h3;simpa using h3 b (qKt hj)
  ·cases hT
def qEC:R:=[Lib.pow10Tab.map U.i]
def qAQ:List PV->TR
 | [.i n]=>if -9223372036854775808<=n/\n<=9223372036854775807 then .leaf (0,[.s (Lib.itoa n)]) else .fail
 | _=>.fail
theorem qpg {X:Ctx}{g:Nat}{k:IntKind}{zs:List Int}{name:String}(hn:P.globalNamed name=some g)(hz:zs≠[])(h:qDa X (g,.eptr (zs.map fun _=>.int k) [zs.map U.i] 0 0)):Lib.TabIs P X.w name k zs:=by
 obtain⟨h1,h2,h3⟩:=h;simp only at h1 h2 h3;have hcell:∀j (hj:j<zs.length),X.w.cell? ⟨g,j,none⟩=some (.int k zs[j]):=by
  intro j hj;generalize hv:(Value.pointer (some ⟨g,0,none⟩))=vv at h1;cases h1 with
  | eptr _ _ _ _ a hsp h0 hl hr=>
   simp only[Value.pointer.injEq,qJc,Addr.mk.injEq] at hv;obtain⟨v1,v2,_⟩:=hv;obtain⟨hM,v,e1,e2⟩:=hr 0 j (by simpa using hj) (by simp);have ho:a.off=0:=by omega
   have e1':X.w.cell? ⟨g,j,none⟩=some v:=by rw[Nat.zero_mul,qJU,ho,qK5,<-v1] at e1;exact e1
   rw[e1'];have e2':RepU X.w X.M (.int k) (U.i zs[j]) v:=by simpa[wy,qJd,hj] using e2
   cases e2';rfl
 unfold Lib.TabIs World.var?;rw[hn];simp only[qJH];have h0:=hcell 0 (qKH.2 hz);unfold World.cell? at h0;simp only at h0;split at h0
 ·rename_i cs T fr hheap;rw[hheap];simp only;congr 1;have hsz:cs.size<=zs.length:=by
   have h4:X.w.cell? ⟨g,zs.length,none⟩=none:=by simpa[AV.span] using h3
   unfold World.cell? at h4;simp only[hheap] at h4;simpa using h4
  apply Array.ext
  ·simp;rcases qJl cs.size zs.length with hlt|hge
   ·have:=hcell cs.size hlt;unfold World.cell? at this;simp[hheap] at this
   ·omega
  ·intro j hj hj2;have hjz:j<zs.length:=by omega
   have:=hcell j hjz;unfold World.cell? at this;simp only[hheap] at this;simp[hj] at this;simp[this]
 ·cases h0
theorem qym {ρ:Ren}(L:LaysM.n171 P ρ)(he:qbt P (ρ.f 171)){g:Nat}(hn:P.globalNamed "internal/strconv.uint64pow10" = some g)(hg:(g,AV.eptr (Lib.pow10Tab.map fun _=>.int .u64) qEC 0 0)∈gl) :qT P gl (ρ.f 171) (q9 { args:=[.int .i64],h:=[] } [{ res:=.str,h:=[] }] qAQ):=
 qhr he rfl fun B X ps j qs vargs hs hgl hh ha hk hT=>by
  obtain⟨n,rfl⟩:=qF9 hk;simp only[qAQ] at hT;split at hT
  ·rename_i hc;cases hT;have:=qwT ha;subst this;refine⟨rfl,rfl,rfl,(Any.strconv_Itoa L n hc.1 hc.2 X.w (qpg hn (by decide) (hgl _ hg).2)).mono fun e w' ⟨h1,k,os,h2⟩=>⟨_,h1,?_,.str _⟩⟩;subst h2;exact qmA _ _ _
  ·cases hT
def qC1:List PV->TR
 | [.s s]=>if s.length<=18 then (match Lib.atoi s with|some n=>.leaf (0,[.i n])|none=>.fail) else .fail
 | _=>.fail
theorem qy6 {ρ:Ren}(L:Lays.n172 P ρ)(he:qbt P (ρ.f 172)) :qT P gl (ρ.f 172) (q9 { args:=[.str],h:=[] } [{ res:=.tuple [.int .i64,.any],h:=[] }] qC1):=
 qhr he rfl fun B X ps j qs vargs hs hg hh ha hk hT=>by
  obtain⟨s,rfl⟩:=qG6 hk;simp only[qC1] at hT;split at hT
  ·rename_i hc;split at hT
   ·rename_i n hn;cases hT;have:=qwS ha;subst this;refine⟨rfl,rfl,rfl,(Any.strconv_Atoi L ⟨s.toArray⟩ n (by simpa[ByteArray.size] using hc) (by simpa using hn) X.w).mono fun e w' ⟨h1,t,h2⟩=>⟨_,h1,?_,.tuple _ _ (.cons (.int _ _) (.cons (.undef _) .nil))⟩⟩;subst h2;exact quY _ _ _
   ·cases hT
  ·cases hT
def qzT(s:qJb):List UInt8:=qdK (qfy [48,48,48,48,48,48,48,48,48] (qB s) 9) s
def qjL(w:R):Nat->List UInt8
 | 0=>[]
 | i+1=>qzT (Lib.itoa (cI w i 0))++qjL w i
def qBG(b:Bool)(n:Int)(w:R):List UInt8:=if n=0 then [48] else (if b then [45] else [])++Lib.itoa (cI w (n-1) 0)++qjL w (n-1).toNat
def qs7(n:Int)(w:R):Bool:=decide (0<=n)&&decide (n<=232)&&(List.range n.toNat).all fun i=>decide (0<=cI w i 0/\cI w i 0<1000000000)
def qzy:List PV->TR
 | [.b b,.i n,.r w]=>if qs7 n w then .leaf (0,[.s (qBG b n w),.b b,.i n,.r w]) else .fail
 | _=>.fail
end Go.Eng

namespace Go.Proofs
open Go.Shelf
open Tryz
def lays219_ren:Go.Shelf.Ren:=⟨fun|219=>164|217=>201|225=>202|224=>203|267=>204|266=>225|314=>226|n=>n,fun|9=>9|3=>3|4=>4|5=>5|46=>249|146=>263|51=>262|n=>n,fun|1=>0|n=>n⟩
theorem lays219:Go.Proofs.Lays.n219 prog lays219_ren:={
 mixed:=by kernel_rfl
 f217:=func201.trans (congrArg some (by kernel_rfl))
 f219:=func164.trans (congrArg some (by kernel_rfl))
 f224:=func203.trans (congrArg some (by kernel_rfl))
 f225:=func202.trans (congrArg some (by kernel_rfl))
 f266:=func225.trans (congrArg some (by kernel_rfl))
 f267:=func204.trans (congrArg some (by kernel_rfl))
 f314:=func226.trans (congrArg some (by kernel_rfl))
 t3:=underlying3
 a3:=isAgg3
 z3:=sizeOf3
 v3:=zeroValue3
 t4:=underlying4
 a4:=isAgg4
 z4:=sizeOf4
 v4:=zeroValue4
 t5:=underlying5
 a5:=isAgg5
 z5:=sizeOf5
 v5:=zeroValue5
 t9:=underlying9
 a9:=isAgg9
 z9:=sizeOf9
 v9:=zeroValue9
 t46:=underlying249
 a46:=isAgg249
 z46:=sizeOf249
 v46:=zeroValue249
 t51:=underlying262
 a51:=isAgg262
 z51:=sizeOf262
 v51:=zeroValue262
 t146:=underlying263
 a146:=isAgg263
 z146:=sizeOf263
 v146:=zeroValue263
 g1:=by kernel_rfl }
def lays106_ren:Go.Shelf.Ren:=⟨fun|106=>121|213=>165|265=>205|n=>n,fun|9=>9|3=>3|n=>n,fun|n=>n⟩
theorem lays106:Go.Proofs.Lays.n106 prog lays106_ren:={
 mixed:=by kernel_rfl
 f106:=func121.trans (congrArg some (by kernel_rfl))
 f213:=func165.trans (congrArg some (by kernel_rfl))
 f265:=func205.trans (congrArg some (by kernel_rfl))
 t3:=underlying3
 a3:=isAgg3
 z3:=sizeOf3
 v3:=zeroValue3
 t9:=underlying9
 a9:=isAgg9
 z9:=sizeOf9
 v9:=zeroValue9 }
def lays160_ren:Go.Shelf.Ren:=⟨fun|160=>108|232=>145|231=>144|227=>146|234=>148|233=>147|236=>150|235=>149|228=>188|271=>191|151=>190|197=>189|120=>213|152=>212|260=>211|137=>231|119=>232|224=>203|225=>202|217=>201|266=>225|n=>n,fun|9=>9|4=>4|3=>3|5=>5|117=>195|116=>194|0=>0|124=>198|21=>21|105=>239|46=>249|119=>267|139=>270|138=>269|n=>n,fun|3=>1|4=>2|n=>n⟩
theorem lays160:Go.Proofs.Lays.n160 prog lays160_ren:={
 mixed:=by kernel_rfl
 f119:=func232.trans (congrArg some (by kernel_rfl))
 f120:=func213.trans (congrArg some (by kernel_rfl))
 f137:=func231.trans (congrArg some (by kernel_rfl))
 f151:=func190.trans (congrArg some (by kernel_rfl))
 f152:=func212.trans (congrArg some (by kernel_rfl))
 f160:=func108.trans (congrArg some (by kernel_rfl))
 f197:=func189.trans (congrArg some (by kernel_rfl))
 f217:=func201.trans (congrArg some (by kernel_rfl))
 f224:=func203.trans (congrArg some (by kernel_rfl))
 f225:=func202.trans (congrArg some (by kernel_rfl))
 f227:=func146.trans (congrArg some (by kernel_rfl))
 f228:=func188.trans (congrArg some (by kernel_rfl))
 f231:=func144.trans (congrArg some (by kernel_rfl))
 f232:=func145.trans (congrArg some (by kernel_rfl))
 f233:=func147.trans (congrArg some (by kernel_rfl))
 f234:=func148.trans (congrArg some (by kernel_rfl))
 f235:=func149.trans (congrArg some (by kernel_rfl))
 f236:=func150.trans (congrArg some (by kernel_rfl))
 f260:=func211.trans (congrArg some (by kernel_rfl))
 f266:=func225.trans (congrArg some (by kernel_rfl))
 f271:=func191.trans (congrArg some (by kernel_rfl))
 t0:=underlying0
 a0:=isAgg0
 z0:=sizeOf0
 v0:=zeroValue0
 t3:=underlying3
 a3:=isAgg3
 z3:=sizeOf3
 v3:=zeroValue3
 t4:=underlying4
 a4:=isAgg4
 z4:=sizeOf4
 v4:=zeroValue4
 t5:=underlying5
 a5:=isAgg5
 z5:=sizeOf5
 v5:=zeroValue5
 t9:=underlying9
 a9:=isAgg9
 z9:=sizeOf9
 v9:=zeroValue9
 t21:=underlying21
 a21:=isAgg21
 z21:=sizeOf21
 v21:=zeroValue21
 t46:=underlying249
 a46:=isAgg249
 z46:=sizeOf249
 v46:=zeroValue249
 t105:=underlying239
 a105:=isAgg239
 z105:=sizeOf239
 v105:=zeroValue239
 t116:=underlying194
 a116:=isAgg194
 z116:=sizeOf194
 t117:=underlying195
 a117:=isAgg195
 z117:=sizeOf195
 v117:=zeroValue195
 t119:=underlying267
 a119:=isAgg267
 z119:=sizeOf267
 t124:=underlying198
 a124:=isAgg198
 z124:=sizeOf198
 v124:=zeroValue198
 t138:=underlying269
 a138:=isAgg269
 z138:=sizeOf269
 v138:=zeroValue269
 t139:=underlying270
 a139:=isAgg270
 z139:=sizeOf270
 v139:=zeroValue270
 g3:=by kernel_rfl
 g4:=by kernel_rfl }
def lays172_ren:Go.Shelf.Ren:=⟨fun|172=>151|244=>192|245=>193|247=>214|279=>215|280=>216|281=>217|282=>218|287=>233|316=>234|171=>153|205=>235|321=>242|322=>243|243=>194|246=>219|283=>236|284=>237|285=>238|286=>239|129=>245|317=>244|318=>246|319=>247|320=>248|337=>249|338=>250|n=>n,fun|9=>9|3=>3|75=>200|76=>201|4=>4|5=>5|167=>253|37=>123|0=>0|85=>254|2=>2|168=>256|53=>272|175=>273|46=>249|210=>276|127=>244|145=>289|143=>287|21=>21|171=>278|173=>281|212=>291|51=>262|20=>20|213=>292|232=>295|233=>296|80=>212|n=>n,fun|15=>3|16=>4|17=>5|18=>6|19=>7|n=>n⟩
theorem lays172:Go.Proofs.Lays.n172 prog lays172_ren:={
 mixed:=by kernel_rfl
 f129:=func245.trans (congrArg some (by kernel_rfl))
 f171:=func153.trans (congrArg some (by kernel_rfl))
 f172:=func151.trans (congrArg some (by kernel_rfl))
 f205:=func235.trans (congrArg some (by kernel_rfl))
 f243:=func194.trans (congrArg some (by kernel_rfl))
 f244:=func192.trans (congrArg some (by kernel_rfl))
 f245:=func193.trans (congrArg some (by kernel_rfl))
 f246:=func219.trans (congrArg some (by kernel_rfl))
 f247:=func214.trans (congrArg some (by kernel_rfl))
 f279:=func215.trans (congrArg some (by kernel_rfl))
 f280:=func216.trans (congrArg some (by kernel_rfl))
 f281:=func217.trans (congrArg some (by kernel_rfl))
 f282:=func218.trans (congrArg some (by kernel_rfl))
 f283:=func236.trans (congrArg some (by kernel_rfl))
 f284:=func237.trans (congrArg some (by kernel_rfl))
 f285:=func238.trans (congrArg some (by kernel_rfl))
 f286:=func239.trans (congrArg some (by kernel_rfl))
 f287:=func233.trans (congrArg some (by kernel_rfl))
 f316:=func234.trans (congrArg some (by kernel_rfl))
 f317:=func244.trans (congrArg some (by kernel_rfl))
 f318:=func246.trans (congrArg some (by kernel_rfl))
 f319:=func247.trans (congrArg some (by kernel_rfl))
 f320:=func248.trans (congrArg some (by kernel_rfl))
 f321:=func242.trans (congrArg some (by kernel_rfl))
 f322:=func243.trans (congrArg some (by kernel_rfl))
 f337:=func249.trans (congrArg some (by kernel_rfl))
 f338:=func250.trans (congrArg some (by kernel_rfl))
 t0:=underlying0
 a0:=isAgg0
 z0:=sizeOf0
 v0:=zeroValue0
 t2:=underlying2
 a2:=isAgg2
 z2:=sizeOf2
 v2:=zeroValue2
 t3:=underlying3
 a3:=isAgg3
 z3:=sizeOf3
 v3:=zeroValue3
 t4:=underlying4
 a4:=isAgg4
 z4:=sizeOf4
 v4:=zeroValue4
 t5:=underlying5
 a5:=isAgg5
 z5:=sizeOf5
 v5:=zeroValue5
 t9:=underlying9
 a9:=isAgg9
 z9:=sizeOf9
 v9:=zeroValue9
 t20:=underlying20
 a20:=isAgg20
 z20:=sizeOf20
 v20:=zeroValue20
 t21:=underlying21
 a21:=isAgg21
 z21:=sizeOf21
 v21:=zeroValue21
 t37:=underlying123
 a37:=isAgg123
 z37:=sizeOf123
 v37:=zeroValue123
 t46:=underlying249
 a46:=isAgg249
 z46:=sizeOf249
 v46:=zeroValue249
 t51:=underlying262
 a51:=isAgg262
 z51:=sizeOf262
 v51:=zeroValue262
 t53:=underlying272
 a53:=isAgg272
 z53:=sizeOf272
 v53:=zeroValue272
 t75:=underlying200
 a75:=isAgg200
 z75:=sizeOf200
 v75:=zeroValue200
 t76:=underlying201
 a76:=isAgg201
 z76:=sizeOf201
 v76:=zeroValue201
 t85:=underlying254
 a85:=isAgg254
 z85:=sizeOf254
 v85:=zeroValue254
 t127:=underlying244
 a127:=isAgg244
 z127:=sizeOf244
 v127:=zeroValue244
 t143:=underlying287
 a143:=isAgg287
 z143:=sizeOf287
 v143:=zeroValue287
 t145:=underlying289
 a145:=isAgg289
 z145:=sizeOf289
 v145:=zeroValue289
 t167:=underlying253
 a167:=isAgg253
 z167:=sizeOf253
 v167:=zeroValue253
 t168:=underlying256
 a168:=isAgg256
 z168:=sizeOf256
 v168:=zeroValue256
 t171:=underlying278
 a171:=isAgg278
 z171:=sizeOf278
 v171:=zeroValue278
 t173:=underlying281
 a173:=isAgg281
 z173:=sizeOf281
 v173:=zeroValue281
 t175:=underlying273
 a175:=isAgg273
 z175:=sizeOf273
 v175:=zeroValue273
 t210:=underlying276
 a210:=isAgg276
 z210:=sizeOf276
 v210:=zeroValue276
 t212:=underlying291
 a212:=isAgg291
 z212:=sizeOf291
 v212:=zeroValue291
 t213:=underlying292
 a213:=isAgg292
 z213:=sizeOf292
 t232:=underlying295
 a232:=isAgg295
 z232:=sizeOf295
 v232:=zeroValue295
 t233:=underlying296
 a233:=isAgg296
 z233:=sizeOf296
 v233:=zeroValue296
 g15:=by kernel_rfl
 g16:=by kernel_rfl
 g17:=by kernel_rfl
 g18:=by kernel_rfl
 g19:=by kernel_rfl }
def lays169_ren:Go.Shelf.Ren:=⟨fun|169=>159|n=>n,fun|70=>208|9=>9|0=>0|72=>210|37=>123|127=>244|3=>3|5=>5|n=>n,fun|n=>n⟩
theorem lays169:Go.Proofs.Lays.n169 prog lays169_ren:={
 mixed:=by kernel_rfl
 f169:=func159.trans (congrArg some (by kernel_rfl))
 t0:=underlying0
 a0:=isAgg0
 z0:=sizeOf0
 v0:=zeroValue0
 t3:=underlying3
 a3:=isAgg3
 z3:=sizeOf3
 v3:=zeroValue3
 t9:=underlying9
 a9:=isAgg9
 z9:=sizeOf9
 v9:=zeroValue9
 t37:=underlying123
 a37:=isAgg123
 z37:=sizeOf123
 v37:=zeroValue123
 t70:=underlying208
 a70:=isAgg208
 z70:=sizeOf208
 v70:=zeroValue208
 t72:=underlying210
 a72:=isAgg210
 z72:=sizeOf210
 v72:=zeroValue210
 t127:=underlying244
 a127:=isAgg244
 z127:=sizeOf244
 v127:=zeroValue244 }
def laysM171_ren:Go.Shelf.Ren:=⟨fun|171=>153|243=>194|246=>219|283=>236|284=>237|285=>238|286=>239|129=>245|317=>244|318=>246|319=>247|320=>248|337=>249|338=>250|n=>n,fun|3=>3|9=>9|2=>2|4=>4|171=>278|0=>0|53=>272|37=>123|5=>5|173=>281|212=>291|51=>262|20=>20|213=>292|46=>249|232=>295|233=>296|n=>n,fun|17=>5|18=>6|19=>7|n=>n⟩
theorem laysM171:Go.Proofs.LaysM.n171 prog laysM171_ren:={
 mixed:=by kernel_rfl
 f129:=func245.trans (congrArg some (by kernel_rfl))
 f171:=func153.trans (congrArg some (by kernel_rfl))
 f243:=func194.trans (congrArg some (by kernel_rfl))
 f246:=func219.trans (congrArg some (by kernel_rfl))
 f283:=func236.trans (congrArg some (by kernel_rfl))
 f284:=func237.trans (congrArg some (by kernel_rfl))
 f285:=func238.trans (congrArg some (by kernel_rfl))
 f286:=func239.trans (congrArg some (by kernel_rfl))
 f317:=func244.trans (congrArg some (by kernel_rfl))
 f318:=func246.trans (congrArg some (by kernel_rfl))
 f319:=func247.trans (congrArg some (by kernel_rfl))
 f320:=func248.trans (congrArg some (by kernel_rfl))
 f337:=func249.trans (congrArg some (by kernel_rfl))
 f338:=func250.trans (congrArg some (by kernel_rfl))
 t0:=underlying0
 a0:=isAgg0
 z0:=sizeOf0
 v0:=zeroValue0
 t2:=underlying2
 a2:=isAgg2
 z2:=sizeOf2
 v2:=zeroValue2
 t3:=underlying3
 a3:=isAgg3
 z3:=sizeOf3
 v3:=zeroValue3
 t4:=underlying4
 a4:=isAgg4
 z4:=sizeOf4
 v4:=zeroValue4
 t5:=underlying5
 a5:=isAgg5
 z5:=sizeOf5
 v5:=zeroValue5
 t9:=underlying9
 a9:=isAgg9
 z9:=sizeOf9
 v9:=zeroValue9
 t20:=underlying20
 a20:=isAgg20
 z20:=sizeOf20
 v20:=zeroValue20
 t37:=underlying123
 a37:=isAgg123
 z37:=sizeOf123
 v37:=zeroValue123
 t46:=underlying249
 a46:=isAgg249
 z46:=sizeOf249
 v46:=zeroValue249
 t51:=underlying262
 a51:=isAgg262
 z51:=sizeOf262
 v51:=zeroValue262
 t53:=underlying272
 a53:=isAgg272
 z53:=sizeOf272
 v53:=zeroValue272
 t171:=underlying278
 a171:=isAgg278
 z171:=sizeOf278
 v171:=zeroValue278
 t173:=underlying281
 a173:=isAgg281
 z173:=sizeOf281
 v173:=zeroValue281
 t212:=underlying291
 a212:=isAgg291
 z212:=sizeOf291
 v212:=zeroValue291
 t213:=underlying292
 a213:=isAgg292
 z213:=sizeOf292
 t232:=underlying295
 a232:=isAgg295
 z232:=sizeOf295
 v232:=zeroValue295
 t233:=underlying296
 a233:=isAgg296
 z233:=sizeOf296
 v233:=zeroValue296
 g17:=by kernel_rfl
 g18:=by kernel_rfl
 g19:=by kernel_rfl
 i0:=by kernel_rfl
 i2:=by kernel_rfl
 i3:=by kernel_rfl
 i4:=by kernel_rfl
 i5:=by kernel_rfl
 i9:=by kernel_rfl
 i20:=by kernel_rfl
 i37:=by kernel_rfl
 i46:=by kernel_rfl
 i51:=by kernel_rfl
 i53:=by kernel_rfl
 i171:=by kernel_rfl
 i173:=by kernel_rfl
 i212:=by kernel_rfl
 i232:=by kernel_rfl
 i233:=by kernel_rfl
 m17:=by kernel_rfl
 m18:=by kernel_rfl
 m19:=by kernel_rfl }
end Go.Proofs

namespace Go.Eng
open Go.Shelf Go.RowKit Go.Proofs
open Tryz
set_option maxHeartbeats 2000000 in
set_option maxRecDepth 100000 in
theorem qE5(b:Nat)(w:World)(h0:w.cell? ⟨b,0,none⟩=some (.pointer (some ⟨b,0,none⟩))) :Calls prog 196 #[.pointer (some ⟨b,0,none⟩)] w fun e w'=>e=.returned (.tuple #[])/\w'=w:=by
 obtain⟨j,hj,_⟩:=qL1.1 (show (prog.info? 210).map (·.size)=some 2 by kernel_rfl)
 go_enter func196,ntmps196
 go_wp2
 rw[Lib.run_neq_ptr_same w ⟨b,0,none⟩ underlying208 hj]
 go_wp2
 go_end0
 exact⟨rfl,rfl⟩
set_option maxHeartbeats 2000000 in
set_option maxRecDepth 100000 in
theorem qzY(b:Nat)(w:World)(h0:w.cell? ⟨b,0,none⟩=some (.pointer none))(hsh:w.shape? b=some (210,2))(hfz:w.frozen? ⟨b,0,none⟩=false) :Calls prog 196 #[.pointer (some ⟨b,0,none⟩)] w fun e w'=>e=.returned (.tuple #[])/\w'=w.setCell ⟨b,0,none⟩ (.pointer (some ⟨b,0,none⟩)):=by
 obtain⟨j,hj,hjs⟩:=qL1.1 (show (prog.info? 210).map (·.size)=some 2 by kernel_rfl)
 go_enter func196,ntmps196
 go_wp2
 rw[Lib.run_to_unsafe w ⟨b,0,none⟩ underlying208 underlying260 hj (by rw[hjs];decide) hsh (Nat.zero_lt_succ 1)];simp only[Result.andThen];rw[Oper.upon_value]
 go_wp2
 rw[run_callFunc_extern func220 (by kernel_rfl) (by kernel_rfl) (by kernel_rfl) (e:=Extern.AbiNoEscape.same) (by kernel_rfl)];rw[Lib.run_noEscape];simp only[Result.andThen];rw[Oper.upon_value]
 go_wp2
 rw[Lib.run_from_unsafe w ⟨b,0,none⟩ underlying260 underlying208 hj hsh (by kernel_rfl)];simp only[Result.andThen];rw[Oper.upon_value]
 go_wp2
 go_end0
 exact⟨rfl,rfl⟩
abbrev BtB(B b:Nat)(bs:List Value)(w:World):Prop:=Lib.IsBuilder 210 5 B b bs w
set_option maxHeartbeats 2000000 in
set_option maxRecDepth 100000 in
theorem quk(B b:Nat)(bs:List Value)(w:World)(h:BtB B b bs w) :Calls prog 196 #[.pointer (some ⟨b,0,none⟩)] w fun e w'=>e=.returned (.tuple #[])/\Lib.BuilderAt 210 5 B b (.pointer (some ⟨b,0,none⟩)) bs w'/\Below B w w':=by
 rcases h with h|h
 ·refine(qzY b w h.cell0 h.shape h.frozen0).mono ?_;rintro e w' ⟨rfl,rfl⟩;exact⟨rfl,h.used _,(Below.refl B w).setCell (p:=⟨b,0,none⟩) h.1 _⟩
 ·refine(qE5 b w h.cell0).mono ?_;rintro e w' ⟨rfl,rfl⟩;exact⟨rfl,h,Below.refl B _⟩
set_option maxHeartbeats 2000000 in
set_option maxRecDepth 100000 in
theorem qDn(B b:Nat)(bs:List Value)(c:Int)(w:World)(h:BtB B b bs w)(hlen:bs.length+1<=140737488355328)(hBw:B<=w.heap.size) :Calls prog 157 #[.pointer (some ⟨b,0,none⟩),.int .u8 c] w fun e w'=>e=.returned .nilIface/\BtB B b (bs++[.int .u8 c]) w'/\Below B w w':=by
 obtain⟨i0,hi,hz0,hz1,hz2⟩:=info_parts (show (prog.info? 5).map (fun i=>(i.zero,i.size,i.bytes))=some (some (.int .u8 0),1,1) by kernel_rfl)
 go_enter func157,ntmps157
 go_wp2_with (go_at_call 196;refine(quk B b bs _ h).mono ?_)
 rintro e w1 ⟨rfl,h1,hb1⟩;obtain⟨hB,v,hbk,hown,hne⟩:=h1;have c0:w1.cell? ⟨b,0,none⟩=some (.pointer (some ⟨b,0,none⟩)):=by rw[Lib.cell_of_heap hbk];rfl
 have c1:w1.cell? ⟨b,1,none⟩=some v:=by rw[Lib.cell_of_heap hbk];rfl
 have hsz1:=hb1.size
 go_wp2_with (at_builtin;refine wpList_append_own _ rfl _ _ 123 rfl B 5 i0 (.int .u8 0) 1 1 underlying123 hi hz0 hz1 hz2 rfl (by decide) _ _ _ rfl (hown.alloc _) ⟨w1.heap.size,0,none⟩ 1 1 [.int .u8 c] rfl rfl ?c1 ?c2 ?c3 ?c4 ?c5 ?_)
 case c1=>
  intro j u hj
  match j,hj with
  | 0,hj=>simp at hj;subst hj;simp[Addr.add]
 case c2=>intro u hu;simp at hu;subst hu;rfl
 case c3=>unfold maxLen;omega
 case c4=>omega
 case c5=>simp;omega
 intro v' w2 hown' hgrow _;have hlt:b<w1.heap.size:=by
  rcases qJl b w1.heap.size with h'|h'
  ·exact h'
  ·simp[Array.getElem?_eq_none h'] at hbk
 have hb2:w2.heap[b]?=some (.cells #[.pointer (some ⟨b,0,none⟩),v] 210 (0,0)):=by rw[hgrow.block b (by simp;omega) (fun e=>hne e.symm),Lib.alloc_old w1 _ b hlt];exact hbk
 have d0:w2.cell? ⟨b,0,none⟩=some (.pointer (some ⟨b,0,none⟩)):=by rw[Lib.cell_of_heap hb2];rfl
 have d1:w2.cell? ⟨b,1,none⟩=some v:=by rw[Lib.cell_of_heap hb2];rfl
 have f1:w2.frozen? ⟨b,1,none⟩=false:=Lib.frozen_of_heap hb2 1;obtain⟨ao,n',cap,rfl⟩:∃ao n' cap,v'=.slice ao n' cap:=by
  rcases hown'.2 with⟨hv,_⟩|⟨g,cap,cur,hv,_⟩
  ·exact⟨_,_,_,hv⟩
  ·exact⟨_,_,_,hv⟩
 go_wp2
 go_ret
 refine⟨rfl,.inr ?_,?_⟩
 ·exact Lib.BuilderAt.put (T:=210) (e:=5) hB hb2 (bs':=bs++[.int .u8 c]) (by simpa using hown') (by decide)
 ·exact((hb1.alloc (by omega) _).grown hgrow (by simp;omega) (fun k hk=>(hown.lt k hk).1)).setCell (p:=⟨b,1,none⟩) hB _
set_option maxHeartbeats 2000000 in
set_option maxRecDepth 100000 in
theorem qBB(B b:Nat)(bs:List Value)(s:ByteArray)(w:World)(h:BtB B b bs w)(hlen:bs.length+s.size<=140737488355328)(hBw:B<=w.heap.size) :Calls prog 158 #[.pointer (some ⟨b,0,none⟩),.string s] w fun e w'=>e=.returned (.tuple #[.int .i64 s.size,.nilIface])/\BtB B b (bs++Lib.strCells s) w'/\Below B w w':=by
 obtain⟨i0,hi,hz0,hz1,hz2⟩:=info_parts (show (prog.info? 5).map (fun i=>(i.zero,i.size,i.bytes))=some (some (.int .u8 0),1,1) by kernel_rfl)
 go_enter func158,ntmps158
 go_wp2_with (go_at_call 196;refine(quk B b bs _ h).mono ?_)
 rintro e w1 ⟨rfl,h1,hb1⟩;obtain⟨hB,v,hbk,hown,hne⟩:=h1;have c0:w1.cell? ⟨b,0,none⟩=some (.pointer (some ⟨b,0,none⟩)):=by rw[Lib.cell_of_heap hbk];rfl
 have c1:w1.cell? ⟨b,1,none⟩=some v:=by rw[Lib.cell_of_heap hbk];rfl
 have hsz1:=hb1.size
 go_wp2_with (at_builtin;refine Lib.wpList_append_own_string _ rfl _ _ 123 9 rfl B 5 i0 underlying123 underlying9 hi hz0 hz1 hz2 _ _ _ rfl hown s rfl ?c3 ?c4 ?c5 ?_)
 case c3=>unfold maxLen;omega
 case c4=>omega
 case c5=>omega
 intro v' w2 hown' hgrow _;have hlt:b<w1.heap.size:=by
  rcases qJl b w1.heap.size with h'|h'
  ·exact h'
  ·simp[Array.getElem?_eq_none h'] at hbk
 have hb2:w2.heap[b]?=some (.cells #[.pointer (some ⟨b,0,none⟩),v] 210 (0,0)):=by rw[hgrow.block b hlt (fun e=>hne e.symm)];exact hbk
 have d0:w2.cell? ⟨b,0,none⟩=some (.pointer (some ⟨b,0,none⟩)):=by rw[Lib.cell_of_heap hb2];rfl
 have d1:w2.cell? ⟨b,1,none⟩=some v:=by rw[Lib.cell_of_heap hb2];rfl
 have f1:w2.frozen? ⟨b,1,none⟩=false:=Lib.frozen_of_heap hb2 1;obtain⟨ao,n',cap,rfl⟩:∃ao n' cap,v'=.slice ao n' cap:=by
  rcases hown'.2 with⟨hv,_⟩|⟨g,cap,cur,hv,_⟩
  ·exact⟨_,_,_,hv⟩
  ·exact⟨_,_,_,hv⟩
 go_wp2
 go_ret2
 refine⟨rfl,.inr ?_,?_⟩
 ·exact Lib.BuilderAt.put (T:=210) (e:=5) hB hb2 (bs':=bs++Lib.strCells s) (by simpa[Lib.strCells_length] using hown') (by decide)
 ·exact(hb1.grown hgrow (by omega) (fun k hk=>(hown.lt k hk).1)).setCell (p:=⟨b,1,none⟩) hB _
theorem qAs:Builder.Extra prog lays169_ren where
 sizeBuilder:=by kernel_rfl
 liesBuilder:=by kernel_rfl
 t5:=underlying5
 a5:=isAgg5
 z5:=sizeOf5
 v5:=zeroValue5
 infoByte:=by kernel_rfl
 cellsByte:=by kernel_rfl
 sizeByte:=by kernel_rfl
 neB5:=by decide
set_option maxHeartbeats 2000000 in
set_option maxRecDepth 100000 in
theorem qzp(B b:Nat)(l:qJb)(w:World)(h:BtB B b (Lib.byteCells l) w)(h0:l≠[]) :Calls prog 159 #[.pointer (some ⟨b,0,none⟩)] w fun e w'=>e=.returned (.string ⟨l.toArray⟩)/\Below B w w':=Any.Builder_String lays169 qAs B b l w h h0
def qjY(f:Nat->Int):Nat->List UInt8
 | 0=>[]
 | i+1=>qzT (Lib.itoa (f i))++qjY f i
def qxl(b:Bool)(n:Nat)(f:Nat->Int):List UInt8:=if n=0 then [48] else (if b then [45] else [])++Lib.itoa (f (n-1))++qjY f (n-1)
theorem qxT (n:Int)(h:-9223372036854775808<=n/\n<=9223372036854775807)(w:World)(ht:Lib.TabIs prog w "internal/strconv.uint64pow10" .u64 Lib.pow10Tab) :Calls prog 153 #[.int .i64 n] w fun e w'=>e=.returned (.string ⟨(Lib.itoa n).toArray⟩)/\Below w.heap.size w w':=(Any.strconv_Itoa laysM171 n h.1 h.2 w ht).mono fun e w' ⟨h1,k,os,h2⟩=>⟨h1,by subst h2;exact qmA _ _ _⟩
theorem qnK{P:Program}{w w':World}{name:String}{k:IntKind}{zs:List Int}(h:Lib.TabIs P w name k zs)(hb:Below w.heap.size w w'):Lib.TabIs P w' name k zs:=by
 unfold Lib.TabIs World.var? at *;cases hg:P.globalNamed name with
 | none=>rw[hg] at h;cases h
 | some g=>
  rw[hg] at h;simp only[qJH] at h ⊢;by_cases hlt:g<w.heap.size
  ·rw[hb.block g hlt];exact h
  ·rw[Array.getElem?_eq_none (by omega)] at h;cases h
theorem qhc{w w':World}(hb:Below w.heap.size w w'){n:Nat}(hn:n<w.heap.size)(o:Nat):w'.cell? ⟨n,o,none⟩=w.cell? ⟨n,o,none⟩:=qKf (hb.block n hn)
theorem quz{B b:Nat}{bs:List Value}{w w':World}(h:BtB B b bs w)(hb:Below w.heap.size w w'):BtB B b bs w':=by
 have key:∀p,Lib.BuilderAt 210 5 B b p bs w->Lib.BuilderAt 210 5 B b p bs w':=by
  intro p h;have hlt:=h.lt;obtain⟨hB,v,hbk,⟨hl,hown⟩,hne⟩:=h;refine⟨hB,v,(hb.block b hlt).trans hbk,⟨hl,?_⟩,hne⟩;rcases hown with h|⟨g,cap,cur,h1,h2,h3,h4⟩
  ·exact .inl h
  ·exact .inr ⟨g,cap,cur,h1,h2,(hb.block g (qJj.1 h3).1).trans h3,h4⟩
 exact h.elim (fun x=>.inl (key _ x)) (fun x=>.inr (key _ x))
theorem qDP{B b:Nat}{bs:List Value}{w:World}(h:BtB B b bs w):BtB B b bs w.drew:=h.elim (fun x=>.inl x.drew) (fun x=>.inr x.drew)
theorem qC7:∀(k n:Nat),n<10^(k+1)->(Lib.decDigits n).length<=k+1
 | 0,n,h=>by rw[Lib.decDigits,dif_pos (by omega)];simp
 | k+1,n,h=>by
  rw[Lib.decDigits];split
  ·simp
  ·have:=qC7 k (n/10) (by rw[qKN] at h;omega);simp;omega
theorem qCX{pre l:qJb}{k:Nat}(hp:pre.length<=k)(hl:l.length<=9)(hk:k<=100000:=by omega):(Lib.byteCells pre).length+(⟨l.toArray⟩:ByteArray).size<=140737488355328:=by
 rw[Lib.byteCells_length];have:(⟨l.toArray⟩:ByteArray).size=l.length:=by simp[ByteArray.size]
 omega
theorem qxJ{x:Int}(h:0<=x/\x<1000000000):(Lib.itoa x).length<=9:=by unfold Lib.itoa;rw[if_neg (by omega)];exact qC7 8 _ (by omega)
theorem qxH{l:qJb}(h:l.length<=9):(qzT l).length=9:=by unfold qzT qdK qfy qB;simp;omega
theorem qBo{l:qJb}(h:l.length<=9):(⟨#[48,48,48,48,48,48,48,48,48]⟩:ByteArray).extract l.length 9++⟨l.toArray⟩=⟨(qzT l).toArray⟩:=by
 have key:∀k:Nat,k<=9->(⟨#[48,48,48,48,48,48,48,48,48]⟩:ByteArray).extract k 9=⟨(qfy [48,48,48,48,48,48,48,48,48] (k:Int) 9).toArray⟩:=by
  intro k hk;have:k=0\/k=1\/k=2\/k=3\/k=4\/k=5\/k=6\/k=7\/k=8\/k=9:=by omega
  rcases this with rfl|rfl|rfl|rfl|rfl|rfl|rfl|rfl|rfl|rfl<;>rfl
 rw[key _ h];unfold qzT qdK qB;apply ByteArray.ext;simp
theorem qA9(l:qJb):Lib.strCells ⟨l.toArray⟩=Lib.byteCells l:=rfl
theorem qCQ(x:Int):0<(Lib.itoa x).length:=by
 unfold Lib.itoa;split
 ·simp
 ·rw[Lib.decDigits];split<;>simp
set_option maxHeartbeats 4000000 in
set_option maxRecDepth 1000000 in
theorem qCJ(n0:Nat)(b:Bool)(n:Nat)(f:Nat->Int)(w:World)(hlt:n0<w.heap.size)(h0:w.cell? ⟨n0,0,none⟩=some (.bool b))(h1:w.cell? ⟨n0,1,none⟩=some (.int .i64 (n:Int)))(hw:∀i,i<232->w.cell? ⟨n0,2+i,none⟩=some (.int .i64 (f i)))(hn:n<=232) (hf:∀i,i<n->0<=f i/\f i<1000000000) (ht:Lib.TabIs prog w "internal/strconv.uint64pow10" .u64 Lib.pow10Tab) :Calls prog 112 #[.pointer (some ⟨n0,0,none⟩)] w fun e w'=>e=.returned (.string ⟨(qxl b n f).toArray⟩)/\Below w.heap.size w w':=by
 rcases qKj n with rfl|hpos
 ·go_enter func112,ntmps112
  go_wp2
  go_ret
  exact⟨rfl,Below.refl _ _⟩
 obtain⟨m,rfl⟩:∃m,n=m+1:=⟨n-1,by omega⟩;have hne:(((m+1:Nat):Int)==0)=false:=by simp;omega
 have w1:IntKind.i64.wrap (((m+1:Nat):Int)-1)=(m:Int):=by unfold IntKind.wrap;simp[IntKind.signed,IntKind.bits];omega
 have w1':IntKind.i64.wrap (m:Int)=(m:Int):=by unfold IntKind.wrap;simp[IntKind.signed,IntKind.bits];omega
 have hi:0<=(m:Int)/\(m:Int)<232:=by omega
 have hwm:=hw m (by omega);have w2:IntKind.i64.wrap (((m+1:Nat):Int)-2)=(m:Int)-1:=by unfold IntKind.wrap;simp[IntKind.signed,IntKind.bits];omega
 have hitm:=qxJ (hf m (by omega));cases b
 case' false=>
  go_enter func112,ntmps112
  go_wp2
  have hB0:=Lib.fresh_isBuilder 210 5 w;have hb0:=(Below.refl w.heap.size w).alloc (qJe _) (.cells #[.pointer none,.slice none 0 0] 210);generalize w.alloc (.cells #[.pointer none,.slice none 0 0] 210)=W0 at *;obtain⟨pre,hpre⟩:∃pre:List UInt8,pre=if false=true then [45] else []:=⟨_,rfl⟩
  replace hB0:BtB w.heap.size w.heap.size (Lib.byteCells pre) W0:=by subst hpre;exact hB0
 case' true=>
  go_enter func112,ntmps112
  go_wp2_with (go_at_call 157;refine(qDn w.heap.size w.heap.size [] 45 _ (Lib.fresh_isBuilder 210 5 w) (by simp) (by simp)).mono ?_)
  rintro e W0 ⟨rfl,hB0,hb0⟩;replace hb0:=((Below.refl w.heap.size w).alloc (qJe _) (.cells #[.pointer none,.slice none 0 0] 210)).trans hb0;obtain⟨pre,hpre⟩:∃pre:List UInt8,pre=if true=true then [45] else []:=⟨_,rfl⟩
  replace hB0:BtB w.heap.size w.heap.size (Lib.byteCells pre) W0:=by subst hpre;exact hB0
  go_wp2
 all_goals
  have hp1:pre.length<=1:=by subst hpre;split<;>simp
  have hs0:=hb0.size;have d1:=(qhc hb0 hlt 1).trans h1;have dm:=(qhc hb0 hlt (2+m)).trans hwm
  go_region_with (first
   | (go_at_call 153;refine(qxT (f m) (by have:=hf m (by omega);omega) _ (qnK ht hb0.drew)).mono ?_;rintro e W1 ⟨rfl,b1⟩)
   | (go_at_call 158;refine(qBB w.heap.size w.heap.size _ _ _ (quz (qDP hB0) b1) (qCX hp1 hitm) (qJg hs0 b1.size)).mono ?_;rintro e W2 ⟨rfl,hB2,b2⟩))
  have b02:Below w.heap.size w W2:=(hb0.drew.trans (b1.mono hs0)).trans b2;have e1:=(qhc b02 hlt 1).trans h1;replace hB2:BtB w.heap.size w.heap.size (Lib.byteCells (pre++Lib.itoa (f m))) W2:=by rw[Lib.byteCells_append];exact hB2
  go_wp2
  go_loopw [4] (fun vi wr=>∃(k:Nat) (acc:qJb),vi=.int .i64 ((k:Int)-1)/\k<=m/\BtB w.heap.size w.heap.size (Lib.byteCells acc) wr/\Below w.heap.size w wr/\acc++qjY f k=pre++Lib.itoa (f m)++qjY f m/\acc.length<=10+9*(m-k)) (fun vi _=>(intOf vi+1).toNat)
  case atStart=>exact⟨m,_,by congr 1<;>omega,qJe _,hB2,b02,rfl,by simp;omega⟩
  case round=>
   obtain⟨k,acc,rfl,hkm,hI,hbw,hacc,hal⟩:=hrel;have hbs:=hbw.size;rcases qKj k with rfl|hk0
   ·go_wp2_with (go_at_call 159;refine(qzp w.heap.size w.heap.size acc _ hI ?hne).mono ?_)
    case hne=>intro h0;subst h0;have:=congrArg List.length hacc;have h9:=qCQ (f m);simp[qjY] at this;omega
    rintro e W3 ⟨rfl,b3⟩
    go_wp2
    go_ret
    refine⟨?_,hbw.trans b3⟩;simp only[qjY,qKl] at hacc;rw[hacc,hpre];simp[qxl]
   ·obtain⟨q,rfl⟩:∃q,k=q+1:=⟨k-1,by omega⟩;have x1:(((q+1:Nat):Int)-1)=(q:Int):=by omega
    have x2:(0:Int)<=(q:Int)/\(q:Int)<232:=by omega
    have x3:(q:Int).toNat=q:=qJq q;have dq:=(qhc hbw hlt (2+q)).trans (hw q (by omega));have hq9:=qxJ (hf q (by omega));rw[x1]
    go_wp2_with (go_at_call 153;refine(qxT (f q) (by have:=hf q (by omega);omega) _ (qnK ht hbw)).mono ?_)
    rintro e W3 ⟨rfl,b3⟩;clear w1 w1' w2 hi hwm hne h1 hf hw ht;have hl9:((⟨(Lib.itoa (f q)).toArray⟩:ByteArray).size:Int)<=9:=by simp[ByteArray.size];omega
    go_wp2_with (go_at_call 158;refine(qBB w.heap.size w.heap.size (Lib.byteCells acc) _ _ (quz hI b3) ?hl (qJg hbs b3.size)).mono ?_)
    case hl=>rw[qBo hq9,Lib.byteCells_length];have:=qxH hq9;simp[ByteArray.size];omega
    rintro e W4 ⟨rfl,hB4,b4⟩;rw[qBo hq9,qA9,<-Lib.byteCells_append] at hB4
    go_wp2
    go_roundw
    case rel=>
     refine⟨q,_,by congr 1<;>omega,by omega,hB4,(hbw.trans (b3.mono hbs)).trans b4,?_,?_⟩
     ·rw[<-hacc];simp[qjY]
     ·have:=qxH hq9;simp;omega
    case measure=>simp[intOf]
theorem qx1(w:R):∀i,qjL w i=qjY (fun i=>cI w i 0) i
 | 0=>rfl
 | i+1=>by unfold qjL qjY;rw[qx1 w i]
theorem qCy(b:Bool)(n:Nat)(w:R):qBG b (n:Int) w=qxl b n (fun i=>cI w i 0):=by
 unfold qBG qxl;by_cases h:n=0
 ·subst h;rfl
 ·rw[if_neg (by omega),if_neg h,qx1];have e:((n:Int)-1)=((n-1:Nat):Int):=by omega
  rw[e,qJq]
theorem qBk{ps:List PV}(h:ps.map PV.kind=[.b,.i,.r]):∃b n w,ps=[.b b,.i n,.r w]:=by
 match ps,h with
 | [.b b,.i n,.r w],_=>exact⟨b,n,w,rfl⟩
theorem qyz{gl:List (Nat×AV)}(hg:(5,AV.eptr (Lib.pow10Tab.map fun _=>.int .u64) qEC 0 0)∈gl) :qT prog gl 112 (q9 { args:=[.ptr 0 0],h:=[.big [.bool,.int .i64] .i64 232] } [{ res:=.str,h:=[.big [.bool,.int .i64] .i64 232] }] qzy):=
 qhr (ut func112 (by kernel_rfl) (by kernel_rfl)) rfl fun B X ps j qs vargs hs hgl hh ha hk hT=>by
  obtain⟨b,n,r,rfl⟩:=qBk hk;simp only[qzy] at hT;split at hT
  ·rename_i hc;cases hT;unfold qs7 at hc;simp only[qJx,decide_eq_true_eq,qJL,qKu] at hc;obtain⟨⟨c1,c2⟩,c3⟩:=hc;obtain⟨m,rfl⟩:∃m:Nat,n=(m:Int):=⟨n.toNat,by omega⟩;have hb0:X.h[0]?=some (.big [.bool b,.int .i64 (m:Int)] .i64 232 r):=by rw[hh];rfl
   obtain⟨n0,c,T,vs,hσ,hheap,hrep,hcl,hrl⟩:=hs.blk 0 _ hb0;have hvs:vs=[.bool b,.int .i64 (m:Int)]:=by
    cases hrep with
    | cons h t=>cases h;rw[qwT t]
   subst hvs;have hva:vargs=[.pointer (some ⟨n0,0,none⟩)]:=by
    cases ha with
    | cons h t=>
     cases t;cases h with
     | ptr _ _ n1 hb hσ2=>
      have:n1=n0:=qJX (hσ2.symm.trans hσ);rw[this]
   subst hva;have hlt:n0<X.w.heap.size:=(qJj.1 hheap).1;have hcell:∀o,X.w.cell? ⟨n0,o,none⟩=c[o]?:=fun o=>by unfold World.cell?;simp only[hheap];rfl
   have g0:X.w.cell? ⟨n0,0,none⟩=some (.bool b):=by rw[hcell,<-qLn,hcl];rfl
   have g1:X.w.cell? ⟨n0,1,none⟩=some (.int .i64 (m:Int)):=by rw[hcell,<-qLn,hcl];rfl
   have gw:∀i,i<232->X.w.cell? ⟨n0,2+i,none⟩=some (.int .i64 (cI r (i:Int) 0)):=fun i hi=>by rw[hcell];exact qrJ (vs:=[.bool b,.int .i64 (m:Int)]) hcl (by omega)
   refine⟨rfl,rfl,rfl,?_⟩;have hT:=qpg (k:=.u64) (zs:=Lib.pow10Tab) (show prog.globalNamed "internal/strconv.uint64pow10" = some 5 by kernel_rfl) (by decide) (hgl _ hg).2;refine(qCJ n0 b m (fun i=>cI r (i:Int) 0) X.w hlt g0 g1 gw (by omega) (fun i hi=>c3 i (by omega)) hT).mono fun e w' ⟨k1,k2⟩=>⟨_,k1,k2,?_⟩;rw[<-qCy];exact .str _
  ·cases hT
end Go.Eng

namespace Go.Eng
open Go.Shelf Go.RowKit Go.Lib Go.Proofs
def qx6:FIn:=⟨[(.imm [(.int .i64)])],[]⟩
def qu8(e:TypeId):List FOut:=[⟨(.vec 0),[.vec e [(.int .i64)]],none⟩]
def qCt:List PV->TR
 | [.r x]=>.br (ile (qk x) 17592186044416) (.leaf (0,[.r x])) .fail
 | _=>.fail
theorem qzh{args:List AV}{h:List Blk}{ps:List PV}(hp:qx6.take args h=some ps):∃l,(args=[.imm [.int .i64] l]\/(args=[.nils]/\l=[]))/\h=[]/\ps=[.r l]:=by
 unfold FIn.take qx6 at hp;obtain⟨x,y,g1,g2,rfl⟩:=q0l hp;have hh:h=[]/\y=[]:=by
  cases h with
  | nil=>simp only[BP.takeL] at g2;cases g2;exact⟨rfl,rfl⟩
  | cons b t=>simp only[BP.takeL] at g2;cases g2
 obtain⟨rfl,rfl⟩:=hh;cases args with
 | nil=>simp only[AP.takeL] at g1;cases g1
 | cons a t=>
  simp only[AP.takeL] at g1;obtain⟨x1,x2,q1,q2,rfl⟩:=q0l g1;cases t with
  | cons b t=>simp only[AP.takeL] at q2;cases q2
  | nil=>
   simp only[AP.takeL] at q2;cases q2;cases a with
   | imm sh l=>
    simp only[AP.take] at q1;split at q1
    ·rename_i he;cases q1;obtain rfl:=Sh.beqL_eq _ _ he;exact⟨l,.inl rfl,rfl,rfl⟩
    ·cases q1
   | nils=>
    simp only[AP.take] at q1;cases q1;exact⟨[],.inr ⟨rfl,rfl⟩,rfl,rfl⟩
   | _=>exact absurd q1 (by simp[AP.take])
theorem qqV(e:TypeId){T:List PV->TR}{x y:R}(h:(T [.r x]).run=some (0,[.r y])){r:AV×List Blk}:(qB2 (T [.r x]) (qu8 e) 0).run=some r↔r=(.vec 0,[.vec e [.int .i64] y]):=by
 have h1:(qB2 (T [.r x]) (qu8 e) 0).run=some ((.vec 0,[.vec e [.int .i64] (gR (T [.r x]) 0)]):AV×List Blk):=rfl;have h2:gR (T [.r x]) 0=y:=by unfold gR pR;rw[h];rfl
 rw[h1,h2];constructor
 ·intro q;cases q;rfl
 ·intro q;rw[q]
theorem qyR{P:Program}{ρ:Ren}(L:SlLaysN.n41 P ρ){gl:List (Nat×AV)}{T:List PV->TR}(h0:qT P gl (ρ.f 41) (q9 qx6 (qu8 (ρ.t 23)) T))(hT:∀x,0<qk x->qk x<=17592186044416->(T [.r x]).run=some (0,[.r x])):qT P gl (ρ.f 41) (q9 qx6 (qu8 (ρ.t 23)) qCt):=by
 refine⟨h0.1,fun B X args vargs r hs hen hgl ha hr=>?_⟩;obtain⟨ps,j,qs,h1,h2,h3⟩:=qjS hr;obtain⟨l,hargs,hX,rfl⟩:=qzh h1;have h2':Tree.run (Tree.br (ile (qk l) 17592186044416) (.leaf ((0,[PV.r l]):Nat×List PV)) .fail)=some (j,qs):=h2;have g1:ile (qk l) 17592186044416=true:=by
  cases hb:ile (qk l) 17592186044416 with
  | true=>rfl
  | false=>rw[hb] at h2';cases h2'
 have hle:qk l<=17592186044416:=of_decide_eq_true g1;have hrr:=(qqV (ρ.t 23) (T:=qCt) (x:=l) (y:=l) (by show Tree.run (.br (ile (qk l) 17592186044416) (.leaf (0,[PV.r l])) .fail)=_;rw[show ile (qk l) 17592186044416=true from g1];rfl)).1 h3;by_cases hpos:0<qk l
 ·refine h0.2 B X _ vargs r hs hen hgl ha ?_;have hrun:=hT l hpos hle;have hok:okR (T [.r l])=true:=by unfold okR;rw[hrun];rfl
  unfold q9;rw[h1];show Tree.run (.br (okR (T [.r l])) (qB2 (T [.r l]) (qu8 (ρ.t 23)) 0) .fail)=_;rw[hok];exact(qqV (ρ.t 23) hrun).2 hrr
 ·have hl:l=[]:=qKY (by unfold qk at hpos;omega);subst hl;subst hrr;have hv:∃v,vargs=[v]/\qdO X.w X.M [.int .i64] [] v:=by
   rcases hargs with rfl|⟨rfl,_⟩
   ·cases ha with
    | cons hv ht=>
     cases ht;cases hv with
     | imm _ _ v himm=>exact⟨_,rfl,himm⟩
   ·cases ha with
    | cons hv ht=>
     cases ht;cases hv;exact⟨_,rfl,.inl ⟨rfl,rfl⟩⟩
  obtain⟨v,rfl,himm⟩:=hv
  ·rcases himm with⟨rfl,_⟩|⟨a,cap,rfl,_⟩
   ·refine(AnyG.slices_Clone_int_nil L 0 0 X.w).mono fun x w' ⟨e1,e2⟩=>?_;subst e2;have hpw:=PushW.same X;refine⟨.slice none 0 0,X.pushW (.vec (ρ.t 23) [.int .i64] []) none X.w,e1,rfl,?_,by show X.h++_=_;rw[hX];rfl,hs.push hpw (.inl ⟨by simp[Ctx.pushW],rfl⟩),rfl⟩;have e0:(0:Nat)=X.h.length:=by rw[hX];rfl
    show Rep _ (.vec 0) _;rw[e0];exact .vec _ _ _ _ (by simp[Ctx.pushW]) fun sh' m' _=>by unfold qtd;simp[Ctx.pushW,hX]
   ·refine(AnyG.slices_Clone_int_zero L a cap X.w).mono fun x w' ⟨v,e1,e2,e3,e4⟩=>?_;rcases e2.2 with⟨q,_⟩|⟨g,c2,cur,q1,q2,q3,q4,q5,q6,q7⟩
    ·exact absurd q e3
    ·have hpw:PushW X (some g) w':=⟨fun m hm=>e4.block m hm,e4.size,e4.os,e4.tape,e4.output,fun m h=>by cases h;exact q2⟩;have hk:jw (X.pushW (.vec (ρ.t 23) [.int .i64] []) (some g) w') X.h.length (.vec (ρ.t 23) [.int .i64] []):=
      .inr ⟨g,cur,by simp[Ctx.pushW],q3,fun r j hj hr=>absurd hr (qLf r)⟩
     refine⟨v,X.pushW (.vec (ρ.t 23) [.int .i64] []) (some g) w',e1,rfl,?_,by show X.h++_=_;rw[hX];rfl,hs.push hpw hk,rfl⟩;have e0:(0:Nat)=X.h.length:=by rw[hX];rfl
     show Rep _ (.vec 0) _;rw[e0,q1];exact qo9 (l:=[]) (qKL _) q5 q3 (by rw[q6];rfl)
theorem qD5{T:List PV->TR}(h:∀x:R,T [.r x]=.br (ilt 0 (qk x)) (.br (ile ((qk [])+(qk x)) 17592186044416) (.leaf (0,[(.r (uV [] x))])) .fail) .fail)(x:R)(h1:0<qk x)(h2:qk x<=17592186044416) :(T [.r x]).run=some (0,[.r x]):=by have e1:ilt 0 (qk x)=true:=decide_eq_true h1;have e2:ile ((qk [])+(qk x)) 17592186044416=true:=decide_eq_true (by have:qk ([]:R)=0:=rfl;rw[this,Int.zero_add];exact h2);rw[h,e1,e2];rfl
end Go.Eng

namespace Go.Eng
open Go.RowKit
variable {P:Program}{a:Act}{o:Oper}{v:Value}{w:World}{w':World}
theorem qBN {K:Act->World->Prop}{Q:Exit->Act->World->Prop}{E:Prop}(hg:o.guard=none){y:Nat->Option Bool}(h:Oper.wp P o a w K Q) :if Region.wanted o y=true then Oper.wp P o a w K Q else E:=by
 have hw:Region.wanted o y=true:=by simp[Region.wanted,hg]
 rw[if_pos hw];exact h
theorem qpq {ops:Array Oper}{K:Act->World->Prop}{Q:Exit->Act->World->Prop}{E:Prop}(hg:o.guard=none) (s x:Operand) (t:TypeId) (ho:o.op=.call { callee:=.builtin .append,args:=#[s,x],argTypes:=#[t,t] })(base:Nat) (e:TypeId) (i:TypeInfo) (z:Value) (size bytes:Nat) (ht:P.underlying t=some (.slice e)) (hi:P.info? e=some i) (hz:i.zero=some z)(hsize:i.size=size) (hby:i.bytes=bytes) (hzs:z.cells.size=size) (hsz:0<size)(v:Value) (n:Nat) (xs:List Value) (hs:a.eval s=v) (hown:w.ownsRow base e size v n xs)(ad:Addr) (m c:Nat) (news:List Value) (hx:a.eval x=.slice (some ad) m c) (hl:news.length=m*size) (hnews:∀j u,news[j]?=some u->w.cell? (ad.add j)=some u) (h1:∀u∈news,u.oneCell'=true)(h63:n+m<=maxLen) (hbytes:(n+m)*bytes<=140737488355328) (hbase:base<=w.heap.size)(h:∀v' w',w'.ownsRow base e size v' (n+m) (xs++news)->w.grownBy w' v.ownBlock->(v'=.slice none 0 0↔v=.slice none 0 0/\m=0)->K (a.put o.dst v') w') :if Region.wanted o (yielded ops a.tmps)=true then Oper.wp P o a w K Q else E:=by
 have hw:Region.wanted o (yielded ops a.tmps)=true:=by simp[Region.wanted,hg]
 rw[if_pos hw];exact wp_append_own w s x t ho base e i z size bytes ht hi hz hsize hby hzs hsz v n xs hs hown ad m c news hx hl hnews h1 h63 hbytes hbase h
theorem qxK {K:Act->World->Prop}{Q:Exit->Act->World->Prop}(f:FuncId)(caps:Array Value)(hen:qbt P f)(x:Operand)(az:Array Operand)(ts:Array TypeId)(ho:o.op=.call { callee:=.value x,args:=az,argTypes:=ts }) (hx:a.eval x=.func (.func f) #[] caps) (args:Array Value) (has:az.map a.eval++caps=args) {R:Ending->World->Prop} (hc:Calls P f args w R)(h:∀e w',R e w'->∃v,e=.returned v/\K (a.put o.dst v) w'):Oper.wp P o a w K Q:=by
 have hr:(execOp a.eval o).run P w=.ok (.enter f args) w:=by subst has;unfold execOp;simp only[ho,resolve,Deferred.ofValue,invoke,qJh,qJN,qJn,hx,Array.empty_append];exact hen _ _
 unfold Oper.wp;rw[hr,Oper.upon_enter];exact hc.mono fun e w' hR=>by obtain⟨v,rfl,hK⟩:=h e w' hR;exact hK
theorem qzO {ops:Array Oper}{K:Act->World->Prop}{Q:Exit->Act->World->Prop}{E:Prop}(hg:o.guard=none)(f:FuncId)(caps:Array Value)(hen:qbt P f)(x:Operand)(az:Array Operand)(ts:Array TypeId)(ho:o.op=.call { callee:=.value x,args:=az,argTypes:=ts }) (hx:a.eval x=.func (.func f) #[] caps) (args:Array Value) (has:az.map a.eval++caps=args) {R:Ending->World->Prop} (hc:Calls P f args w R)(h:∀e w',R e w'->∃v,e=.returned v/\K (a.put o.dst v) w'):if Region.wanted o (yielded ops a.tmps)=true then Oper.wp P o a w K Q else E:=by
 have hw:Region.wanted o (yielded ops a.tmps)=true:=by simp[Region.wanted,hg]
 rw[if_pos hw];exact qxK f caps hen x az ts ho hx args has hc h
theorem qA7 {ad:Addr}{u:Value}(h:w'.cell? ad=some u):∀(j:Nat) (v:Value),[u][j]?=some v->w'.cell? (ad.add j)=some v:=by
 intro j v hj
 match j,hj with
 | 0,hj=>simp at hj;subst hj;simpa[Addr.add] using h
theorem qs6 (w:World)(u:Value)(e:TypeId):(w.alloc (.cells #[u] e)).cell? ⟨w.heap.size,0,none⟩=some u:=by rw[cell_of_row (w.alloc (.cells #[u] e)) w.heap.size 0 #[u] e (0,0) (heap_alloc_new w _)];rfl
theorem q6w {B:Nat}{e:TypeId}{z n:Nat}{xs:List Value}(h:w.ownsRow B e z v n xs):∃ao n' cap,v=.slice ao n' cap:=by
 rcases h.2 with⟨hv,_⟩|⟨g,cap,cur,hv,_⟩
 ·exact⟨_,_,_,hv⟩
 ·exact⟨_,_,_,hv⟩
theorem qxR {l:List Bs}:∀u∈l.map q0j,u.oneCell'=true:=fun u hu=>by obtain⟨x,_,rfl⟩:=qK1.1 hu;rfl
structure MSt (B m q:Nat) (tM tE:TypeId) (w0 w:World) (r c:Nat) (v:Value) (xs:List Bs):Prop where
 bm:B<=m
 st:w.heap[m]?=some (.cells #[qjQ r,qjQ c,v] tM (0,0))
 res:w.heap[q]?=some (.cells #[qjQ 0,qjQ 0,.slice none 0 0] tM (0,0))
 mq:m≠q
 own:w.ownsRow B tE 1 v xs.length (xs.map q0j)
 ne:tM≠tE
 below:Below B w0 w
section
variable {B m q:Nat} {tM tE:TypeId} {w0 w:World} {r c:Nat} {v:Value} {xs:List Bs}
theorem MSt.lt (h:MSt B m q tM tE w0 w r c v xs):m<w.heap.size:=(qJj.1 h.st).1
theorem MSt.cell (h:MSt B m q tM tE w0 w r c v xs):w.cell? ⟨m,0,none⟩=some (qjQ r)/\w.cell? ⟨m,1,none⟩=some (qjQ c)/\w.cell? ⟨m,2,none⟩=some v:=by refine⟨?_,?_,?_⟩<;>rw[cell_of_row w m _ _ tM (0,0) h.st]<;>rfl
theorem MSt.cellq (h:MSt B m q tM tE w0 w r c v xs):w.cell? ⟨q,0,none⟩=some (qjQ 0)/\w.cell? ⟨q,1,none⟩=some (qjQ 0)/\w.cell? ⟨q,2,none⟩=some (.slice none 0 0):=by refine⟨?_,?_,?_⟩<;>rw[cell_of_row w q _ _ tM (0,0) h.res]<;>rfl
theorem MSt.free (h:MSt B m q tM tE w0 w r c v xs)(o:Nat):w.frozen? ⟨m,o,none⟩=false:=frozen_of_row w m o _ tM h.st
theorem MSt.freeq (h:MSt B m q tM tE w0 w r c v xs)(o:Nat):w.frozen? ⟨q,o,none⟩=false:=frozen_of_row w q o _ tM h.res
theorem MSt.grow (h:MSt B m q tM tE w0 w r c v xs)(hb:Below w.heap.size w w')(hB:B<=w.heap.size):MSt B m q tM tE w0 w' r c v xs:=⟨h.bm,by rw[hb.block m h.lt];exact h.st,by rw[hb.block q (qJj.1 h.res).1];exact h.res,h.mq,q11 h.own hb,h.ne,h.below.trans (hb.mono hB)⟩
theorem MSt.hB (h:MSt B m q tM tE w0 w r c v xs)(h0:B<=w0.heap.size):B<=w.heap.size:=qJg h0 h.below.size
theorem MSt.keep (h:MSt B m q tM tE w0 w r c v xs)(hg:w.grownBy w' v.ownBlock):w'.heap[m]?=some (.cells #[qjQ r,qjQ c,v] tM (0,0))/\w'.heap[q]?=some (.cells #[qjQ 0,qjQ 0,.slice none 0 0] tM (0,0)):=by
 have key:∀(b:Nat) (cs:Array Value),w.heap[b]?=some (Obj.cells cs tM (0,0))->w'.heap[b]?=some (Obj.cells cs tM (0,0)):=fun b cs hb=>by rw[hg.block b (qJj.1 hb).1 (fun hv=>by obtain⟨c2,hc2⟩:=zx h.own hv.symm;exact qb4 hb hc2 h.ne rfl)];exact hb
 exact⟨key _ _ h.st,key _ _ h.res⟩
theorem MSt.keepCell (h:MSt B m q tM tE w0 w r c v xs)(hg:w.grownBy w' v.ownBlock):w'.cell? ⟨m,2,none⟩=some v/\w'.frozen? ⟨m,2,none⟩=false:=⟨by rw[cell_of_row w' m _ _ tM (0,0) (h.keep hg).1];rfl,frozen_of_row w' m _ _ tM (h.keep hg).1⟩
theorem MSt.app (h:MSt B m q tM tE w0 w r c v xs){v':Value}{ys:List Bs}(hg:w.grownBy w' v.ownBlock)(hB:B<=w.heap.size)(ho:w'.ownsRow B tE 1 v' ys.length (ys.map q0j)) :MSt B m q tM tE w0 (w'.setCell ⟨m,2,none⟩ v') r c v' ys:=by obtain⟨hm,hq⟩:=h.keep hg;refine⟨h.bm,by rw[heap_setCell_same w' m 2 _ tM _ hm];rfl,by rw[heap_setCell_other w' ⟨m,2,none⟩ q _ h.mq.symm];exact hq,h.mq,qJ ho (fun hv=>?_) _,h.ne,(h.below.grown hg hB (fun k hk=>(h.own.lt k hk).1)).setCell h.bm v'⟩;obtain⟨c1,hc1⟩:=zx ho hv;exact qb4 hm hc1 h.ne rfl
end
theorem MSt.fin {B m q:Nat}{tM tE:TypeId}{w0 w:World}{r c:Nat}{xs:List Bs}(h:MSt B m q tM tE w0 w r c v xs)(hq:B<=q)(x y z:Value) :Below B w0 (((w.setCell ⟨q,0,none⟩ x).setCell ⟨q,1,none⟩ y).setCell ⟨q,2,none⟩ z)/\(((w.setCell ⟨q,0,none⟩ x).setCell ⟨q,1,none⟩ y).setCell ⟨q,2,none⟩ z).ownsRow B tE 1 v xs.length (xs.map q0j):=by
 have hn:v.ownBlock≠some q:=fun hv=>by obtain⟨c1,hc1⟩:=zx h.own hv;exact qb4 h.res hc1 h.ne rfl
 exact⟨((h.below.setCell hq x).setCell hq y).setCell hq z,qJ (qJ (qJ h.own hn x) hn y) hn z⟩
theorem ju (w:World)(o:Obj):(w.alloc o).heap.size=w.heap.size+1:=by show (w.heap.push o).size=_;rw[Array.size_push]
theorem qhO (w:World)(o o':Obj):((w.alloc o).alloc o').heap[w.heap.size]?=some o:=by show ((w.alloc o).heap.push o')[w.heap.size]?=_;rw[Array.getElem?_push_lt (by rw[ju];omega)];have:=heap_alloc_new w o;rw[qL0 (by rw[ju];omega)] at this;exact this
theorem MSt.start (w:World)(tM tE:TypeId)(hne:tM≠tE)(r c:Nat)(o:Obj)(ho:o=.cells #[qjQ 0,qjQ 0,.slice none 0 0] tM)(o':Obj)(ho':o'=.cells #[qjQ r,qjQ c,.slice none 0 0] tM) :MSt w.heap.size (w.heap.size+1) w.heap.size tM tE w ((w.alloc o).alloc o') r c (.slice none 0 0) []:=by
 subst ho;subst ho';have h1:(w.alloc (.cells #[qjQ 0,qjQ 0,.slice none 0 0] tM)).heap.size=w.heap.size+1:=ju _ _;refine⟨by omega,?_,?_,by omega,World.ownsRow_nil _ _ _ _,hne,((Below.refl w.heap.size w).alloc (qJe _) _).alloc (by omega) _⟩
 ·rw[<-h1];exact heap_alloc_new _ _
 ·show ((w.alloc _).heap.push _)[w.heap.size]?=_;rw[Array.getElem?_push_lt (by omega)];have:=heap_alloc_new w (.cells #[qjQ 0,qjQ 0,.slice none 0 0] tM);rw[qL0 (by omega)] at this;exact this
def mkL(F:Nat->Nat->Bs)(c:Nat):Nat->List Bs
 | 0=>[]
 | i+1=>mkL F c i++(List.range c).map (F i)
theorem qgW(F:Nat->Nat->Bs)(c:Nat):∀i,(mkL F c i).length=i*c
 | 0=>by simp[mkL]
 | i+1=>by rw[mkL,qJB,qgW F c i];simp[qJt]
theorem qvz(F:Nat->Nat->Bs)(c:Nat):∀(n i k:Nat),i<n->k<c->(mkL F c n)[i*c+k]?=some (F i k)
 | 0,i,k,h,_=>by omega
 | n+1,i,k,h,hk=>by
  rw[mkL];by_cases hi:i<n
  ·have:i*c+k<n*c:=by have:=qJD c (show i+1<=n by omega);rw[qJt] at this;omega
   rw[qJp (by rw[qgW];exact this)];exact qvz F c n i k hi hk
  ·have:i=n:=by omega
   subst this;rw[qJz (by rw[qgW];omega),qgW,show i*c+k-i*c=k by omega];simp[hk]
theorem Sch.addRow {B S:Nat}{tS tR tE tI:TypeId}{N C:Nat}{ek K vR vL:Value}{H:List Value}{Z:Mx}{det:Bs}{lead:List Nat}(h:Sch B S tS tR tE tI N C ek K w vR vL H Z det lead){w':World} {vR' hd:Value} {row:List Bs} (hr:w.ownsRow B tE 1 hd C (row.map q0j)) (hnew:∀(j:Nat) (a:Value) (b:Nat),H[j]?=some a->a.ownBlock=some b->hd.ownBlock≠some b) (hg:w.grownBy w' vR.ownBlock) (ho:w'.ownsRow B tR 1 vR' (N+1) (H++[hd])) :Sch B S tS tR tE tI (N+1) C ek K (w'.setCell ⟨S,1,none⟩ vR') vR' vL (H++[hd]) (Z++[row]) det lead:=by
 have hrl:row.length=C:=by have:=hr.1;rw[qJm] at this;omega
 have hb:∀b,(∃(cur:Array Value) (e:TypeId),w.heap[b]?=some (Obj.cells cur e (0,0))/\e≠tR)->w'.heap[b]?=w.heap[b]?:=fun b ⟨cur,e,hc,hne⟩=>hg.block b (qJj.1 hc).1 (fun hv=>by obtain⟨c2,hc2⟩:=zx h.outer hv.symm;exact qb4 hc hc2 hne rfl);have hS:w'.heap[S]?=some (.cells #[ek,vR,K,vL,q0j det] tS (0,0)):=by rw[hb S ⟨_,_,h.st,h.ne.1⟩];exact h.st
 have keep:∀{e:TypeId} {n:Nat} {a:Value} {xs:List Value},e≠tR->tS≠e->w.ownsRow B e 1 a n xs->(w'.setCell ⟨S,1,none⟩ vR').ownsRow B e 1 a n xs:=by
  intro e n a xs hne hSe hr;have h1:w'.ownsRow B e 1 a n xs:=hr.kept hg (by
   cases hv:a.ownBlock with
   | none=>exact .inl rfl
   | some b=>
    right;intro he;obtain⟨c1,hc1⟩:=zx hr hv;obtain⟨c2,hc2⟩:=zx h.outer he.symm;exact qb4 hc1 hc2 hne rfl)
  refine qJ h1 (fun hv=>?_) _;obtain⟨c1,hc1⟩:=zx h1 hv;exact qb4 hS hc1 hSe rfl
 have hl:=h.hlen;have hz:=h.dim.n;have key:∀j a,(H++[hd])[j]?=some a->(j<N/\H[j]?=some a/\(Z++[row])[j]?=Z[j]?)\/(j=N/\a=hd/\(Z++[row])[j]?=some row):=by
  intro j a hj;by_cases hjn:j<N
  ·rw[qJp (by omega)] at hj;exact .inl ⟨hjn,hj,qJp (by omega)⟩
  ·have:j<(H++[hd]).length:=(qKW.1 hj).1;rw[qJB,List.length_singleton] at this;have:j=N:=by omega
   subst this;rw[qJz (by omega),show j-H.length=0 by omega] at hj;simp at hj;exact .inr ⟨rfl,hj.symm,by rw[qJz (by omega),show j-Z.length=0 by omega];rfl⟩
 refine⟨h.bs,by rw[heap_setCell_same w' S 1 _ tS _ hS];rfl,⟨by simp[hz],fun r hr'=>?_⟩,qJ ho (fun hv=>?_) _,fun j a r e1 e2=>?_,keep h.ne.2.2.2.2.1.symm h.ne.2.2.1 h.own,fun i j a a' b hij e1 e2 e3=>?_,h.ne⟩
 ·rcases qJG.1 hr' with hr'|hr'
  ·exact h.dim.c r hr'
  ·rw[qJJ.1 hr'];exact hrl
 ·obtain⟨c1,hc1⟩:=zx ho hv;exact qb4 hS hc1 h.ne.1 rfl
 ·rcases key j a e1 with⟨q1,q2,q3⟩|⟨_,q2,q3⟩
  ·rw[q3] at e2;exact keep h.ne.2.2.2.1.symm h.ne.2.1 (h.inner j a r q2 e2)
  ·rw[q3] at e2;cases e2;subst q2;exact keep h.ne.2.2.2.1.symm h.ne.2.1 hr
 ·rcases key i a e1 with⟨q1,q2,_⟩|⟨q1,q2,_⟩
  ·rcases key j a' e2 with⟨p1,p2,_⟩|⟨p1,p2,_⟩
   ·exact h.ap i j a a' b hij q2 p2 e3
   ·subst p2;exact hnew i a b q2 e3
  ·rcases key j a' e2 with⟨p1,p2,_⟩|⟨p1,p2,_⟩
   ·subst q2;intro hb';exact hnew j a' b p2 hb' e3
   ·omega
theorem q5k {B B':Nat}{e:TypeId}{z n:Nat}{xs:List Value}(h:w.ownsRow B e z v n xs)(hB:B'<=B):w.ownsRow B' e z v n xs:=by
 refine⟨h.1,?_⟩;rcases h.2 with h|⟨g,c,cur,a1,a2,a3⟩
 ·exact .inl h
 ·exact .inr ⟨g,c,cur,a1,by omega,a3⟩
theorem Sch.start {B S:Nat}{tS tR tE tI:TypeId}{C:Nat}{ek K:Value}{det:Bs}(bs:B<=S)(st:w.heap[S]?=some (.cells #[ek,.slice none 0 0,K,.slice none 0 0,q0j det] tS (0,0)))(ne:tS≠tR/\tS≠tE/\tS≠tI/\tR≠tE/\tR≠tI/\tE≠tI):Sch B S tS tR tE tI 0 C ek K w (.slice none 0 0) (.slice none 0 0) [] [] det []:=⟨bs,st,⟨rfl,fun r hr=>(by cases hr)⟩,World.ownsRow_nil _ _ _ _,fun j h r e1 _=>(by simp at e1),World.ownsRow_nil _ _ _ _,fun i j h h' b _ e1 _ _=>(by simp at e1),ne⟩
theorem Sch.heads {B S:Nat}{tS tR tE tI:TypeId}{N C:Nat}{ek K vR vL:Value}{H:List Value}{Z:Mx}{det:Bs}{lead:List Nat}(h:Sch B S tS tR tE tI N C ek K w vR vL H Z det lead){w':World} {e:TypeId} {z n:Nat} {hd:Value} {xs:List Value} (ho:w'.ownsRow w.heap.size e z hd n xs):∀(j:Nat) (a:Value) (b:Nat),H[j]?=some a->a.ownBlock=some b->hd.ownBlock≠some b:=by
 intro j a b hj ha hb;have hjN:j<N:=by have:=(qKW.1 hj).1;rw[h.hlen] at this;exact this
 obtain⟨hd',r,e1,_,e3⟩:=h.hrow hjN;rw[hj] at e1;cases e1;have:=e3.lt b ha;have:=ho.lt b hb;omega
theorem qxd {w w':World}{B:Nat}{t tR:TypeId}{z n b:Nat}{xs:List Value}{cs:Array Value}(ho:w.ownsRow B tR z v n xs)(hb:w.heap[b]?=some (.cells cs t (0,0)))(hne:t≠tR)(hg:w.grownBy w' v.ownBlock):w'.heap[b]?=some (.cells cs t (0,0)):=by rw[hg.block b (qJj.1 hb).1 (fun hv=>by obtain⟨c2,hc2⟩:=zx ho hv.symm;exact qb4 hb hc2 hne rfl)];exact hb
theorem q5V {b:Nat}{x y z:Value}{t:TypeId}(h:w.heap[b]?=some (.cells #[x,y,z] t (0,0))):w.cell? ⟨b,0,none⟩=some x/\w.cell? ⟨b,1,none⟩=some y/\w.cell? ⟨b,2,none⟩=some z:=by refine⟨?_,?_,?_⟩<;>rw[cell_of_row w b _ _ t (0,0) h]<;>rfl
theorem Sch.rowCell {B S:Nat}{tS tR tE tI:TypeId}{N C:Nat}{ek K vR vL:Value}{H:List Value}{Z:Mx}{det:Bs}{lead:List Nat}(h:Sch B S tS tR tE tI N C ek K w vR vL H Z det lead)(hg:w.grownBy w' vR.ownBlock) :w'.cell? ⟨S,1,none⟩=some vR/\w'.frozen? ⟨S,1,none⟩=false:=by have hS:=qxd h.outer h.st h.ne.1 hg;exact⟨by rw[cell_of_row w' S 1 _ tS (0,0) hS];rfl,frozen_of_row w' S 1 _ tS hS⟩
end Go.Eng

namespace Go.Eng
open Go.RowKit Go.Proofs
open Tryz
theorem qjZ{n:Int}(h:-9223372036854775808<=n/\n<=9223372036854775807):wrap64 n=n:=by unfold wrap64;omega
set_option maxHeartbeats 2000000 in
set_option maxRecDepth 100000 in
theorem qIz(i k:Nat)(_:i<=1000)(hk:k<=1000)(w:World) :Calls prog 207 #[.int .i64 i,.int .i64 k] w fun e w'=>e=.returned (q0j (if i=k then [49] else [48]))/\w'=w:=by
 have hs:q0j (if i=k then [49] else [48])=if i=k then .string ⟨#[49]⟩ else .string ⟨#[48]⟩:=by split<;>rfl
 rw[hs]
 go_enter func207,ntmps207
 by_cases h:i=k
 ·subst h
  go_wp2
  go_ret
  exact⟨rfl,rfl⟩
 ·have hb:((i:Int)==(k:Int))=false:=by simp;omega
  go_wp2
  go_ret
  exact⟨rfl,rfl⟩
set_option maxHeartbeats 2000000 in
set_option maxRecDepth 100000 in
theorem qIT(b5 b1 g L cap i n:Nat)(w:World)(h5:w.cell? ⟨b5,2,none⟩=some (.slice (some ⟨g,0,none⟩) L cap))(h1:w.cell? ⟨b1,0,none⟩=some (qjQ n))(hi:i<=1000)(hn:0<n)(hn2:n<=1000)(hL:(i+1)*n<=L)(hc:L<=cap) :Calls prog 176 #[.int .i64 i,.pointer (some ⟨b5,0,none⟩),.pointer (some ⟨b1,0,none⟩)] w fun e w'=>e=.returned (.slice (some ⟨g,i*n,none⟩) n (cap-i*n))/\w'=w:=by
 unfold qjQ at h1;obtain⟨lo,hlo⟩:∃lo,lo=i*n:=⟨_,rfl⟩;have hm:i*n<=1000*1000:=qK4 hi hn2;have hhi:(i+1)*n=lo+n:=by rw[hlo,qJt,qKV]
 have e1:wrap64 ((i:Int)*(n:Int))=(lo:Int):=by rw[hlo,qjZ (by rw[<-qK2];omega)];simp
 have e2:wrap64 (((i:Int)+1)*(n:Int))=((lo+n:Nat):Int):=by
  have:((i:Int)+1)*(n:Int)=((lo+n:Nat):Int):=by rw[<-hhi];simp
  rw[this,qjZ (by omega)]
 rw[hhi] at hL;rw[<-hlo];have g1:¬cap=lo:=by omega
 clear hm hhi hlo
 go_enter func176,ntmps176
 go_wp2
 go_ret
 rw[Nat.add_sub_cancel_left];exact⟨rfl,rfl⟩
set_option maxHeartbeats 4000000 in
set_option maxRecDepth 1000000 in
theorem qA8(g:Nat)(hen:qbt prog g)(caps:Array Value)(r c:Nat)(hr:r<=16)(hc:c<=16)(F:Nat->Nat->Bs)(w:World)(hF:∀i k w',i<r->k<c->Below w.heap.size w w'->Calls prog g (#[.int .i64 i,.int .i64 k]++caps) w' fun e w''=>e=.returned (q0j (F i k))/\Below w'.heap.size w' w'') :Calls prog 171 #[.int .i64 r,.int .i64 c,.func (.func g) #[] caps] w fun e w'=>∃v,e=.returned (.agg #[.int .i64 r,.int .i64 c,v])/\Below w.heap.size w w'/\w'.ownsRow w.heap.size 30 1 v (r*c) ((mkL F c r).map q0j):=by
 obtain⟨i0,hi,hz0,hz1,hz2⟩:=info_parts (show (prog.info? 30).map (fun i=>(i.zero,i.size,i.bytes))=some (some (.string ⟨#[]⟩),1,16) by kernel_rfl);obtain⟨B,hB⟩:∃B,B=w.heap.size:=⟨_,rfl⟩;have HF:=Lib.hid hF;clear hF
 go_enter func171,ntmps171
 go_wp2
 go_loopg [14] r (fun g i wr=>∃(ii:Nat) (v:Value),ii<=r/\g=r-ii/\i=.int .i64 ii/\MSt w.heap.size (w.heap.size+1) w.heap.size 174 30 w wr r c v (mkL F c ii))
 case atStart=>exact⟨0,.slice none 0 0,by omega,by omega,rfl,MSt.start w 174 30 (by decide) r c _ rfl _ rfl⟩
 case round=>
  obtain⟨ii,v,hii,rfl,rfl,hM⟩:=hrel;by_cases hlt:ii<r
  ·have HM:=Lib.hid hM;clear hM
   go_wp2
   go_loopg [18] c (fun g k wx=>∃(kk:Nat) (v:Value),kk<=c/\g=c-kk/\k=.int .i64 kk/\MSt w.heap.size (w.heap.size+1) w.heap.size 174 30 w wx r c v (mkL F c ii++(List.range kk).map (F ii)))
   case atStart=>exact⟨0,v,by omega,rfl,rfl,by simpa using HM.out⟩
   case round=>
    clear HM;obtain⟨kk,v,hkk,rfl,rfl,hM⟩:=hrel;have HM:=Lib.hid hM;by_cases hk:kk<c
    ·have c2:=hM.cell.2.2;have hW:Below w.heap.size w wr.drew:=hM.below.drew;have key:=Lib.hid (HF.out ii kk wr.drew hlt hk hW);have own:=Lib.hid hM.own;have hsz:w.heap.size<=wr.heap.size:=hM.below.size;have hl:(mkL F c ii++(List.range kk).map (F ii)).length<=1000:=by rw[qJB,qgW,qJm,qJV];have:=qK4 (show ii<=16 by omega) hc;omega
     have key2:=key.out;unfold q0j at key2;clear hM HF
     go_wp2_with fail
     go_region_law (first
      | (refine qzO rfl g caps hen (.tmp 23) #[.tmp 24,.tmp 25] #[3,3] rfl (by simp[Act.eval,Act.put]) (#[.int .i64 ii,.int .i64 kk]++caps) (by simp[Act.eval,Act.put]) (by exact key2) ?_;rintro e w2 ⟨rfl,hb2⟩;have B2:Below wr.heap.size wr w2:=(Below.refl _ wr).drew.trans hb2;have BA:Below wr.heap.size wr (w2.alloc (.cells #[.string ⟨(F ii kk).toArray⟩] 30)):=B2.alloc B2.size _;have k1:=(HM.out.grow B2 hsz).cell.2.2;have k2:=(HM.out.grow BA hsz).cell.2.2;refine⟨_,rfl,?_⟩)
      | (refine qpq rfl (.tmp 22) (.tmp 27) 68 rfl w.heap.size 30 i0 (.string ⟨#[]⟩) 1 16 underlying68 hi hz0 hz1 hz2 rfl (by decide) v _ _ (by simp[Act.eval]) (q11 own.out BA) ⟨w2.heap.size,0,none⟩ 1 1 [.string ⟨(F ii kk).toArray⟩] (by simp[Act.eval]) rfl (qA7 (qs6 w2 _ _)) (fun u hu=>by rw[qJJ.1 hu];rfl) (by unfold maxLen;omega) (by omega) (qJg hsz BA.size) ?_;intro v' w3 hown' hgrow _;obtain⟨ao,n',cap',rfl⟩:=q6w hown';obtain⟨k3,k4⟩:=(HM.out.grow BA hsz).keepCell hgrow))
     all_goals
      have MA:=Lib.hid ((HM.out.grow BA hsz).app (ys:=mkL F c ii++(List.range (kk+1)).map (F ii)) hgrow (qJg hsz BA.size) (by rw[qKS,qJK,<-qJQ,qJB,qJK];exact hown'));clear k1 k2 k3 k4 c2 hown' hgrow key2
      go_wp2
      go_roundg (c-(kk+1))
      case measure=>go_light;omega
      case rel=>
       go_light
       exact⟨kk+1,_,by omega,rfl,by go_num,MA.out⟩
    ·have hkE:kk=c:=by omega
     subst kk;clear hM
     go_wp2
     go_roundg (r-(ii+1))
     case measure=>go_light;omega
     case rel=>
      go_light
      exact⟨ii+1,v,by omega,rfl,by go_num,HM.out⟩
  ·have hiE:ii=r:=by omega
   subst ii;obtain⟨ao,n',cap',rfl⟩:=q6w hM.own;have c1:=hM.cell;have c2:=hM.cellq;have f20:=hM.freeq 0;have f21:=hM.freeq 1;have f22:=hM.freeq 2;have HM:=Lib.hid hM;clear hM;unfold qjQ at c1 c2;obtain⟨c11,c12,c13⟩:=c1;obtain⟨c21,c22,c23⟩:=c2
   go_wp2
   refine bodyPost_ret (by simp[results,results171,go_sem, *];try rfl) rfl ?_;obtain⟨q1,q2⟩:=HM.out.fin (qJe _) (.int .i64 r) (.int .i64 c) (.slice ao n' cap');rw[qgW] at q2;exact⟨_,rfl,q1,q2⟩
end Go.Eng

namespace Go.Eng
open Go.RowKit Go.Proofs
open Tryz
set_option maxHeartbeats 2000000 in
set_option maxRecDepth 100000 in
theorem qDL(ab ao n c:Nat)(hn:0<n)(hn2:n<=1000)(row:List Bs)(hl:row.length=n)(w:World)(hc:∀(j:Nat) x,row[j]?=some x->w.cell? ⟨ab,ao+j,none⟩=some (q0j x)) :Calls prog 228 #[.slice (some ⟨ab,ao,none⟩) n c] w fun e w'=>∃v,e=.returned v/\w'.ownsRow w.heap.size 30 1 v n (row.map q0j)/\Below w.heap.size w w':=by
 obtain⟨i0,hi,hz0,hz1,hz2⟩:=info_parts (show (prog.info? 30).map (fun i=>(i.zero,i.size,i.bytes))=some (some (.string ⟨#[]⟩),1,16) by kernel_rfl);have hnil:=Lib.run_eql_slice_nil (P:=prog)
 go_enter func228,ntmps228
 have hnews:∀(j:Nat) (u:Value),(row.map q0j)[j]?=some u->(w.alloc (.cells #[] 30)).cell? ((⟨ab,ao,none⟩:Addr).add j)=some u:=fun j u hu=>by
  rw[qJo] at hu;obtain⟨x,hx,rfl⟩:=qL1.1 hu;have h1:=hc j x hx;have h2:(⟨ab,ao,none⟩:Addr).add j=⟨ab,ao+j,none⟩:=by
   unfold Addr.add;split
   ·rename_i h;subst h;rfl
   ·rfl
  rw[h2,World.cell?_alloc_lt _ _ _ (qKn w _ h1)];exact h1
 clear hc
 go_wp2_with (at_builtin;refine wpList_append_own _ rfl _ _ 68 rfl w.heap.size 30 i0 (.string ⟨#[]⟩) 1 16 underlying68 hi hz0 hz1 hz2 rfl (by decide) _ 0 [] rfl (World.ownsRow_made w #[] 0 (qJe _) (by decide) rfl) ⟨ab,ao,none⟩ n c (row.map q0j) rfl (by rw[qJm,hl,qKX]) hnews qxR (by unfold maxLen;omega) (by omega) (by rw[ju];omega) ?_)
 intro v' w2 hown' hgrow _;obtain⟨ao',n',cap',rfl⟩:=q6w hown'
 go_wp2
 go_ret
 refine⟨_,rfl,hown',((Below.refl w.heap.size w).alloc (qJe _) (.cells #[] 30)).grown hgrow (by rw[ju];omega) (fun k hk=>?_)⟩;cases hk;exact qJe _
theorem qFE(i n:Nat)(hi:i<=1000)(hn:n<=1000):wrap64 ((i:Int)*(n:Int))=((i*n:Nat):Int):=by have:=qK4 hi hn;rw[<-qK2];exact qjZ ⟨by omega,by omega⟩
theorem qGi(i n:Nat)(hi:i<=1000)(hn:n<=1000):wrap64 (((i:Int)+1)*(n:Int))=((i*n+n:Nat):Int):=by
 have:=qK4 hi hn;have h:((i:Int)+1)*(n:Int)=((i*n+n:Nat):Int):=by rw[Int.add_mul,qJP,<-qK2,<-qL9]
 rw[h];exact qjZ ⟨by omega,by omega⟩
def row0(F G:Nat->Nat->Bs)(n i:Nat):List Bs:=(List.range n).map (F i)++(List.range n).map (G i)
def qIi(B S b2 n:Nat)(vs:Value)(F G:Nat->Nat->Bs)(w0 w:World)(ii:Nat):Prop:=∃vR H,Sch B S 227 68 30 3 ii (2*n) (.int .i64 0) (.int .i64 n) w vR (.slice none 0 0) H ((List.range ii).map (row0 F G n)) [49] []/\Below B w0 w /\
 w.heap[b2]?=some (.cells #[.int .i64 n,.int .i64 n,vs] 174 (0,0))
set_option maxHeartbeats 4000000 in
set_option maxRecDepth 1000000 in
theorem qDm(n:Nat)(hn:n<=16)(F G:Nat->Nat->Bs)(vs:Value)(b5 b1:Nat)(w:World)(hv:0<n->∃ab ao cap,vs=.slice (some ⟨ab,ao,none⟩) (n*n) cap/\n*n<=cap/\∀i k,i<n->k<n->w.cell? ⟨ab,ao+(i*n+k),none⟩=some (q0j (F i k)))(ho:0<n->∃g cap,w.cell? ⟨b5,2,none⟩=some (.slice (some ⟨g,0,none⟩) (n*n) cap)/\n*n<=cap/\∀i k,i<n->k<n->w.cell? ⟨g,i*n+k,none⟩=some (q0j (G i k)))(h1:w.cell? ⟨b1,0,none⟩=some (qjQ n)) :Calls prog 208 #[.agg #[.int .i64 n,.int .i64 n,vs],.func (.func 176) #[] #[.pointer (some ⟨b5,0,none⟩),.pointer (some ⟨b1,0,none⟩)]] w fun e w' => e=.returned (.pointer (some ⟨w.heap.size+1,0,none⟩))/\qIi w.heap.size (w.heap.size+1) w.heap.size n vs F G w w' n:=by
  obtain⟨i0,hi,hz0,hz1,hz2⟩:=info_parts (show (prog.info? 30).map (fun i=>(i.zero,i.size,i.bytes))=some (some (.string ⟨#[]⟩),1,16) by kernel_rfl);obtain⟨i1,hi',hy0,hy1,hy2⟩:=info_parts (show (prog.info? 68).map (fun i=>(i.zero,i.size,i.bytes))=some (some (.slice none 0 0),1,24) by kernel_rfl);have HV:=Lib.hid hv;have HO:=Lib.hid ho;clear hv ho
  go_enter func208,ntmps208
  go_wp2
  go_loopg [14] n (fun g i wr=>∃ii:Nat,ii<=n/\g=n-ii/\i=.int .i64 ii/\qIi w.heap.size (w.heap.size+1) w.heap.size n vs F G w wr ii)
  case atStart =>
    refine⟨0,by omega,by omega,rfl,.slice none 0 0,[],?_,?_,?_⟩
    · refine Sch.start (by omega) ?_ (by decide)
      rw[<-ju w (.cells #[.int .i64 n,.int .i64 n,vs] 174)];exact heap_alloc_new _ _
    · exact((Below.refl w.heap.size w).alloc (qJe _) _).alloc (by rw[ju];omega) _
    · exact qhO w _ _
  case round =>
    obtain⟨ii,hii,rfl,rfl,hI⟩:=hrel;by_cases hlt:ii<n
    · obtain⟨vR,H,hS,hB,h2⟩:=hI
      obtain⟨ab,ao,cap,rfl,hcap,hcell⟩:=HV.out (by omega);obtain⟨lo,hlo⟩:∃lo,lo=ii*n:=⟨_,rfl⟩;have hm:ii*n<=16*16:=qK4 (by omega) hn;have hhi:(ii+1)*n=lo+n:=by rw[hlo,qJt,qKV]
      have hle:lo+n<=n*n:=by rw[<-hhi];exact qJD n hlt
      have g1:¬cap=lo:=by omega
      have g2:lo+n<=cap:=by omega
      have q1:ii<=1000:=by omega
      have q2:n<=1000:=by omega
      clear hm hhi hle;have e1:True->wrap64 ((ii:Int)*(n:Int))=(lo:Int):=fun _=>by rw[hlo];exact qFE ii n q1 q2
      have e2:True->wrap64 (((ii:Int)+1)*(n:Int))=((lo+n:Nat):Int):=fun _=>by rw[hlo];exact qGi ii n q1 q2
      have HLO:=Lib.hid hlo;clear hlo;have c2:=q5V h2;obtain⟨c20,c21,c22⟩:=c2;have keyC:=qDL ab (ao+lo) n (cap-lo) (by omega) q2 ((List.range n).map (F ii)) (by simp) wr (fun j x hx=>by
        rw[qJo] at hx;obtain⟨y,hy,rfl⟩:=qL1.1 hx;have hjn:j<n:=by have:=(qKW.1 hy).1;simpa using this
        rw[qKa hjn] at hy;cases hy;rw[qKT,HLO.out,hB.cell (p:=⟨ab,ao+(ii*n+j),none⟩) (qKn w _ (hcell ii j hlt hjn))];exact hcell ii j hlt hjn)
      obtain⟨g,capo,ho5,hcapo,hoc⟩:=HO.out (by omega);have keyI:=Lib.hid fun (W:World) (hW:Below w.heap.size w W)=>qIT b5 b1 g (n*n) capo ii n W (by rw[hW.cell (qKn w _ ho5)];exact ho5) (by rw[hW.cell (qKn w _ h1)];exact h1) q1 (by omega) q2 (qJD n hlt) hcapo;have HC:=Lib.hid hoc;have HH:=Lib.hid (And.intro hS (And.intro hB h2));clear hcell hoc ho5 hcapo hcap hS hB h2
      go_wp2_with (go_at_call 228;refine keyC.mono ?_;rintro e w1 ⟨v1,rfl,hv1,hb1⟩;obtain⟨a1,n1,cap1,rfl⟩:=q6w hv1)
      clear keyC e1 e2 g1 g2 c20 c21 c22;have hsz:=HH.out.2.1.size;have B1:Below wr.heap.size wr w1.drew:=hb1.drew;have k1:=(HH.out.1.grow B1).cell.2.1;have BW:Below w.heap.size w w1.drew:=HH.out.2.1.trans (B1.mono hsz);have key2:=keyI.out w1.drew BW;have own1:=Lib.hid (q11 hv1 (Below.refl _ w1).drew);have LT1:=Lib.hid hv1;have NEW:∀(j:Nat) (u:Value),(((List.range n).map (G ii)).map q0j)[j]?=some u->w1.drew.cell? ((⟨g,ii*n,none⟩:Addr).add j)=some u:=fun j u hu=>by
        rw[qJo] at hu;obtain⟨x,hx,rfl⟩:=qL1.1 hu;rw[qJo] at hx;obtain⟨y,hy,rfl⟩:=qL1.1 hx;have hjn:j<n:=by have:=(qKW.1 hy).1;simpa using this
        rw[qKa hjn] at hy;cases hy;have h2:(⟨g,ii*n,none⟩:Addr).add j=⟨g,ii*n+j,none⟩:=by
          unfold Addr.add;split
          · rename_i h;subst h;rfl
          · rfl
        have h3:=HC.out ii j hlt hjn;rw[h2,BW.cell (qKn w _ h3)];exact h3
      clear hv1;have henI:qbt prog 176:=ut func176 (by kernel_rfl) (by kernel_rfl);have stepI:∀(o:Oper) (a:Act) (K:Act->World->Prop) (Q:Exit->Act->World->Prop),o.op=.call { callee:=.value (.tmp 36),args:=#[.tmp 37],argTypes:=#[3] } ->
          a.eval (.tmp 36)=.func (.func 176) #[] #[.pointer (some ⟨b5,0,none⟩),.pointer (some ⟨b1,0,none⟩)]->a.eval (.tmp 37)=.int .i64 ii->K (a.put o.dst (.slice (some ⟨g,ii*n,none⟩) n (capo-ii*n))) w1.drew->Oper.wp prog o a w1.drew K Q :=
        fun o a K Q q1 q2 q3 q4=>qxK 176 _ henI (.tmp 36) _ _ q1 q2 (#[.int .i64 ii,.pointer (some ⟨b5,0,none⟩),.pointer (some ⟨b1,0,none⟩)]) (by simp[q3]) key2 (fun e w' h=>⟨_,h.1,by rw[h.2];exact q4⟩)
      have stepA:∀(o:Oper) (a:Act) (K:Act->World->Prop) (Q:Exit->Act->World->Prop),o.op=.call { callee:=.builtin .append,args:=#[.tmp 35,.tmp 38],argTypes:=#[68,68] } ->
          a.eval (.tmp 35)=.slice a1 n1 cap1->a.eval (.tmp 38)=.slice (some ⟨g,ii*n,none⟩) n (capo-ii*n) ->
          (∀a2 n2 cap2 w2,w2.ownsRow wr.heap.size 30 1 (.slice a2 n2 cap2) (2*n) ((row0 F G n ii).map q0j)->Below wr.heap.size wr w2->K (a.put o.dst (.slice a2 n2 cap2)) w2)->Oper.wp prog o a w1.drew K Q :=
        fun o a K Q q1 q2 q3 q4=>wp_append_own w1.drew _ _ 68 q1 wr.heap.size 30 i0 (.string ⟨#[]⟩) 1 16 underlying68 hi hz0 hz1 hz2 rfl (by decide) _ n _ q2 own1.out ⟨g,ii*n,none⟩ n _ (((List.range n).map (G ii)).map q0j) q3 (by simp) NEW qxR (by unfold maxLen;omega) (by omega) B1.size
          (fun v2 w2 h1 h2 _=>by obtain⟨a2,n2,cap2,rfl⟩:=q6w h1;refine q4 _ _ _ _ ?_ (B1.grown h2 B1.size (fun k hk=>(LT1.out.lt k hk).1));rw[Nat.two_mul];unfold row0;rw[qJK];exact h1)
      have stepB:∀(w2:World) (a2:Option Addr) (n2 cap2:Nat) (o:Oper) (a:Act) (K:Act->World->Prop) (Q:Exit->Act->World->Prop),Below wr.heap.size wr w2->o.op=.call { callee:=.builtin .append,args:=#[.tmp 34,.tmp 40],argTypes:=#[225,225] } ->
          a.eval (.tmp 34)=vR->a.eval (.tmp 40)=.slice (some ⟨w2.heap.size,0,none⟩) 1 1 ->
          (∀a3 n3 cap3 w3,w3.ownsRow w.heap.size 68 1 (.slice a3 n3 cap3) (ii+1) (H++[.slice a2 n2 cap2])->(w2.alloc (.cells #[.slice a2 n2 cap2] 68)).grownBy w3 vR.ownBlock->K (a.put o.dst (.slice a3 n3 cap3)) w3)->Oper.wp prog o a (w2.alloc (.cells #[.slice a2 n2 cap2] 68)) K Q :=
        fun w2 a2 n2 cap2 o a K Q hb q1 q2 q3 q4=>by
          have B3:Below wr.heap.size wr (w2.alloc (.cells #[.slice a2 n2 cap2] 68)):=hb.alloc hb.size _;exact wp_append_own _ _ _ 225 q1 w.heap.size 68 i1 (.slice none 0 0) 1 24 underlying225 hi' hy0 hy1 hy2 rfl (by decide) _ ii _ q2 (HH.out.1.grow B3).outer ⟨w2.heap.size,0,none⟩ 1 1 [.slice a2 n2 cap2] q3 rfl (qA7 (qs6 w2 _ _)) (fun u hu=>by rw[qJJ.1 hu];rfl) (by unfold maxLen;omega) (by omega) (qJg hsz B3.size)
            (fun v3 w3 h1 h2 _=>by obtain⟨a3,n3,cap3,rfl⟩:=q6w h1;exact q4 _ _ _ _ h1 h2)
      clear key2 NEW
      go_region_law ((try simp only[Act.put,List.setIfInBounds_toArray,qJu,qJw]);(with_reducible refine qBN rfl ?_);first
        | (with_reducible refine stepI _ _ _ _ ?_ ?_ ?_ ?_
           · with_reducible rfl
           · (first|with_reducible rfl|(simp[Act.eval];done))
           · (first|with_reducible rfl|(simp[Act.eval];done)))
        | (with_reducible refine stepA _ _ _ _ ?_ ?_ ?_ ?_
           · with_reducible rfl
           · (first|with_reducible rfl|(simp[Act.eval];done))
           · (first|with_reducible rfl|(simp[Act.eval];done))
           intro a2 n2 cap2 w2 hown2 B2;have B3:Below wr.heap.size wr (w2.alloc (.cells #[.slice a2 n2 cap2] 68)):=B2.alloc B2.size _;have k2:=(HH.out.1.grow B2).cell.2.1;have k3:=(HH.out.1.grow B3).cell.2.1)
        | (with_reducible refine stepB w2 a2 n2 cap2 _ _ _ _ B2 ?_ ?_ ?_ ?_
           · with_reducible rfl
           · (first|with_reducible rfl|(simp[Act.eval];done))
           · (first|with_reducible rfl|(simp[Act.eval];done))
           intro a3 n3 cap3 w3 hown3 hgrow3;obtain⟨k4,k5⟩:=(HH.out.1.grow B3).rowCell hgrow3)
        | fail "NONE")
      all_goals
        have SR:=(HH.out.1.grow B3).addRow (row:=row0 F G n ii) (q5k (q11 hown2 ((Below.refl _ w2).alloc (qJe _) (.cells #[.slice a2 n2 cap2] 68))) hsz) (HH.out.1.heads hown2) hgrow3 hown3;have BL:=((HH.out.2.1.trans (B3.mono hsz)).grown hgrow3 (qJg hsz B3.size) (fun k hk=>((HH.out.1.grow B3).outer.lt k hk).1)).setCell (p:=⟨w.heap.size+1,1,none⟩) (by show w.heap.size<=w.heap.size+1;omega) (.slice a3 n3 cap3);have MK:=qxd (HH.out.1.grow B3).outer (show (w2.alloc (.cells #[.slice a2 n2 cap2] 68)).heap[w.heap.size]?=_ by rw[B3.block _ (qJj.1 HH.out.2.2).1];exact HH.out.2.2) (by decide) hgrow3;have FIN:qIi w.heap.size (w.heap.size+1) w.heap.size n (.slice (some ⟨ab,ao,none⟩) (n*n) cap) F G w (w3.setCell ⟨w.heap.size+1,1,none⟩ (.slice a3 n3 cap3)) (ii+1) :=
          ⟨_,_,by rw[qKS,qJK];exact SR,BL,by rw[heap_setCell_other w3 ⟨w.heap.size+1,1,none⟩ w.heap.size _ (by show w.heap.size≠w.heap.size+1;omega)];exact MK⟩
        have FIN:=Lib.hid FIN;clear SR BL MK k1 k2 k3 k4 k5 hown2 hown3 hgrow3 B2 B3 stepI stepA stepB
        go_wp2
        go_roundg (n-(ii+1))
        case measure=>go_light;omega
        case rel =>
          go_light
          exact⟨ii+1,by omega,rfl,by go_num,FIN.out⟩
    · have hiE:ii=n:=by omega
      subst ii;have HI:=Lib.hid hI;clear hI
      go_wp2
      go_ret
      exact⟨rfl,HI.out⟩
end Go.Eng

namespace Go.Eng
open Go.RowKit Go.Proofs
open Tryz
theorem Sch.base{B B' S:Nat}{tS tR tE tI:TypeId}{N C:Nat}{ek K:Value}{w:World}{vR vL:Value}{H:List Value}{Z:Mx}{det:Bs}{lead:List Nat}(h:Sch B S tS tR tE tI N C ek K w vR vL H Z det lead)(hB:B'<=B) :Sch B' S tS tR tE tI N C ek K w vR vL H Z det lead:=⟨qJg hB h.bs,h.st,h.dim,q5k h.outer hB,fun j a r e1 e2=>q5k (h.inner j a r e1 e2) hB,q5k h.own hB,h.ap,h.ne⟩
set_option maxHeartbeats 4000000 in
set_option maxRecDepth 1000000 in
theorem qH4(ml dv sb:Op2)(gl:World->Prop)(n:Nat)(hn:n<=16)(F G:Nat->Nat->Bs)(vs:Value)(b5 b1:Nat)(w:World)(hgl:∀w',Below w.heap.size w w'->gl w')(hml:qyo prog gl 124 ml) (hdv:qyo prog gl 142 dv) (hsb:qyo prog gl 115 sb)(hv:0<n->∃ab ao cap,vs=.slice (some ⟨ab,ao,none⟩) (n*n) cap/\n*n<=cap/\∀i k,i<n->k<n->w.cell? ⟨ab,ao+(i*n+k),none⟩=some (q0j (F i k)))(ho:0<n->∃g cap,w.cell? ⟨b5,2,none⟩=some (.slice (some ⟨g,0,none⟩) (n*n) cap)/\n*n<=cap/\∀i k,i<n->k<n->w.cell? ⟨g,i*n+k,none⟩=some (q0j (G i k)))(h1:w.cell? ⟨b1,0,none⟩=some (qjQ n)) (fin:RS) (hf:qte ml dv sb n n (2*n) n ⟨(List.range n).map (row0 F G n),[49],[],0⟩=some fin) :Calls prog 175 #[.agg #[.int .i64 n,.int .i64 n,vs],.func (.func 176) #[] #[.pointer (some ⟨b5,0,none⟩),.pointer (some ⟨b1,0,none⟩)]] w fun e w'=> ∃S,e=.returned (.tuple #[.pointer (some ⟨S,0,none⟩),.int .i64 0])/\(∃vR vL H,Sch w.heap.size S 227 68 30 3 n (2*n) (.int .i64 0) (.int .i64 n) w' vR vL H fin.Z fin.det fin.lead)/\Below w.heap.size w w':=by
 have hB1:Below w.heap.size w (w.alloc (.cells #[.int .i64 n,.int .i64 n,vs] 174)):=(Below.refl w.heap.size w).alloc (qJe _) _;have keyB:=qDm n hn F G vs b5 b1 (w.alloc (.cells #[.int .i64 n,.int .i64 n,vs] 174))
  (fun h=>by obtain⟨ab,ao,cap,q1,q2,q3⟩:=hv h;exact⟨ab,ao,cap,q1,q2,fun i k hi hk=>by rw[hB1.cell (qKn w _ (q3 i k hi hk))];exact q3 i k hi hk⟩)
  (fun h=>by obtain⟨g,cap,q1,q2,q3⟩:=ho h;exact⟨g,cap,by rw[hB1.cell (qKn w _ q1)];exact q1,q2,fun i k hi hk=>by rw[hB1.cell (qKn w _ (q3 i k hi hk))];exact q3 i k hi hk⟩)
  (by rw[hB1.cell (qKn w _ h1)];exact h1)
 have HG:=Lib.hid hgl;have HF:=Lib.hid hf;clear hv ho hf hgl
 go_enter func175,ntmps175
 go_wp2_with (go_at_call 208;refine keyB.mono ?_;rintro e w1 ⟨rfl,hI⟩)
 have hs1:w.heap.size<=w.heap.size+1:=by omega
 rw[ju] at hI;obtain⟨vR,H,hS,hB,_⟩:=hI;have hB2:Below w.heap.size w w1:=hB1.trans (hB.mono hs1);have keyR:=qGU w.heap.size _ n n (2*n) w1 ml dv sb gl (fun w' hw'=>HG.out w' (hB2.trans hw')) hml hdv hsb hB2.size (qJe _) (by omega) (by omega) (by omega) _ fin ⟨_,_,_,hS.base hs1,Below.refl _ _⟩ rfl rfl HF.out;refine keyR.mono ?_;rintro e w2 ⟨rfl,hR⟩;obtain⟨vR2,vL2,H2,hS2,hB3⟩:=hR;have k0:=hS2.cell.1;clear keyR keyB
 go_wp2_with fail
 go_region_with (fail)
 all_goals
  go_wp2
  refine bodyPost_ret (results_tmp2 rfl _ _ _) rfl ?_;exact⟨_,rfl,⟨_,_,_,hS2.grow (Below.refl _ _).drew⟩,hB2.trans hB3.drew⟩
def qiC(i k:Nat):Bs:=if i=k then [49] else [48]
set_option maxHeartbeats 4000000 in
set_option maxRecDepth 1000000 in
theorem qGl(n:Nat)(hn:n<=16)(w:World) :Calls prog 174 #[.int .i64 n] w fun e w'=>∃v,e=.returned (.agg #[.int .i64 n,.int .i64 n,v])/\Below w.heap.size w w'/\w'.ownsRow w.heap.size 30 1 v (n*n) ((mkL qiC n n).map q0j):=by
 have hB1:Below w.heap.size w (w.alloc (.cells #[.int .i64 0,.int .i64 0,.slice none 0 0] 174)):=(Below.refl w.heap.size w).alloc (qJe _) _;have key:=qA8 207 (ut func207 (by kernel_rfl) (by kernel_rfl)) #[] n n hn hn qiC (w.alloc (.cells #[.int .i64 0,.int .i64 0,.slice none 0 0] 174)) (fun i k w' hi hk _=>(qIz i k (by omega) (by omega) w').mono fun e w'' h=>⟨h.1,by rw[h.2];exact Below.refl _ _⟩);have hq:=heap_alloc_new w (.cells #[.int .i64 0,.int .i64 0,.slice none 0 0] 174);rw[ju] at key
 go_enter func174,ntmps174
 go_wp2_with (go_at_call 171;refine key.mono ?_;rintro e w1 ⟨v,rfl,hb,ho⟩;obtain⟨ao,n1,cap,rfl⟩:=q6w ho;have hq2:w1.heap[w.heap.size]?=some (.cells #[.int .i64 0,.int .i64 0,.slice none 0 0] 174 (0,0)):=(hb.block _ (by omega)).trans hq;obtain⟨c0,c1,c2⟩:=q5V hq2;have f0:=frozen_of_row w1 w.heap.size 0 _ 174 hq2;have f1:=frozen_of_row w1 w.heap.size 1 _ 174 hq2;have f2:=frozen_of_row w1 w.heap.size 2 _ 174 hq2)
 refine bodyPost_ret (by simp[results,results174,go_sem, *];try rfl) rfl ?_;have hn0:(Value.slice ao n1 cap).ownBlock≠some w.heap.size:=fun hv=>by obtain⟨c',hc'⟩:=zx ho hv;exact qb4 hq2 hc' (by decide) rfl
 have hle:w.heap.size<=w.heap.size:=qJe _;exact⟨_,rfl,(((hB1.trans (hb.mono (by omega))).setCell (p:=⟨w.heap.size,0,none⟩) hle _).setCell (p:=⟨w.heap.size,1,none⟩) hle _).setCell (p:=⟨w.heap.size,2,none⟩) hle _,
  qJ (qJ (qJ (q5k ho (by omega)) hn0 _) hn0 _) hn0 _⟩
end Go.Eng

namespace Go.Eng
open Go.RowKit Go.Proofs
open Tryz
theorem qyG{w:World}{B:Nat}{e:TypeId}{z n:Nat}{v:Value}{xs:List Value}(h:w.ownsRow B e z v n xs):∃ao cap,v=.slice ao n cap:=by
 rcases h.2 with⟨hv,h0⟩|⟨g,cap,cur,hv,_⟩
 ·exact⟨none,0,by rw[hv,h0]⟩
 ·exact⟨_,_,hv⟩
set_option maxHeartbeats 4000000 in
set_option maxRecDepth 1000000 in
theorem qIx(b6 b1 S n:Nat)(w:World){B:Nat}{vR vL:Value}{H:List Value}{Z:Mx}{det:Bs}{lead:List Nat}{ek K:Value}(h6:w.cell? ⟨b6,0,none⟩=some (.pointer (some ⟨S,0,none⟩)))(h1:w.cell? ⟨b1,1,none⟩=some (qjQ n))(hS:Sch B S 227 68 30 3 n (2*n) ek K w vR vL H Z det lead) (hn:n<=16) (i k:Nat) (hi:i<n) (hk:k<n) :Calls prog 177 #[.int .i64 i,.int .i64 k,.pointer (some ⟨b6,0,none⟩),.pointer (some ⟨b1,0,none⟩)] w fun e w'=>e=.returned (q0j (q7w Z i (n+k)))/\w'=w.drew:=by
 obtain⟨O,cO,rfl,bO,ltO,rO,fO,tO⟩:=hS.rows (by omega);obtain⟨G,cG,eH,bG,ltG,zG,fG,tG⟩:=hS.head hi (by omega);have c1:=hS.cell.2.1;have c2:=rO i _ eH;have c3:=zG (n+k) (by omega);have hlt:n+k<2*n:=by omega
 generalize 2*n=C at *;have hlt2:(n:Int)+(k:Int)<(C:Int):=by omega
 have hlt3:((n:Int)+(k:Int)).toNat=n+k:=by omega
 unfold qjQ at h1;unfold q0j at c3 ⊢;clear rO zG fO fG tO tG eH
 go_enter func177,ntmps177
 go_wp2_with fail
 go_big_region
 go_wp2
 go_ret
 exact⟨rfl,rfl⟩
set_option maxHeartbeats 4000000 in
set_option maxRecDepth 1000000 in
theorem qHk(ml dv sb:Op2)(gl:World->Prop)(n:Nat)(hn:n<=16)(F:Nat->Nat->Bs)(vs:Value)(w:World)(hgl:∀w',Below w.heap.size w w'->gl w')(hml:qyo prog gl 124 ml) (hdv:qyo prog gl 142 dv) (hsb:qyo prog gl 115 sb)(hck:∀w',Below w.heap.size w w'->Calls prog 173 #[.agg #[.int .i64 n,.int .i64 n,vs]] w' fun e w''=>e=.returned (.int .i64 0)/\Below w'.heap.size w' w'')(hv:0<n->∃ab ao cap,vs=.slice (some ⟨ab,ao,none⟩) (n*n) cap/\n*n<=cap/\∀i k,i<n->k<n->w.cell? ⟨ab,ao+(i*n+k),none⟩=some (q0j (F i k)))(fin:RS) (hf:qte ml dv sb n n (2*n) n ⟨(List.range n).map (row0 F qiC n),[49],[],0⟩=some fin) (hvs:∃a l c,vs=.slice a l c) :Calls prog 130 #[.agg #[.int .i64 n,.int .i64 n,vs]] w fun e w'=>Below w.heap.size w w' /\((fin.lead.length < n /\ e = .returned (.tuple #[.agg #[.int .i64 0, .int .i64 0, .slice none 0 0], .int .i64 14])) \/(n<=fin.lead.length/\∃v,e=.returned (.tuple #[.agg #[.int .i64 n,.int .i64 n,v],.int .i64 0])/\w'.ownsRow w.heap.size 30 1 v (n*n) ((mkL (fun i k=>q7w fin.Z i (n+k)) n n).map q0j))):=by
  obtain⟨a0,l0,c0,rfl⟩:=hvs;obtain⟨W0,hW0⟩:∃W0,W0=(w.alloc (.cells #[.int .i64 n,.int .i64 n,.slice a0 l0 c0] 174)).alloc (.cells #[.int .i64 0,.int .i64 0,.slice none 0 0] 174):=⟨_,rfl⟩;have hb0:Below w.heap.size w W0:=by rw[hW0];exact((Below.refl w.heap.size w).alloc (qJe _) _).alloc (by rw[ju];omega) _
  have h1:W0.heap[w.heap.size]?=some (.cells #[.int .i64 n,.int .i64 n,.slice a0 l0 c0] 174 (0,0)):=by rw[hW0];exact qhO w _ _
  have h2:W0.heap[w.heap.size+1]?=some (.cells #[.int .i64 0,.int .i64 0,.slice none 0 0] 174 (0,0)):=by rw[hW0,<-ju w (.cells #[.int .i64 n,.int .i64 n,.slice a0 l0 c0] 174)];exact heap_alloc_new _ _
  have hs0:W0.heap.size=w.heap.size+1+1:=by rw[hW0,ju,ju]
  have keyC:=hck W0 hb0;obtain⟨c10,c11,c12⟩:=q5V h1;have HV:=Lib.hid hv;have HF:=Lib.hid hf;have HG:=Lib.hid hgl;clear hv hf hgl hck
  go_enter func130,ntmps130
  go_wp2_with fail
  rw[<-hW0];refine keyC.mono ?_;rintro e w1 ⟨rfl,hb1⟩;have B1:Below w.heap.size w w1:=hb0.trans (hb1.mono hb0.size);have g1:=(hb1.block _ (qJj.1 h1).1).trans h1;have g2:=(hb1.block _ (qJj.1 h2).1).trans h2;have hs1:w.heap.size+1+1<=w1.heap.size:=by have:=hb1.size;omega
  clear keyC h1 h2 c10 c11 c12 hW0 hb0 hb1 hs0;clear W0;obtain⟨c10,c11,c12⟩:=q5V g1
  go_wp2_with fail
  refine(qGl n hn w1).mono ?_;rintro e w2 ⟨vo,rfl,hb2,hou⟩;obtain⟨ao,no,co,rfl⟩:=q6w hou;have B2:Below w.heap.size w w2:=B1.trans (hb2.mono B1.size);have k1:=(hb2.block _ (qJj.1 g1).1).trans g1;have k2:=(hb2.block _ (qJj.1 g2).1).trans g2;have hs2:w.heap.size+1+1<=w2.heap.size:=by have:=hb2.size;omega
  clear g1 g2 c10 c11 c12;obtain⟨c10,c11,c12⟩:=q5V k1;have HU:=Lib.hid hou;clear hou hb2;have B3:Below w2.heap.size w2 (w2.alloc (.cells #[.int .i64 n,.int .i64 n,.slice ao no co] 174)):=(Below.refl _ w2).alloc (qJe _) _;have l1:=(B3.block _ (qJj.1 k1).1).trans k1;have l2:=(B3.block _ (qJj.1 k2).1).trans k2;obtain⟨d10,d11,d12⟩:=q5V l1
  go_wp2_with fail
  obtain⟨W3,hW3⟩:∃W3,W3=w2.alloc (.cells #[.int .i64 n,.int .i64 n,.slice ao no co] 174):=⟨_,rfl⟩;have m5:W3.heap[w2.heap.size]?=some (.cells #[.int .i64 n,.int .i64 n,.slice ao no co] 174 (0,0)):=by rw[hW3];exact heap_alloc_new _ _
  have hs3:W3.heap.size=w2.heap.size+1:=by rw[hW3,ju]
  rw[<-hW3] at B3 l1 l2 d10 d11 d12 ⊢;clear hW3 c10 c11 c12;have B13:Below w.heap.size w W3:=B2.trans (B3.mono B2.size);have keyE:=qH4 ml dv sb gl n hn F qiC (.slice a0 l0 c0) w2.heap.size w.heap.size W3 (fun w' hw'=>HG.out w' (B13.trans (hw'.mono B13.size))) hml hdv hsb
    (fun h=>by obtain⟨ab,ao,cap,q1,q2,q3⟩:=HV.out h;exact⟨ab,ao,cap,q1,q2,fun i k hi hk=>by rw[B13.cell (qKn w _ (q3 i k hi hk))];exact q3 i k hi hk⟩)
    (fun h=>by
      have ho3:=q11 HU.out B3;obtain⟨g,c,q1,_,_,_⟩:=qe4 ho3 (Nat.mul_pos h h);have hcap:n*n<=c:=by
        rcases ho3.2 with⟨z,_⟩|⟨g',cap',cur,z,_,_,z2,_⟩
        · rw[q1] at z;cases z
        · rw[q1] at z;cases z;exact z2
      refine⟨g,c,by rw[<-q1];exact(q5V m5).2.2,hcap,fun i k hi hk=>?_⟩;rw[q1] at ho3;have hik:i*n+k<n*n:=by have:=qJD n (show i+1<=n by omega);rw[qJt] at this;omega
      rw[ho3.cellAt (i*n+k) (by omega),qJo,qvz qiC n n i k hi hk];rfl)
    d10 fin HF.out
  refine keyE.mono ?_;rintro e w4 ⟨S,rfl,⟨vR,vL,H,hS⟩,hb4⟩;have B4:Below w.heap.size w w4:=B13.trans (hb4.mono B13.size);have k1:=(hb4.block _ (qJj.1 l1).1).trans l1;have k2:=(hb4.block _ (qJj.1 l2).1).trans l2;have hs4:w2.heap.size+1<=w4.heap.size:=by have:=hb4.size;omega
  have B5:Below w4.heap.size w4 (w4.alloc (.cells #[.pointer (some ⟨S,0,none⟩)] 219)):=(Below.refl _ w4).alloc (qJe _) _;have HS:=Lib.hid (hS.grow B5);have l1:=(B5.block _ (qJj.1 k1).1).trans k1;have l2:=(B5.block _ (qJj.1 k2).1).trans k2;clear keyE HU HV HF HG hS k1 k2 d10 d11 d12 m5;obtain⟨vl0,vlc,rfl⟩:=qyG HS.out.own;obtain⟨d10,d11,d12⟩:=q5V l1;have s3:=HS.out.cell.2.2.2.1
  go_wp2_with fail
  go_big_region
  have B6:Below w4.heap.size w4 (w4.alloc (.cells #[.pointer (some ⟨S,0,none⟩)] 219)).drew:=B5.drew;have n6:=qs6 w4 (.pointer (some ⟨S,0,none⟩)) 219;have SZ:(w4.alloc (.cells #[.pointer (some ⟨S,0,none⟩)] 219)).heap.size=w4.heap.size+1:=ju _ _;obtain⟨W6,hW6⟩:∃W6,W6=(w4.alloc (.cells #[.pointer (some ⟨S,0,none⟩)] 219)).drew:=⟨_,rfl⟩;have l1:W6.heap[w.heap.size]?=some (.cells #[.int .i64 n,.int .i64 n,.slice a0 l0 c0] 174 (0,0)):=by rw[hW6];exact l1
  have l2:W6.heap[w.heap.size+1]?=some (.cells #[.int .i64 0,.int .i64 0,.slice none 0 0] 174 (0,0)):=by rw[hW6];exact l2
  have n6:W6.cell? ⟨w4.heap.size,0,none⟩=some (.pointer (some ⟨S,0,none⟩)):=by rw[hW6];exact n6
  have SZ:W6.heap.size=w4.heap.size+1:=by rw[hW6];exact SZ
  have HS:=Lib.hid (HS.out.grow (Below.refl _ _).drew);rw[<-hW6] at B6 HS ⊢;clear hW6 B5 d10 d11 d12 s3;have B7:Below w.heap.size w W6:=B4.trans (B6.mono B4.size);obtain⟨d10,d11,d12⟩:=q5V l1;obtain⟨d20,d21,d22⟩:=q5V l2;have f20:=frozen_of_row W6 (w.heap.size+1) 0 _ 174 l2;have f21:=frozen_of_row W6 (w.heap.size+1) 1 _ 174 l2;have f22:=frozen_of_row W6 (w.heap.size+1) 2 _ 174 l2;have hle:w.heap.size<=w.heap.size+1:=by omega
  by_cases hl:fin.lead.length<n
  · have hl2:((fin.lead.length:Int)<(n:Int)):=by omega
    go_wp2_with fail
    refine bodyPost_ret (by simp[results,results130,go_sem, *];try rfl) rfl ?_;exact⟨((B7.setCell (p:=⟨w.heap.size+1,0,none⟩) hle _).setCell (p:=⟨w.heap.size+1,1,none⟩) hle _).setCell (p:=⟨w.heap.size+1,2,none⟩) hle _,.inl ⟨hl,rfl⟩⟩
  · have hl2:¬((fin.lead.length:Int)<(n:Int)):=by omega
    have keyM:=qA8 177 (ut func177 (by kernel_rfl) (by kernel_rfl)) #[.pointer (some ⟨w4.heap.size,0,none⟩),.pointer (some ⟨w.heap.size,0,none⟩)] n n hn hn (fun i k=>q7w fin.Z i (n+k)) W6 (fun i k w' hi hk hb =>
      (qIx w4.heap.size w.heap.size S n w' (by rw[hb.cell (qKn W6 _ n6)];exact n6) (by rw[hb.cell (qKn W6 _ d11)];exact d11) (HS.out.grow hb) hn i k hi hk).mono
        fun e w'' h=>⟨h.1,by rw[h.2];exact(Below.refl _ _).drew⟩)
    go_wp2_with fail
    refine keyM.mono ?_;rintro e w7 ⟨v,rfl,hb7,ho7⟩;obtain⟨a7,n7,c7,rfl⟩:=q6w ho7;have q2:=(hb7.block _ (qJj.1 l2).1).trans l2;obtain⟨e20,e21,e22⟩:=q5V q2;have f20:=frozen_of_row w7 (w.heap.size+1) 0 _ 174 q2;have f21:=frozen_of_row w7 (w.heap.size+1) 1 _ 174 q2;have f22:=frozen_of_row w7 (w.heap.size+1) 2 _ 174 q2;clear keyM d10 d11 d12 d20 d21 d22
    go_wp2_with fail
    refine bodyPost_ret (by simp[results,results130,go_sem, *];try rfl) rfl ?_;have hn0:(Value.slice a7 n7 c7).ownBlock≠some (w.heap.size+1):=fun hv=>by obtain⟨c',hc'⟩:=zx ho7 hv;exact qb4 q2 hc' (by decide) rfl
    exact⟨(((B7.trans (hb7.mono B7.size)).setCell (p:=⟨w.heap.size+1,0,none⟩) hle _).setCell (p:=⟨w.heap.size+1,1,none⟩) hle _).setCell (p:=⟨w.heap.size+1,2,none⟩) hle _,
      .inr ⟨by omega,_,rfl,qJ (qJ (qJ (q5k ho7 B7.size) hn0 _) hn0 _) hn0 _⟩⟩
end Go.Eng

namespace Go.Eng
open Go.RowKit Go.Proofs
open Tryz
def qGt(t:TR):Bool:=match t.run with
 | some (0,[.i e])=>decide (e=0)
 | _=>false
theorem qDG{t:TR}(h:qGt t=true):t.run=some (0,[.i 0]):=by
 unfold qGt at h;split at h
 ·rename_i e he;have:e=0:=by simpa using h
  subst this;exact he
 ·cases h
def qGu(ck ml dv sb:List PV->TR):List PV->TR
 | [.i r,.i c,.r l]=>if r=c/\0<=r/\r<=16/\l.length=r.toNat*r.toNat/\qGt (ck [.i r,.i c,.r l])=true then
   (match qte (opF ml) (opF dv) (opF sb) r.toNat r.toNat (2*r.toNat) r.toNat ⟨(List.range r.toNat).map (row0 (fun i k=>cS l ((i*r.toNat+k:Nat):Int) 0) qiC r.toNat),[49],[],0⟩ with
   | some fin=>if fin.lead.length<r.toNat then .leaf (0,[.i 0,.i 0,.r [],.i 14]) else .leaf (0,[.i r,.i r,.r ((mkL (fun i k=>q7w fin.Z i (r.toNat+k)) r.toNat r.toNat).map fun x=>[.s x]),.i 0])
   | none=>.fail) else .fail
 | _=>.fail
theorem qB7{ps:List PV}(h:ps.map PV.kind=[.i,.i,.r]):∃a b c,ps=[.i a,.i b,.r c]:=by
 match ps,h with
 | [.i a,.i b,.r c],_=>exact⟨a,b,c,rfl⟩
theorem qCH{T:List PV->TR}{a b:Int}{l:R}(h:(T [.i a,.i b,.r l]).run=some (0,[.i 0])) :(q9 ⟨[.agg [.int .i64,.int .i64,.imm [.str]]],[]⟩ [⟨.int .i64,[],none⟩] T [.agg [.int .i64 a,.int .i64 b,.imm [.str] l]] []).run=some (.int .i64 0,[]):=by unfold q9;have ht:(FIn.mk [.agg [.int .i64,.int .i64,.imm [.str]]] []).take [.agg [.int .i64 a,.int .i64 b,.imm [.str] l]] []=some [.i a,.i b,.r l]:=rfl;rw[ht];simp only[Tree.run,okR,h,qLt];simp[qB2,FOut.kinds,AP.kinds,BP.kindsL,qkL,gI,pR,h,PV.toI,FOut.make,AP.make,BP.makeL,Tree.run]
theorem qze{w:World}{B:Nat}{e:TypeId}{M:Nat->Prop}{v:Value}{n:Nat}{xs:List Bs}(h:w.ownsRow B e 1 v n (xs.map q0j))(hM:∀b,v.ownBlock=some b->M b):qdO w M [.str] (xs.map fun x=>[U.s x]) v:=by
 have hl:xs.length=n:=by have:=h.1;rw[qJm] at this;omega
 rcases h.2 with⟨rfl,h0⟩|⟨g,cap,cur,rfl,_,_,hc,_⟩
 ·exact .inl ⟨rfl,qKY (by rw[qJm];omega)⟩
 ·refine .inr ⟨⟨g,0,none⟩,cap,by rw[qJm,hl],fun _=>rfl,by rw[qJm,hl];exact hc,fun r j hj hr=>?_⟩;have hj0:j=0:=by simp at hj;exact hj
  subst hj0;rw[qJm] at hr;refine⟨hM g rfl,q0j xs[r],?_,?_⟩
  ·have:=h.cellAt r (by omega);rw[qJo,qJk hr] at this;simpa using this
  ·have:RepU w M .str (U.s xs[r]) (q0j xs[r]):=.str (U.s xs[r]);have e:wy (xs.map fun x=>[U.s x]) (r:Int) 0=U.s xs[r]:=by simp[wy,hr]
   rw[e];exact this
theorem qE8{X:Ctx}{a b:Int}{l:R}{vargs:List Value}(h:RepL X [.agg [.int .i64 a,.int .i64 b,.imm [.str] l]] vargs):∃v,vargs=[.agg #[.int .i64 a,.int .i64 b,v]]/\qdO X.w X.M [.str] l v:=by
 cases h with
 | cons h1 t=>
  cases t;cases h1 with
  | agg _ vs h2=>
   cases h2 with
   | cons q1 t1=>
    cases q1;cases t1 with
    | cons q2 t2=>
     cases q2;cases t2 with
     | cons q3 t3=>
      cases t3;cases q3 with
      | imm _ _ _ hv=>exact⟨_,rfl,hv⟩
theorem qzL{gl:List (Nat×AV)}{ck ml dv sb:List PV->TR}(hck:qT prog gl 173 (q9 ⟨[.agg [.int .i64,.int .i64,.imm [.str]]],[]⟩ [⟨.int .i64,[],none⟩] ck))(hml:qT prog gl 124 (q9 ⟨[.str,.str],[]⟩ [⟨.tuple [.str,.int .i64],[],none⟩] ml)) (hdv:qT prog gl 142 (q9 ⟨[.str,.str],[]⟩ [⟨.tuple [.str,.int .i64],[],none⟩] dv))(hsb:qT prog gl 115 (q9 ⟨[.str,.str],[]⟩ [⟨.tuple [.str,.int .i64],[],none⟩] sb)) :qT prog gl 130 (q9 ⟨[.agg [.int .i64,.int .i64,.imm [.str]]],[]⟩ [⟨.tuple [.agg [.int .i64,.int .i64,.imm [.str]],.int .i64],[],none⟩] (qGu ck ml dv sb)):=by
 refine qAy (ut func130 (by kernel_rfl) (by kernel_rfl)) rfl fun B X ps j qs vargs hs hgl hX ha hk hT=>?_;obtain⟨r,c,l,rfl⟩:=qB7 hk;have ha:RepL X [.agg [.int .i64 r,.int .i64 c,.imm [.str] l]] vargs:=ha;simp only[qGu] at hT;split at hT
 ·rename_i hc;obtain⟨rfl,hr0,hr16,hl,hok⟩:=hc;obtain⟨n,rfl⟩:∃n:Nat,r=(n:Int):=⟨r.toNat,by omega⟩;rw[qJq] at hT hl;split at hT
  ·rename_i fin hf;obtain⟨v,rfl,hv⟩:=qE8 ha;have hgY:∀w',Below X.w.heap.size X.w w'->q5D gl (qDN w' X.y):=fun w' hb=>qIu hs hX hgl hb;have op:∀{f:FuncId} {T:List PV->TR},qT prog gl f (q9 ⟨[.str,.str],[]⟩ [⟨.tuple [.str,.int .i64],[],none⟩] T)->qyo prog (fun w'=>Below X.w.heap.size X.w w') f (opF T):=
    fun hT w' hb a b r h=>qAE hT (hgY w' hb) h
   have key:=qHk (opF ml) (opF dv) (opF sb) (fun w'=>Below X.w.heap.size X.w w') n (by omega) (fun i k=>cS l ((i*n+k:Nat):Int) 0) v X.w (fun _ h=>h) (op hml) (op hdv) (op hsb)
    (fun w' hb=>by
     have m:=qI5 hs hX hb;refine(qtR hck (hgY w' hb) (args:=[.agg [.int .i64 n,.int .i64 n,.imm [.str] l]]) (vargs:=[.agg #[.int .i64 n,.int .i64 n,v]]) ?_ (qCH (qDG hok))).mono ?_
     ·exact ha.ext0 m
     ·rintro e w'' ⟨u,X',rfl,rfl,hu,_,_,hb'⟩;cases hu;exact⟨rfl,hb'⟩)
    (fun hn=>by
     rcases hv with⟨_,h0⟩|⟨a,cap,rfl,hsp,hcap,hrows⟩
     ·rw[h0] at hl;have:=Nat.mul_pos hn hn;simp at hl;omega
     ·have hpos:0<l.length:=by rw[hl];exact Nat.mul_pos hn hn
      obtain⟨ab,ao,sp⟩:=a;have:sp=none:=hsp hpos;subst this;refine⟨ab,ao,cap,by rw[hl],by omega,fun i k hi hk=>?_⟩;have hik:i*n+k<l.length:=by have:=qJD n (show i+1<=n by omega);rw[qJt] at this;omega
      obtain⟨_,u,q1,q2⟩:=hrows (i*n+k) 0 (by simp) hik;cases q2;simp only[List.length_singleton,qKX,qJU] at q1;rw[q1];rfl)
    fin hf (by
     rcases hv with⟨rfl,_⟩|⟨a,cap,rfl,_⟩
     ·exact⟨_,_,_,rfl⟩
     ·exact⟨_,_,_,rfl⟩)
   split at hT
   ·rename_i hlt;cases hT;refine⟨rfl,rfl,key.mono ?_⟩;rintro e w' ⟨hb,⟨_,rfl⟩|⟨h,_⟩⟩
    ·refine⟨_,X.M,rfl,hb,fun _ h=>h,fun _ h=>.inl h,?_⟩;exact .tuple _ [_,_] (.cons (.agg _ [_,_,_] (.cons (.int _ _) (.cons (.int _ _) (.cons (.imm _ _ _ (.inl ⟨rfl,rfl⟩)) .nil)))) (.cons (.int _ _) .nil))
    ·omega
   ·rename_i hge;cases hT;refine⟨rfl,rfl,key.mono ?_⟩;rintro e w' ⟨hb,⟨h,_⟩|⟨_,u,rfl,ho⟩⟩
    ·exact absurd h hge
    ·refine⟨_,fun m=>X.M m\/u.ownBlock=some m,rfl,hb,fun _ h=>.inl h,fun m h=>?_,?_⟩
     ·rcases h with h|h
      ·exact .inl h
      ·exact .inr (ho.lt m h)
     ·exact .tuple _ [_,_] (.cons (.agg _ [_,_,_] (.cons (.int _ _) (.cons (.int _ _) (.cons (.imm _ _ _ (qze ho fun b hb=>.inr hb)) .nil)))) (.cons (.int _ _) .nil))
  ·cases hT
 ·cases hT
end Go.Eng

namespace Go.Eng
open Go.Proofs
open Tryz
noncomputable def q7b:List (TypeId×TI):=[(1,(.mk .func 1 [.nilFunc] 8 false false)),(2,(.mk (.int .i64) 1 [(.int .i64 0)] 8 false false)),(3,(.mk (.int .i64) 1 [(.int .i64 0)] 8 false false)),(4,(.mk .bool 1 [(.bool false)] 1 false false)),(5,(.mk (.int .u8) 1 [(.int .u8 0)] 1 false false)),(6,(.mk (.int .u8) 1 [(.int .u8 0)] 1 false false)),(8,(.mk (.struct [(0,(2,1)),(1,(3,1)),(2,(4,1)),(3,(6,1))]) 4 [(.int .i64 0),(.int .i64 0),(.bool false),(.int .u8 0)] 24 true true)),(9,(.mk .str 1 [(.string (.mk (.mk [])))] 16 false false)),(10,(.mk .str 1 [(.string (.mk (.mk [])))] 16 false false)),(11,(.mk .str 1 [(.string (.mk (.mk [])))] 16 false false)),(12,(.mk (.int .u64) 1 [(.int .u64 0)] 8 false false)),(13,(.mk (.struct [(0,(9,1)),(1,(12,1))]) 2 [(.string (.mk (.mk []))),(.int .u64 0)] 24 false true)),(14,(.mk (.struct [(0,(9,1)),(1,(12,1))]) 2 [(.string (.mk (.mk []))),(.int .u64 0)] 24 false true)),(16,(.mk (.ptr 301) 1 [(.pointer .none)] 8 false false)),(17,(.mk (.ptr 309) 1 [(.pointer .none)] 8 false false)),(18,(.mk (.struct [(0,(17,1))]) 1 [(.pointer .none)] 8 false true)),(22,(.mk (.slice 26 2) 1 [(.slice .none 0 0)] 24 false false)),(26,(.mk (.struct [(0,(3,1)),(1,(3,1))]) 2 [(.int .i64 0),(.int .i64 0)] 16 true true)),(28,(.mk .func 1 [.nilFunc] 8 false false)),(30,(.mk .str 1 [(.string (.mk (.mk [])))] 16 false false)),(32,(.mk (.struct [(0,(30,1)),(1,(30,1))]) 2 [(.string (.mk (.mk []))),(.string (.mk (.mk [])))] 32 true true)),(33,(.mk (.slice 3 1) 1 [(.slice .none 0 0)] 24 false false)),(34,(.mk (.int .i64) 1 [(.int .i64 0)] 8 false false)),(39,(.mk .func 1 [.nilFunc] 8 false false)),(40,(.mk (.slice 43 3) 1 [(.slice .none 0 0)] 24 false false)),(43,(.mk (.struct [(0,(32,2)),(2,(30,1))]) 3 [(.string (.mk (.mk []))),(.string (.mk (.mk []))),(.string (.mk (.mk [])))] 48 true true)),(45,(.mk (.struct [(0,(3,1)),(1,(3,1)),(2,(3,1))]) 3 [(.int .i64 0),(.int .i64 0),(.int .i64 0)] 24 true true)),(46,(.mk (.struct [(0,(3,1)),(1,(3,1)),(2,(3,1))]) 3 [(.int .i64 0),(.int .i64 0),(.int .i64 0)] 24 true true)),(48,(.mk .func 1 [.nilFunc] 8 false false)),(50,(.mk .func 1 [.nilFunc] 8 false false)),(51,(.mk .func 1 [.nilFunc] 8 false false)),(52,(.mk .func 1 [.nilFunc] 8 false false)),(53,(.mk .func 1 [.nilFunc] 8 false false)),(54,(.mk .func 1 [.nilFunc] 8 false false)),(55,(.mk (.int .u16) 1 [(.int .u16 0)] 2 false false)),(57,(.mk .func 1 [.nilFunc] 8 false false)),(64,(.mk .func 1 [.nilFunc] 8 false false)),(67,(.mk (.array 3 30 1) 3 [(.string (.mk (.mk []))),(.string (.mk (.mk []))),(.string (.mk (.mk [])))] 48 false false)),(68,(.mk (.slice 30 1) 1 [(.slice .none 0 0)] 24 false false)),(70,(.mk (.struct [(0,(67,3)),(3,(30,1)),(4,(68,1))]) 5 [(.string (.mk (.mk []))),(.string (.mk (.mk []))),(.string (.mk (.mk []))),(.string (.mk (.mk []))),(.slice .none 0 0)] 88 true true)),(73,(.mk (.slice 115 3) 1 [(.slice .none 0 0)] 24 false false)),(76,(.mk .str 1 [(.string (.mk (.mk [])))] 16 false false)),(82,(.mk (.slice 76 1) 1 [(.slice .none 0 0)] 24 false false)),(87,(.mk (.ptr 89) 1 [(.pointer .none)] 8 false false)),(89,(.mk (.struct [(0,(34,1))]) 1 [(.int .i64 0)] 8 true true)),(96,(.mk .func 1 [.nilFunc] 8 false false)),(97,(.mk .func 1 [.nilFunc] 8 false false)),(99,(.mk .func 1 [.nilFunc] 8 false false)),(100,(.mk (.ptr 102) 1 [(.pointer .none)] 8 false false)),(101,(.mk (.struct [(0,(34,1))]) 1 [(.int .i64 0)] 8 true true)),(102,(.mk (.struct [(0,(34,1))]) 1 [(.int .i64 0)] 8 true true)),(105,(.mk .func 1 [.nilFunc] 8 false false)),(108,(.mk .func 1 [.nilFunc] 8 false false)),(109,(.mk .func 1 [.nilFunc] 8 false false)),(110,(.mk .func 1 [.nilFunc] 8 false false)),(115,(.mk (.struct [(0,(3,1)),(1,(3,1)),(2,(3,1))]) 3 [(.int .i64 0),(.int .i64 0),(.int .i64 0)] 24 true true)),(116,(.mk .func 1 [.nilFunc] 8 false false)),(120,(.mk .func 1 [.nilFunc] 8 false false)),(121,(.mk .func 1 [.nilFunc] 8 false false)),(123,(.mk (.slice 5 1) 1 [(.slice .none 0 0)] 24 false false)),(124,(.mk .func 1 [.nilFunc] 8 false false)),(125,(.mk .func 1 [.nilFunc] 8 false false)),(130,(.mk .func 1 [.nilFunc] 8 false false)),(135,(.mk .func 1 [.nilFunc] 8 false false)),(140,(.mk .func 1 [.nilFunc] 8 false false)),(141,(.mk (.slice 33 1) 1 [(.slice .none 0 0)] 24 false false)),(148,(.mk .func 1 [.nilFunc] 8 false false)),(150,(.mk (.struct [(0,(32,2)),(2,(32,2)),(4,(30,1))]) 5 [(.string (.mk (.mk []))),(.string (.mk (.mk []))),(.string (.mk (.mk []))),(.string (.mk (.mk []))),(.string (.mk (.mk [])))] 80 true true)),(154,(.mk .func 1 [.nilFunc] 8 false false)),(156,(.mk (.ptr 161) 1 [(.pointer .none)] 8 false false)),(159,(.mk (.array 232 3 1) 232 (List.replicate 232 (.int .i64 0)) 1856 false false)),(161,(.mk (.struct [(0,(4,1)),(1,(3,1)),(2,(159,232))]) 234 (List.append [(.bool false)] (List.replicate 233 (.int .i64 0))) 1872 true true)),(167,(.mk .func 1 [.nilFunc] 8 false false)),(174,(.mk (.struct [(0,(3,1)),(1,(3,1)),(2,(68,1))]) 3 [(.int .i64 0),(.int .i64 0),(.slice .none 0 0)] 40 true true)),(182,(.mk (.array 3 3 1) 3 [(.int .i64 0),(.int .i64 0),(.int .i64 0)] 24 false false)),(188,(.mk .func 1 [.nilFunc] 8 false false)),(224,(.mk (.struct [(0,(34,1))]) 1 [(.int .i64 0)] 8 true true)),(229,(.mk (.ptr 224) 1 [(.pointer .none)] 8 false false)),(243,(.mk .func 1 [.nilFunc] 8 false false)),(244,(.mk (.ptr 5) 1 [(.pointer .none)] 8 false false)),(246,(.mk .func 1 [.nilFunc] 8 false false)),(262,(.mk (.int .u32) 1 [(.int .u32 0)] 4 false false)),(272,(.mk (.int .u64) 1 [(.int .u64 0)] 8 false false)),(291,(.mk (.array 20 272 1) 20 [(.int .u64 0),(.int .u64 0),(.int .u64 0),(.int .u64 0),(.int .u64 0),(.int .u64 0),(.int .u64 0),(.int .u64 0),(.int .u64 0),(.int .u64 0),(.int .u64 0),(.int .u64 0),(.int .u64 0),(.int .u64 0),(.int .u64 0),(.int .u64 0),(.int .u64 0),(.int .u64 0),(.int .u64 0),(.int .u64 0)] 160 false false)),(299,(.mk (.array 0 16 1) 0 [] 0 false false)),(301,(.mk (.struct [(0,(299,0))]) 0 [] 0 false true)),(303,(.mk (.int .u8) 1 [(.int .u8 0)] 1 false false)),(304,(.mk (.int .u8) 1 [(.int .u8 0)] 1 false false)),(305,(.mk .func 1 [.nilFunc] 8 false false)),(306,(.mk (.int .i32) 1 [(.int .i32 0)] 4 false false)),(307,(.mk (.int .i32) 1 [(.int .i32 0)] 4 false false)),(309,(.mk (.struct [(0,(12,1)),(1,(12,1)),(2,(262,1)),(3,(303,1)),(4,(5,1)),(5,(5,1)),(6,(304,1)),(7,(305,1)),(8,(244,1)),(9,(306,1)),(10,(307,1))]) 11 [(.int .u64 0),(.int .u64 0),(.int .u32 0),(.int .u8 0),(.int .u8 0),(.int .u8 0),(.int .u8 0),.nilFunc,(.pointer .none),(.int .i32 0),(.int .i32 0)] 48 false true))]
noncomputable def qa:List (Nat×AV):=[(5,(.eptr [.int .u64,.int .u64,.int .u64,.int .u64,.int .u64,.int .u64,.int .u64,.int .u64,.int .u64,.int .u64,.int .u64,.int .u64,.int .u64,.int .u64,.int .u64,.int .u64,.int .u64,.int .u64,.int .u64,.int .u64] [[.i 1,.i 10,.i 100,.i 1000,.i 10000,.i 100000,.i 1000000,.i 10000000,.i 100000000,.i 1000000000,.i 10000000000,.i 100000000000,.i 1000000000000,.i 10000000000000,.i 100000000000000,.i 1000000000000000,.i 10000000000000000,.i 100000000000000000,.i 1000000000000000000,.i 10000000000000000000]] 0 0))]
theorem q8:q7b.map (fun x=>qtw prog x.1)=q7b.map (·.2):=by kernel_rfl
theorem qc:prog.follows .mixedOrders=true:=by kernel_rfl
noncomputable def qe(s:List (FuncId×(List AV->List Blk->Tree (AV×List Blk))))(b:List (FuncId×Func))(l:List ((FuncId×Nat)×(St->Tree (Ex×St))))(n:Nat):Env:=⟨q7b,qa,s,b,l,n,[],[],[]⟩
def q2h:FIn:=⟨[.str,.str],[]⟩
def q2j:List FOut:=[⟨(.int .i64),[],none⟩]
noncomputable def vO:List PV->TR:=quW
set_option maxRecDepth 100000 in
theorem q7p:qT prog qa 164 (q9 q2h q2j vO):=qwN lays219 (ut func164 (by kernel_rfl) (by kernel_rfl))
def uP:FIn:=⟨[.str,.str],[]⟩
def uO:List FOut:=[⟨(.tuple [.str,.str,.bool]),[],none⟩]
noncomputable def q3E:=qe [(164,q9 q2h q2j vO)] [(116,f116)] [] 0
noncomputable def ww:=qv q3E 116 f116 true uP uO
theorem q89:qT prog qa 116 (q9 uP uO ww):=sk q3E qc q8 (alc q7p aln) aln (b1 func116) func116
def qex:FIn:=⟨[.str,.str],[]⟩
def qe6:List FOut:=[⟨(.tuple [.str,.str,.bool]),[],none⟩]
noncomputable def qkw:=qe [(116,q9 uP uO ww)] [(81,f81)] [] 0
noncomputable def q6e:=qv qkw 81 f81 true qex qe6
theorem qnb:qT prog qa 81 (q9 qex qe6 q6e):=sk qkw qc q8 (alc q89 aln) aln (b1 func81) func81
def kY:FIn:=⟨[.str],[]⟩
def kL:List FOut:=[⟨(.tuple [.str,.str,.bool]),[],none⟩]
noncomputable def qof:=qe [(81,q9 qex qe6 q6e)] [(55,f55)] [] 0
noncomputable def qK:=qv qof 55 f55 true kY kL
theorem yY:qT prog qa 55 (q9 kY kL qK):=sk qof qc q8 (alc qnb aln) aln (b1 func55) func55
def zT:FIn:=⟨[.str,.str],[]⟩
def zU:List FOut:=[⟨.bool,[],none⟩]
noncomputable def q09:=qe [] [(166,f166)] [] 0
noncomputable def qN:=qv q09 166 f166 true zT zU
theorem uq:qT prog qa 166 (q9 zT zU qN):=sk q09 qc q8 aln aln (b1 func166) func166
def ja:FIn:=⟨[.str,.str],[]⟩
def j5:List FOut:=[⟨.str,[],none⟩]
noncomputable def ki:=qe [(166,q9 zT zU qN)] [(122,f122)] [] 0
noncomputable def zo:=qv ki 122 f122 true ja j5
theorem q43:qT prog qa 122 (q9 ja j5 zo):=sk ki qc q8 (alc uq aln) aln (b1 func122) func122
def yB:FIn:=⟨[.str,.str],[]⟩
def yD:List FOut:=[⟨.str,[],none⟩]
noncomputable def q8W:=qe [(122,q9 ja j5 zo)] [(87,f87)] [] 0
noncomputable def zh:=qv q8W 87 f87 true yB yD
theorem q1f:qT prog qa 87 (q9 yB yD zh):=sk q8W qc q8 (alc q43 aln) aln (b1 func87) func87
def qhV:FIn:=⟨[.str,.str],[]⟩
def qib:List FOut:=[⟨.str,[],none⟩]
noncomputable def q7G:List PV->TR:=qzB
set_option maxRecDepth 100000 in
theorem qlv:qT prog qa 108 (q9 qhV qib q7G):=qyE lays160 (ut func108 (by kernel_rfl) (by kernel_rfl)) (by kernel_rfl)
def km:FIn:=⟨[.str],[]⟩
def kh:List FOut:=[⟨(.int .i64),[],none⟩]
noncomputable def qkZ:=qe [(87,q9 yB yD zh),(108,q9 qhV qib q7G)] [(75,f75)] [] 0
noncomputable def zb:=qv qkZ 75 f75 true km kh
theorem uY:qT prog qa 75 (q9 km kh zb):=sk qkZ qc q8 (alc q1f (alc qlv aln)) aln (b1 func75) func75
def q2W:FIn:=⟨[(.imm [.str])],[]⟩
def q2P:List FOut:=[⟨(.int .i64),[],none⟩]
def qeC:Tmpl:={ t:=(qw 6 ((.imm [.str])::(.int .i64)::(.int .i64)::qw 9 [])),h:=[] }
def qdV:List Out:=[⟨(.exit 0),{ t:=(qw 18 []),h:=[] }⟩,⟨.ret,{ t:=(.any::.any::(.int .i64)::qw 15 []),h:=[] }⟩]
noncomputable def q9u:=qe [(75,q9 km kh zb)] [(84,f84)] [] 0
noncomputable def q5H:=vQ q9u 84 f84 3 qeC qdV
theorem qmT:ql prog qa q9u.nimp (qx prog q9u.iter 84) (zq f84 3) (qj qeC qdV (qh q5H)):=gk q9u qc q8 (alc uY aln) aln (b1 func84) func84
noncomputable def qpt:=qe [(75,q9 km kh zb)] [(84,f84)] [((84,3),qj qeC qdV (qh q5H))] 0
noncomputable def wA:=qv qpt 84 f84 true q2W q2P
theorem q1O:qT prog qa 84 (q9 q2W q2P wA):=sk qpt qc q8 (alc uY aln) (alc (lk func84 qmT) aln) (b1 func84) func84
def q80:FIn:=⟨[.str],[]⟩
def q7L:List FOut:=[⟨(.int .i64),[],none⟩]
noncomputable def qmO:=qe [] [(85,f85)] [] 0
noncomputable def yW:=qv qmO 85 f85 true q80 q7L
theorem qad:qT prog qa 85 (q9 q80 q7L yW):=sk qmO qc q8 aln aln (b1 func85) func85
def qdx:FIn:=⟨[.str,.str],[]⟩
def qd5:List FOut:=[⟨(.int .i64),[],none⟩]
noncomputable def q3x:List PV->TR:=qnn
set_option maxRecDepth 100000 in
theorem qhC:qT prog qa 121 (q9 qdx qd5 q3x):=qrA lays106 (ut func121 (by kernel_rfl) (by kernel_rfl))
def qeA:FIn:=⟨[.str,.str],[]⟩
def qdR:List FOut:=[⟨(.int .i64),[],none⟩]
noncomputable def qjV:=qe [(121,q9 qdx qd5 q3x)] [(86,f86)] [] 0
noncomputable def q5N:=qv qjV 86 f86 true qeA qdR
theorem qnj:qT prog qa 86 (q9 qeA qdR q5N):=sk qjV qc q8 (alc qhC aln) aln (b1 func86) func86
def q6q:FIn:=⟨[.str,.str],[]⟩
def q6p:List FOut:=[⟨(.tuple [(.int .i64),(.int .i64)]),[],none⟩]
noncomputable def qg1:=qe [(84,q9 q2W q2P wA),(85,q9 q80 q7L yW),(86,q9 qeA qdR q5N),(87,q9 yB yD zh)] [(57,f57)] [] 0
noncomputable def un:=qv qg1 57 f57 true q6q q6p
theorem qbH:qT prog qa 57 (q9 q6q q6p un):=sk qg1 qc q8 (alc q1O (alc qad (alc qnj (alc q1f aln)))) aln (b1 func57) func57
def qcL:FIn:=⟨[.str],[]⟩
def qcj:List FOut:=[⟨(.tuple [(.int .i64),.any]),[],none⟩]
noncomputable def jC:List PV->TR:=qC1
set_option maxRecDepth 100000 in
theorem qdF:qT prog qa 151 (q9 qcL qcj jC):=qy6 lays172 (ut func151 (by kernel_rfl) (by kernel_rfl))
def jf:FIn:=⟨[(.ptr 0 0)],[.big [.bool,(.int .i64)] .i64 232]⟩
def jc:List FOut:=[⟨(.ptr 0 0),[.big [.bool,(.int .i64)] .i64 232],none⟩]
def q1Z:Tmpl:={ t:=((.ptr 0 0)::qw 28 []),h:=[.big [.bool,(.int .i64)] .i64 232] }
def q21:List Out:=[⟨(.exit 0),{ t:=((.ptr 0 0)::qw 28 []),h:=[.big [.bool,(.int .i64)] .i64 232] }⟩]
noncomputable def uC:=qe [] [(152,f152)] [] 1
noncomputable def jk:=vQ uC 152 f152 2 q1Z q21
theorem qcv:ql prog qa uC.nimp (qx prog uC.iter 152) (zq f152 2) (qj q1Z q21 (qh jk)):=gk uC qc q8 aln aln (b1 func152) func152
noncomputable def q8M:=qe [] [(152,f152)] [((152,2),qj q1Z q21 (qh jk))] 1
noncomputable def qU:=qv q8M 152 f152 false jf jc
theorem yN:qT prog qa 152 (q9 jf jc qU):=qmf (E:=q8M) qc ⟨q6Q q8,⟨aln,aln⟩,(alc (lk func152 qcv) aln),(b1 func152)⟩ func152 (by kernel_rfl) (by kernel_rfl) (fun _=>rfl)
def q5r:FIn:=⟨[.str],[]⟩
def q5q:List FOut:=[⟨(.ptr 0 0),[.big [.bool,(.int .i64)] .i64 232],none⟩]
def qcP:Tmpl:={ t:=(.any::.any::.any::.str::(.ptr 0 0)::qw 43 []),h:=[.big [.bool,(.int .i64)] .i64 232] }
def qco:List Out:=[⟨(.exit 0),{ t:=(qw 4 ((.ptr 0 0)::qw 43 [])),h:=[.big [.bool,(.int .i64)] .i64 232] }⟩]
noncomputable def qel:List (FuncId×zE):=[(87,q9 yB yD zh),(151,q9 qcL qcj jC),(152,q9 jf jc qU)]
theorem qih:∀x,x∈qel->qT prog qa x.1 x.2:=(alc q1f (alc qdF (alc yN aln)))
noncomputable def q7C:=qe qel [(109,f109)] [] 0
noncomputable def q46:=vQ q7C 109 f109 5 qcP qco
theorem qlq:ql prog qa q7C.nimp (qx prog q7C.iter 109) (zq f109 5) (qj qcP qco (qh q46)):=gk q7C qc q8 qih aln (b1 func109) func109
noncomputable def qmE:=qe qel [(109,f109)] [((109,5),qj qcP qco (qh q46))] 0
noncomputable def wG:=qv qmE 109 f109 false q5r q5q
theorem q5X:qT prog qa 109 (q9 q5r q5q wG):=qmf (E:=qmE) qc ⟨q6Q q8,⟨qih,aln⟩,(alc (lk func109 qlq) aln),(b1 func109)⟩ func109 (by kernel_rfl) (by kernel_rfl) (fun _=>rfl)
def qia:FIn:=⟨[(.int .i64)],[]⟩
def qi2:List FOut:=[⟨.str,[],none⟩]
noncomputable def q3W:List PV->TR:=qAQ
set_option maxRecDepth 100000 in
theorem qlH:qT prog qa 153 (q9 qia qi2 q3W):=qym laysM171 (ut func153 (by kernel_rfl) (by kernel_rfl)) (by kernel_rfl) (by unfold qa;exact qJs)
def q9N:FIn:=⟨[(.int .i64)],[]⟩
def q9J:List FOut:=[⟨.str,[],none⟩]
noncomputable def qrj:=qe [(153,q9 qia qi2 q3W)] [(110,f110)] [] 0
noncomputable def wJ:=qv qrj 110 f110 true q9N q9J
theorem q9o:qT prog qa 110 (q9 q9N q9J wJ):=sk qrj qc q8 (alc qlH aln) aln (b1 func110) func110
def q1q:FIn:=⟨[(.ptr 0 0),(.ptr 1 0)],[.big [.bool,(.int .i64)] .i64 232,.big [.bool,(.int .i64)] .i64 232]⟩
def q1a:List FOut:=[⟨(.int .i64),[.big [.bool,(.int .i64)] .i64 232,.big [.bool,(.int .i64)] .i64 232],none⟩]
def q2T:Tmpl:={ t:=((.ptr 0 0)::(.ptr 1 0)::.any::.any::.any::(.int .i64)::qw 53 []),h:=[.big [.bool,(.int .i64)] .i64 232,.big [.bool,(.int .i64)] .i64 232] }
def q2O:List Out:=[⟨(.exit 0),{ t:=(qw 59 []),h:=[.big [.bool,(.int .i64)] .i64 232,.big [.bool,(.int .i64)] .i64 232] }⟩,⟨.ret,{ t:=(qw 4 ((.int .i64)::qw 54 [])),h:=[.big [.bool,(.int .i64)] .i64 232,.big [.bool,(.int .i64)] .i64 232] }⟩]
noncomputable def kg:=qe [] [(154,f154)] [] 2
noncomputable def jO:=vQ kg 154 f154 6 q2T q2O
theorem qdq:ql prog qa kg.nimp (qx prog kg.iter 154) (zq f154 6) (qj q2T q2O (qh jO)):=gk kg qc q8 aln aln (b1 func154) func154
noncomputable def qaC:=qe [] [(154,f154)] [((154,6),qj q2T q2O (qh jO))] 2
noncomputable def vh:=qv qaC 154 f154 true q1q q1a
theorem q6T:qT prog qa 154 (q9 q1q q1a vh):=sk qaC qc q8 aln (alc (lk func154 qdq) aln) (b1 func154) func154
def q8q:FIn:=⟨[(.ptr 0 0),(.ptr 1 0)],[.big [.bool,(.int .i64)] .i64 232,.big [.bool,(.int .i64)] .i64 232]⟩
def q8t:List FOut:=[⟨(.int .i64),[.big [.bool,(.int .i64)] .i64 232,.big [.bool,(.int .i64)] .i64 232],none⟩]
noncomputable def qfa:=qe [] [(155,f155),(195,f195)] [] 2
noncomputable def q1N:=qv qfa 155 f155 true q8q q8t
theorem qj7:qT prog qa 155 (q9 q8q q8t q1N):=sk qfa qc q8 aln aln (alc (bk func155) (alc (bk func195) aln)) func155
def jP:FIn:=⟨[(.ptr 0 0),(.ptr 1 0),(.int .i64),(.int .i64)],[.big [.bool,(.int .i64)] .i64 232,.big [.bool,(.int .i64)] .i64 232]⟩
def yi:List FOut:=[⟨(.tuple []),[.big [.bool,(.int .i64)] .i64 232,.big [.bool,(.int .i64)] .i64 232],none⟩]
def q3L:Tmpl:={ t:=((.ptr 0 0)::(.ptr 1 0)::(.int .i64)::(.int .i64)::qw 4 ((.int .i64)::(.int .i64)::qw 73 [])),h:=[.big [.bool,(.int .i64)] .i64 232,.big [.bool,(.int .i64)] .i64 232] }
def q3G:List Out:=[⟨(.exit 0),{ t:=((.ptr 0 0)::qw 82 []),h:=[.big [.bool,(.int .i64)] .i64 232,.big [.bool,(.int .i64)] .i64 232] }⟩]
noncomputable def q0e:=qe [(152,q9 jf jc qU)] [(156,f156)] [] 2
noncomputable def jg:=vQ q0e 156 f156 3 q3L q3G
theorem qeI:ql prog qa q0e.nimp (qx prog q0e.iter 156) (zq f156 3) (qj q3L q3G (qh jg)):=gk q0e qc q8 (alc yN aln) aln (b1 func156) func156
noncomputable def qbp:=qe [(152,q9 jf jc qU)] [(156,f156)] [((156,3),qj q3L q3G (qh jg))] 2
noncomputable def qZ:=qv qbp 156 f156 true jP yi
theorem kv:qT prog qa 156 (q9 jP yi qZ):=sk qbp qc q8 (alc yN aln) (alc (lk func156 qeI) aln) (b1 func156) func156
def q5Z:FIn:=⟨[(.ptr 0 0),(.ptr 1 0)],[.big [.bool,(.int .i64)] .i64 232,.big [.bool,(.int .i64)] .i64 232]⟩
def q6g:List FOut:=[⟨(.tuple [(.ptr 2 0),(.ptr 3 0)]),[.big [.bool,(.int .i64)] .i64 232,.big [.bool,(.int .i64)] .i64 232,.big [.bool,(.int .i64)] .i64 232,.big [.bool,(.int .i64)] .i64 232],none⟩]
def q5Y:Tmpl:={ t:=((.ptr 0 0)::(.ptr 1 0)::qw 4 ((.ptr 2 0)::(.ptr 3 0)::(.int .i64)::(.int .i64)::qw 80 [])),h:=[.big [.bool,(.int .i64)] .i64 232,.big [.bool,(.int .i64)] .i64 232,.big [.bool,(.int .i64)] .i64 232,.big [.bool,(.int .i64)] .i64 232] }
def q6l:List Out:=[⟨(.exit 2),{ t:=((.ptr 0 0)::(.ptr 1 0)::qw 4 ((.ptr 2 0)::(.ptr 3 0)::(.int .i64)::(.int .i64)::qw 80 [])),h:=[.big [.bool,(.int .i64)] .i64 232,.big [.bool,(.int .i64)] .i64 232,.big [.bool,(.int .i64)] .i64 232,.big [.bool,(.int .i64)] .i64 232] }⟩]
noncomputable def q4C:List (FuncId×zE):=[(152,q9 jf jc qU),(154,q9 q1q q1a vh),(155,q9 q8q q8t q1N),(156,q9 jP yi qZ)]
theorem q76:∀x,x∈q4C->qT prog qa x.1 x.2:=(alc yN (alc q6T (alc qj7 (alc kv aln))))
noncomputable def q2o:=qe q4C [(111,f111)] [] 2
noncomputable def jZ:=vQ q2o 111 f111 14 q5Y q6l
theorem qg8:ql prog qa q2o.nimp (qx prog q2o.iter 111) (zq f111 14) (qj q5Y q6l (qh jZ)):=gk q2o qc q8 q76 aln (b1 func111) func111
def q7s:Tmpl:={ t:=((.ptr 0 0)::(.ptr 1 0)::qw 4 ((.ptr 2 0)::(.ptr 3 0)::(.int .i64)::qw 81 [])),h:=[.big [.bool,(.int .i64)] .i64 232,.big [.bool,(.int .i64)] .i64 232,.big [.bool,(.int .i64)] .i64 232,.big [.bool,(.int .i64)] .i64 232] }
def q7t:List Out:=[⟨(.exit 0),{ t:=(qw 6 ((.ptr 2 0)::(.ptr 3 0)::qw 82 [])),h:=[.big [.bool,(.int .i64)] .i64 232,.big [.bool,(.int .i64)] .i64 232,.big [.bool,(.int .i64)] .i64 232,.big [.bool,(.int .i64)] .i64 232] }⟩]
noncomputable def q3z:=qe q4C [(111,f111)] [((111,14),qj q5Y q6l (qh jZ))] 2
noncomputable def q0S:=vQ q3z 111 f111 4 q7s q7t
theorem qhw:ql prog qa q3z.nimp (qx prog q3z.iter 111) (zq f111 4) (qj q7s q7t (qh q0S)):=gk q3z qc q8 q76 (alc (lk func111 qg8) aln) (b1 func111) func111
noncomputable def qfS:=qe q4C [(111,f111)] [((111,4),qj q7s q7t (qh q0S))] 2
noncomputable def uh:=qv qfS 111 f111 false q5Z q6g
theorem qbm:qT prog qa 111 (q9 q5Z q6g uh):=qmf (E:=qfS) qc ⟨q6Q q8,⟨q76,aln⟩,(alc (lk func111 qhw) aln),(b1 func111)⟩ func111 (by kernel_rfl) (by kernel_rfl) (fun _=>rfl)
def q3a:FIn:=⟨[(.ptr 0 0)],[.big [.bool,(.int .i64)] .i64 232]⟩
def q3r:List FOut:=[⟨.str,[.big [.bool,(.int .i64)] .i64 232],none⟩]
noncomputable def zy:List PV->TR:=qzy
theorem q3I:qT prog qa 112 (q9 q3a q3r zy):=qyz (by unfold qa;exact qJs)
def qaz:FIn:=⟨[.str,.str],[]⟩
def q9W:List FOut:=[⟨(.tuple [.str,(.int .i64)]),[],none⟩]
def qcc:Tmpl:={ t:=(qw 9 ((.int .i64)::(.int .i64)::qw 61 [])),h:=[] }
def qc4:List Out:=[⟨(.exit 2),{ t:=(qw 9 ((.int .i64)::qw 62 [])),h:=[] }⟩]
noncomputable def qbl:List (FuncId×zE):=[(84,q9 q2W q2P wA),(109,q9 q5r q5q wG),(110,q9 q9N q9J wJ),(111,q9 q5Z q6g uh),(112,q9 q3a q3r zy)]
theorem qee:∀x,x∈qbl->qT prog qa x.1 x.2:=(alc q1O (alc q5X (alc q9o (alc qbm (alc q3I aln)))))
noncomputable def q7A:=qe qbl [(76,f76)] [] 0
noncomputable def q1T:=vQ q7A 76 f76 14 qcc qc4
theorem qm4:ql prog qa q7A.nimp (qx prog q7A.iter 76) (zq f76 14) (qj qcc qc4 (qh q1T)):=gk q7A qc q8 qee aln (b1 func76) func76
def qeG:Tmpl:={ t:=(qw 7 ((.ptr 1 0)::(.ptr 2 0)::qw 63 [])),h:=[.dead,.big [.bool,(.int .i64)] .i64 232,.big [.bool,(.int .i64)] .i64 232],sw:=[(7,1),(8,2)],swn:=0 }
def qet:List Out:=[⟨(.exit 0),{ t:=(qw 7 ((.ptr 1 0)::qw 64 [])),h:=[.dead,.big [.bool,(.int .i64)] .i64 232] }⟩,⟨.ret,{ t:=(qw 4 (.str::(.int .i64)::qw 66 [])),h:=[] }⟩]
noncomputable def q9b:=qe qbl [(76,f76)] [((76,14),qj qcc qc4 (qh q1T))] 0
noncomputable def q6B:=vQ q9b 76 f76 7 qeG qet
theorem qn1:ql prog qa q9b.nimp (qx prog q9b.iter 76) (zq f76 7) (qj qeG qet (qh q6B)):=gk q9b qc q8 qee (alc (lk func76 qm4) aln) (b1 func76) func76
noncomputable def qoQ:=qe qbl [(76,f76)] [((76,7),qj qeG qet (qh q6B))] 0
noncomputable def q2D:=qv qoQ 76 f76 true qaz q9W
theorem qcR:qT prog qa 76 (q9 qaz q9W q2D):=sk qoQ qc q8 qee (alc (lk func76 qn1) aln) (b1 func76) func76
def yQ:FIn:=⟨[.str],[]⟩
def yP:List FOut:=[⟨(.int .i64),[],none⟩]
noncomputable def qke:=qe [(55,q9 kY kL qK),(57,q9 q6q q6p un),(75,q9 km kh zb),(76,q9 qaz q9W q2D)] [(48,f48)] [] 0
noncomputable def z8:=qv qke 48 f48 true yQ yP
theorem yv:qT prog qa 48 (q9 yQ yP z8):=sk qke qc q8 (alc yY (alc qbH (alc uY (alc qcR aln)))) aln (b1 func48) func48
def q9h:FIn:=⟨[(.agg [.str,.str,.str])],[]⟩
def q9w:List FOut:=[⟨(.int .i64),[],none⟩]
def q9Y:Tmpl:={ t:=(.any::(.ptr 0 0)::qw 12 ((.vec 1)::(.int .i64)::(.int .i64)::qw 13 [])),h:=[.cells [.str,.str,.str],.vec 30 [.str]] }
def qaf:List Out:=[⟨(.exit 0),{ t:=(.any::(.ptr 0 0)::qw 28 []),h:=[.cells [.str,.str,.str]] }⟩,⟨.ret,{ t:=(.any::.any::(.int .i64)::qw 27 []),h:=[] }⟩]
noncomputable def q66:=qe [(48,q9 yQ yP z8)] [(47,f47)] [] 0
noncomputable def q2I:=vQ q66 47 f47 3 q9Y qaf
theorem qjI:ql prog qa q66.nimp (qx prog q66.iter 47) (zq f47 3) (qj q9Y qaf (qh q2I)):=gk q66 qc q8 (alc yv aln) aln (b1 func47) func47
noncomputable def qky:=qe [(48,q9 yQ yP z8)] [(47,f47)] [((47,3),qj q9Y qaf (qh q2I))] 0
noncomputable def q3v:=qv qky 47 f47 true q9h q9w
theorem qf8:qT prog qa 47 (q9 q9h q9w q3v):=sk qky qc q8 (alc yv aln) (alc (lk func47 qjI) aln) (b1 func47) func47
def qbv:FIn:=⟨[(.imm [.str,.str,.str])],[]⟩
def qbJ:List FOut:=[⟨(.int .i64),[],none⟩]
def qc2:Tmpl:={ t:=((.imm [.str,.str,.str])::qw 8 ((.imm [.str,.str,.str])::(.int .i64)::(.int .i64)::qw 12 [])),h:=[] }
def qbT:List Out:=[⟨(.exit 0),{ t:=((.imm [.str,.str,.str])::qw 23 []),h:=[] }⟩,⟨.ret,{ t:=(.any::.any::(.int .i64)::qw 21 []),h:=[] }⟩]
noncomputable def q7I:=qe [(47,q9 q9h q9w q3v)] [(45,f45)] [] 0
noncomputable def q44:=vQ q7I 45 f45 6 qc2 qbT
theorem qm7:ql prog qa q7I.nimp (qx prog q7I.iter 45) (zq f45 6) (qj qc2 qbT (qh q44)):=gk q7I qc q8 (alc qf8 aln) aln (b1 func45) func45
noncomputable def qmI:=qe [(47,q9 q9h q9w q3v)] [(45,f45)] [((45,6),qj qc2 qbT (qh q44))] 0
noncomputable def q10:=qv qmI 45 f45 true qbv qbJ
theorem qfO:qT prog qa 45 (q9 qbv qbJ q10):=sk qmI qc q8 (alc qf8 aln) (alc (lk func45 qm7) aln) (b1 func45) func45
def q6n:FIn:=⟨[.str,.str],[]⟩
def q6y:List FOut:=[⟨(.tuple [(.int .i64),(.int .i64),.bool]),[],none⟩]
noncomputable def qkN:=qe [(151,q9 qcL qcj jC)] [(117,f117)] [] 0
noncomputable def yS:=qv qkN 117 f117 true q6n q6y
theorem q8f:qT prog qa 117 (q9 q6n q6y yS):=sk qkN qc q8 (alc qdF aln) aln (b1 func117) func117
def q7B:FIn:=⟨[(.int .i64)],[]⟩
def q7D:List FOut:=[⟨(.tuple [.str,(.int .i64)]),[],none⟩]
noncomputable def qid:=qe [(110,q9 q9N q9J wJ)] [(118,f118)] [] 0
noncomputable def kG:=qv qid 118 f118 true q7B q7D
theorem qdb:qT prog qa 118 (q9 q7B q7D kG):=sk qid qc q8 (alc q9o aln) aln (b1 func118) func118
def q6F:FIn:=⟨[(.ptr 0 0),(.ptr 1 0)],[.big [.bool,(.int .i64)] .i64 232,.big [.bool,(.int .i64)] .i64 232]⟩
def q6u:List FOut:=[⟨(.ptr 2 0),[.big [.bool,(.int .i64)] .i64 232,.big [.bool,(.int .i64)] .i64 232,.big [.bool,(.int .i64)] .i64 232],none⟩]
def q3M:Tmpl:={ t:=((.ptr 0 0)::(.ptr 1 0)::.any::.any::.any::(.ptr 2 0)::qw 15 ((.int .i64)::(.int .i64)::qw 14 [])),h:=[.big [.bool,(.int .i64)] .i64 232,.big [.bool,(.int .i64)] .i64 232,.big [.bool,(.int .i64)] .i64 232] }
def q3F:List Out:=[⟨(.exit 0),{ t:=(qw 5 ((.ptr 2 0)::qw 31 [])),h:=[.big [.bool,(.int .i64)] .i64 232,.big [.bool,(.int .i64)] .i64 232,.big [.bool,(.int .i64)] .i64 232] }⟩]
noncomputable def q0c:=qe [(156,q9 jP yi qZ)] [(119,f119)] [] 2
noncomputable def yH:=vQ q0c 119 f119 4 q3M q3F
theorem qe5:ql prog qa q0c.nimp (qx prog q0c.iter 119) (zq f119 4) (qj q3M q3F (qh yH)):=gk q0c qc q8 (alc kv aln) aln (b1 func119) func119
noncomputable def qbs:=qe [(156,q9 jP yi qZ)] [(119,f119)] [((119,4),qj q3M q3F (qh yH))] 2
noncomputable def kq:=qv qbs 119 f119 false q6F q6u
theorem qfQ:qT prog qa 119 (q9 q6F q6u kq):=qmf (E:=qbs) qc ⟨q6Q q8,⟨(alc kv aln),aln⟩,(alc (lk func119 qe5) aln),(b1 func119)⟩ func119 (by kernel_rfl) (by kernel_rfl) (fun _=>rfl)
def q0i:FIn:=⟨[(.ptr 0 0)],[.big [.bool,(.int .i64)] .i64 232]⟩
def q0d:List FOut:=[⟨(.tuple [.str,(.int .i64)]),[.big [.bool,(.int .i64)] .i64 232],none⟩]
noncomputable def q8O:=qe [(75,q9 km kh zb),(112,q9 q3a q3r zy)] [(120,f120)] [] 1
noncomputable def wB:=qv q8O 120 f120 true q0i q0d
theorem q6r:qT prog qa 120 (q9 q0i q0d wB):=sk q8O qc q8 (alc uY (alc q3I aln)) aln (b1 func120) func120
def q9Z:FIn:=⟨[.str,.str],[]⟩
def qar:List FOut:=[⟨(.tuple [.str,(.int .i64)]),[],none⟩]
noncomputable def qoc:=qe [(84,q9 q2W q2P wA),(109,q9 q5r q5q wG),(117,q9 q6n q6y yS),(118,q9 q7B q7D kG),(119,q9 q6F q6u kq),(120,q9 q0i q0d wB)] [(83,f83)] [] 0
noncomputable def q57:=qv qoc 83 f83 true q9Z qar
theorem qca:qT prog qa 83 (q9 q9Z qar q57):=sk qoc qc q8 (alc q1O (alc q5X (alc q8f (alc qdb (alc qfQ (alc q6r aln)))))) aln (b1 func83) func83
def jH:FIn:=⟨[(.ptr 0 0),(.fn 83 [] []),.str,.str],[.cells [(.int .i64)]]⟩
def jJ:List FOut:=[⟨.str,[.cells [(.int .i64)]],none⟩]
noncomputable def q4z:=qe [(83,q9 q9Z qar q57)] [(82,f82)] [] 1
noncomputable def zL:=qv q4z 82 f82 true jH jJ
theorem q2e:qT prog qa 82 (q9 jH jJ zL):=sk q4z qc q8 (alc qca aln) aln (b1 func82) func82
def vb:FIn:=⟨[(.ptr 0 0),(.imm [.str])],[.cells [(.int .i64)]]⟩
def va:List FOut:=[⟨.str,[.cells [(.int .i64)]],none⟩]
def q6h:Tmpl:={ t:=(qw 5 (.str::(.fn 82 [(.ptr 0 0)] [])::qw 4 ((.imm [.str])::(.int .i64)::(.int .i64)::qw 9 []))),h:=[.cells [(.int .i64)]] }
def q5L:List Out:=[⟨(.exit 0),{ t:=(qw 5 (.str::qw 17 [])),h:=[.cells [(.int .i64)]] }⟩]
noncomputable def q2d:=qe [(83,q9 q9Z qar q57),(82,q9 jH jJ zL)] [(56,f56)] [] 1
noncomputable def jX:=vQ q2d 56 f56 4 q6h q5L
theorem qgo:ql prog qa q2d.nimp (qx prog q2d.iter 56) (zq f56 4) (qj q6h q5L (qh jX)):=gk q2d qc q8 (alc qca (alc q2e aln)) aln (b1 func56) func56
noncomputable def qfm:=qe [(83,q9 q9Z qar q57),(82,q9 jH jJ zL)] [(56,f56)] [((56,4),qj q6h q5L (qh jX))] 1
noncomputable def qf:=qv qfm 56 f56 true vb va
theorem vk:qT prog qa 56 (q9 vb va qf):=sk qfm qc q8 (alc qca (alc q2e aln)) (alc (lk func56 qgo) aln) (b1 func56) func56
def q3o:FIn:=⟨[(.ptr 0 0),(.ptr 1 0)],[.big [.bool,(.int .i64)] .i64 232,.big [.bool,(.int .i64)] .i64 232]⟩
def q33:List FOut:=[⟨(.tuple []),[.big [.bool,(.int .i64)] .i64 232,.big [.bool,(.int .i64)] .i64 232],none⟩]
noncomputable def qdy:=qe [(154,q9 q1q q1a vh),(156,q9 jP yi qZ)] [(241,f241)] [] 2
noncomputable def vt:=qv qdy 241 f241 true q3o q33
theorem q8R:qT prog qa 241 (q9 q3o q33 vt):=sk qdy qc q8 (alc q6T (alc kv aln)) aln (b1 func241) func241
def qiR:FIn:=⟨[(.imm [.str])],[]⟩
def qjm:List FOut:=[⟨(.tuple [.str,(.int .i64)]),[],none⟩]
def qec:Tmpl:={ t:=(qw 4 ((.ptr 0 0)::qw 4 ((.imm [.str])::(.int .i64)::(.int .i64)::qw 12 []))),h:=[.big [.bool,(.int .i64)] .i64 232] }
def qeB:List Out:=[⟨(.exit 0),{ t:=(qw 4 ((.ptr 0 0)::qw 19 [])),h:=[.big [.bool,(.int .i64)] .i64 232] }⟩]
noncomputable def qgn:List (FuncId×zE):=[(109,q9 q5r q5q wG),(120,q9 q0i q0d wB),(241,q9 q3o q33 vt)]
theorem qkf:∀x,x∈qgn->qT prog qa x.1 x.2:=(alc q5X (alc q6r (alc q8R aln)))
noncomputable def q8Z:=qe qgn [(227,f227)] [] 0
noncomputable def q6a:=vQ q8Z 227 f227 4 qec qeB
theorem qnf:ql prog qa q8Z.nimp (qx prog q8Z.iter 227) (zq f227 4) (qj qec qeB (qh q6a)):=gk q8Z qc q8 qkf aln (b1 func227) func227
noncomputable def qnI:=qe qgn [(227,f227)] [((227,4),qj qec qeB (qh q6a))] 0
noncomputable def qah:=qv qnI 227 f227 true qiR qjm
theorem qqk:qT prog qa 227 (q9 qiR qjm qah):=sk qnI qc q8 qkf (alc (lk func227 qnf) aln) (b1 func227) func227
def qam:FIn:=⟨[.str,.str],[]⟩
def qav:List FOut:=[⟨(.tuple [.str,(.int .i64)]),[],none⟩]
noncomputable def qp1:=qe [(84,q9 q2W q2P wA),(117,q9 q6n q6y yS),(118,q9 q7B q7D kG),(227,q9 qiR qjm qah)] [(206,f206)] [] 0
noncomputable def q2N:=qv qp1 206 f206 true qam qav
theorem qcf:qT prog qa 206 (q9 qam qav q2N):=sk qp1 qc q8 (alc q1O (alc q8f (alc qdb (alc qqk aln)))) aln (b1 func206) func206
def q8w:FIn:=⟨[.str],[]⟩
def q8s:List FOut:=[⟨.str,[],none⟩]
noncomputable def qf0:=qe [(85,q9 q80 q7L yW)] [(224,f224)] [] 0
noncomputable def q1H:=qv qf0 224 f224 true q8w q8s
theorem qiz:qT prog qa 224 (q9 q8w q8s q1H):=sk qf0 qc q8 (alc qad aln) aln (b1 func224) func224
def qev:FIn:=⟨[.str,.str],[]⟩
def qdQ:List FOut:=[⟨(.tuple [.str,(.int .i64)]),[],none⟩]
noncomputable def qon:=qe [(84,q9 q2W q2P wA),(206,q9 qam qav q2N),(224,q9 q8w q8s q1H)] [(200,f200)] [] 0
noncomputable def q7a:=qv qon 200 f200 true qev qdQ
theorem qi9:qT prog qa 200 (q9 qev qdQ q7a):=sk qon qc q8 (alc q1O (alc qcf (alc qiz aln))) aln (b1 func200) func200
def q04:FIn:=⟨[(.ptr 0 0),(.fn 200 [] []),.str,.str],[.cells [(.int .i64)]]⟩
def q07:List FOut:=[⟨.str,[.cells [(.int .i64)]],none⟩]
noncomputable def q4f:=qe [(200,q9 qev qdQ q7a)] [(82,f82)] [] 1
noncomputable def wQ:=qv q4f 82 f82 true q04 q07
theorem q8Y:qT prog qa 82 (q9 q04 q07 wQ):=sk q4f qc q8 (alc qi9 aln) aln (b1 func82) func82
def uZ:FIn:=⟨[(.ptr 0 0),.str,.str],[.cells [(.int .i64)]]⟩
def uU:List FOut:=[⟨.str,[.cells [(.int .i64)]],none⟩]
noncomputable def qf6:=qe [(200,q9 qev qdQ q7a),(82,q9 q04 q07 wQ)] [(163,f163)] [] 1
noncomputable def zu:=qv qf6 163 f163 true uZ uU
theorem q1t:qT prog qa 163 (q9 uZ uU zu):=sk qf6 qc q8 (alc qi9 (alc q8Y aln)) aln (b1 func163) func163
def q9g:FIn:=⟨[(.ptr 0 0),.str,.str,.str,.str],[.cells [(.int .i64)]]⟩
def q92:List FOut:=[⟨(.tuple [.str,.str]),[.cells [(.int .i64)]],none⟩]
noncomputable def qjC:=qe [(56,q9 vb va qf),(163,q9 uZ uU zu)] [(162,f162)] [] 1
noncomputable def q2Y:=qv qjC 162 f162 true q9g q92
theorem qeU:qT prog qa 162 (q9 q9g q92 q2Y):=sk qjC qc q8 (alc vk (alc q1t aln)) aln (b1 func162) func162
def v7:FIn:=⟨[(.imm [.str])],[]⟩
def wZ:List FOut:=[⟨(.int .i64),[],none⟩]
def q8o:Tmpl:={ t:=(qw 6 ((.imm [.str])::(.int .i64)::(.int .i64)::qw 9 [])),h:=[] }
def q8A:List Out:=[⟨(.exit 0),{ t:=(qw 18 []),h:=[] }⟩,⟨.ret,{ t:=(.any::.any::(.int .i64)::qw 15 []),h:=[] }⟩]
noncomputable def q4K:=qe [(48,q9 yQ yP z8)] [(54,f54)] [] 0
noncomputable def q1y:=vQ q4K 54 f54 3 q8o q8A
theorem qiW:ql prog qa q4K.nimp (qx prog q4K.iter 54) (zq f54 3) (qj q8o q8A (qh q1y)):=gk q4K qc q8 (alc yv aln) aln (b1 func54) func54
noncomputable def qip:=qe [(48,q9 yQ yP z8)] [(54,f54)] [((54,3),qj q8o q8A (qh q1y))] 0
noncomputable def qA:=qv qip 54 f54 true v7 wZ
theorem wg:qT prog qa 54 (q9 v7 wZ qA):=sk qip qc q8 (alc yv aln) (alc (lk func54 qiW) aln) (b1 func54) func54
def q58:FIn:=⟨[.str,.str],[]⟩
def q56:List FOut:=[⟨.bool,[],none⟩]
noncomputable def qao:=qe [(166,q9 zT zU qN)] [(221,f221)] [] 0
noncomputable def ul:=qv qao 221 f221 true q58 q56
theorem qfu:qT prog qa 221 (q9 q58 q56 ul):=sk qao qc q8 (alc uq aln) aln (b1 func221) func221
def qcX:FIn:=⟨[.str,.str],[]⟩
def qbZ:List FOut:=[⟨.str,[],none⟩]
noncomputable def qis:=qe [] [(222,f222)] [] 0
noncomputable def q1U:=qv qis 222 f222 true qcX qbZ
theorem qlD:qT prog qa 222 (q9 qcX qbZ q1U):=sk qis qc q8 aln aln (b1 func222) func222
def qcF:FIn:=⟨[.str,.str],[]⟩
def qcK:List FOut:=[⟨(.tuple [.str,.str,(.int .i64)]),[],none⟩]
noncomputable def qiu:=qe [(84,q9 q2W q2P wA),(109,q9 q5r q5q wG),(110,q9 q9N q9J wJ),(111,q9 q5Z q6g uh),(112,q9 q3a q3r zy),(117,q9 q6n q6y yS),(241,q9 q3o q33 vt)] [(240,f240)] [] 0
noncomputable def q4n:=qv qiu 240 f240 true qcF qcK
theorem qlm:qT prog qa 240 (q9 qcF qcK q4n):=sk qiu qc q8 (alc q1O (alc q5X (alc q9o (alc qbm (alc q3I (alc q8f (alc q8R aln))))))) aln (b1 func240) func240
def qeu:FIn:=⟨[.str,.str],[]⟩
def qed:List FOut:=[⟨(.tuple [.str,(.int .i64)]),[],none⟩]
noncomputable def qog:=qe [(75,q9 km kh zb),(240,q9 qcF qcK q4n)] [(223,f223)] [] 0
noncomputable def q6Z:=qv qog 223 f223 true qeu qed
theorem qic:qT prog qa 223 (q9 qeu qed q6Z):=sk qog qc q8 (alc uY (alc qlm aln)) aln (b1 func223) func223
def jy:FIn:=⟨[(.ptr 0 0),(.fn 76 [] []),.str,.str],[.cells [(.int .i64)]]⟩
def kF:List FOut:=[⟨.str,[.cells [(.int .i64)]],none⟩]
noncomputable def q4k:=qe [(76,q9 qaz q9W q2D)] [(82,f82)] [] 1
noncomputable def wM:=qv q4k 82 f82 true jy kF
theorem q9z:qT prog qa 82 (q9 jy kF wM):=sk q4k qc q8 (alc qcR aln) aln (b1 func82) func82
def jG:FIn:=⟨[(.ptr 0 0),(.fn 223 [] []),.str,.str],[.cells [(.int .i64)]]⟩
def kM:List FOut:=[⟨.str,[.cells [(.int .i64)]],none⟩]
noncomputable def q4i:=qe [(223,q9 qeu qed q6Z)] [(82,f82)] [] 1
noncomputable def qW:=qv q4i 82 f82 true jG kM
theorem q9q:qT prog qa 82 (q9 jG kM qW):=sk q4i qc q8 (alc qic aln) aln (b1 func82) func82
def jq:FIn:=⟨[(.ptr 0 0),.str,.str],[.cells [(.int .i64)]]⟩
def js:List FOut:=[⟨.str,[.cells [(.int .i64)]],none⟩]
noncomputable def qae:=qe [(76,q9 qaz q9W q2D),(163,q9 uZ uU zu),(221,q9 q58 q56 ul),(222,q9 qcX qbZ q1U),(223,q9 qeu qed q6Z),(82,qIV [(jy,q9 jy kF wM),(jG,q9 jG kM qW)])] [(199,f199)] [] 1
noncomputable def z6:=qv qae 199 f199 true jq js
theorem uE:qT prog qa 199 (q9 jq js z6):=sk qae qc q8 (alc qcR (alc q1t (alc qfu (alc qlD (alc qic (alc (qDU (ut func82 (by kernel_rfl) (by kernel_rfl)) (qx4 q9z (qx4 q9q qEY))) aln)))))) aln (b1 func199) func199
def q0x:FIn:=⟨[.str,.str,(.fn 162 [] [])],[]⟩
def q0V:List FOut:=[⟨(.tuple [.str,(.int .i64)]),[],none⟩]
noncomputable def q5n:=qe [(54,q9 v7 wZ qA),(55,q9 kY kL qK),(162,q9 q9g q92 q2Y),(199,q9 jq js z6)] [(161,f161)] [] 0
noncomputable def vG:=qv q5n 161 f161 true q0x q0V
theorem qaN:qT prog qa 161 (q9 q0x q0V vG):=sk q5n qc q8 (alc wg (alc yY (alc qeU (alc uE aln)))) aln (b1 func161) func161
def q78:FIn:=⟨[.str,.str],[]⟩
def q79:List FOut:=[⟨(.tuple [.str,(.int .i64)]),[],none⟩]
noncomputable def qoE:=qe [(162,q9 q9g q92 q2Y),(161,q9 q0x q0V vG)] [(115,f115)] [] 0
noncomputable def zF:=qv qoE 115 f115 true q78 q79
theorem q41:qT prog qa 115 (q9 q78 q79 zF):=sk qoE qc q8 (alc qeU (alc qaN aln)) aln (b1 func115) func115
def kH:FIn:=⟨[(.ptr 0 0),(.fn 115 [] []),.str,.str],[.cells [(.int .i64)]]⟩
def kV:List FOut:=[⟨.str,[.cells [(.int .i64)]],none⟩]
noncomputable def q4c:=qe [(115,q9 q78 q79 zF)] [(114,f114)] [] 1
noncomputable def wV:=qv q4c 114 f114 true kH kV
theorem q9y:qT prog qa 114 (q9 kH kV wV):=sk q4c qc q8 (alc q41 aln) aln (b1 func114) func114
def q1z:FIn:=⟨[(.ptr 0 0),.str,.str],[.cells [(.int .i64)]]⟩
def q1B:List FOut:=[⟨.str,[.cells [(.int .i64)]],none⟩]
noncomputable def qeO:=qe [(115,q9 q78 q79 zF),(114,q9 kH kV wV)] [(78,f78)] [] 1
noncomputable def zk:=qv qeO 78 f78 true q1z q1B
theorem q5i:qT prog qa 78 (q9 q1z q1B zk):=sk qeO qc q8 (alc q41 (alc q9y aln)) aln (b1 func78) func78
def q34:FIn:=⟨[(.ptr 0 0),(.agg [.str,.str]),(.agg [.str,.str])],[.cells [(.int .i64)]]⟩
def q3f:List FOut:=[⟨(.agg [.str,.str]),[.cells [(.int .i64)]],none⟩]
noncomputable def qdH:=qe [(78,q9 q1z q1B zk)] [(79,f79)] [] 1
noncomputable def jo:=qv qdH 79 f79 true q34 q3f
theorem q8L:qT prog qa 79 (q9 q34 q3f jo):=sk qdH qc q8 (alc q5i aln) aln (b1 func79) func79
def kQ:FIn:=⟨[(.ptr 0 0),(.fn 206 [] []),.str,.str],[.cells [(.int .i64)]]⟩
def kS:List FOut:=[⟨.str,[.cells [(.int .i64)]],none⟩]
noncomputable def q4u:=qe [(206,q9 qam qav q2N)] [(82,f82)] [] 1
noncomputable def wR:=qv q4u 82 f82 true kQ kS
theorem q8X:qT prog qa 82 (q9 kQ kS wR):=sk q4u qc q8 (alc qcf aln) aln (b1 func82) func82
def q4F:FIn:=⟨[(.ptr 0 0),.str,.str],[.cells [(.int .i64)]]⟩
def q4G:List FOut:=[⟨.str,[.cells [(.int .i64)]],none⟩]
noncomputable def qfn:=qe [(206,q9 qam qav q2N),(82,q9 kQ kS wR)] [(168,f168)] [] 1
noncomputable def yw:=qv qfn 168 f168 true q4F q4G
theorem qa3:qT prog qa 168 (q9 q4F q4G yw):=sk qfn qc q8 (alc qcf (alc q8X aln)) aln (b1 func168) func168
def q97:FIn:=⟨[(.ptr 0 0),.str,.str,.str,.str],[.cells [(.int .i64)]]⟩
def q9t:List FOut:=[⟨(.tuple [.str,.str]),[.cells [(.int .i64)]],none⟩]
noncomputable def qjN:=qe [(56,q9 vb va qf),(168,q9 q4F q4G yw)] [(167,f167)] [] 1
noncomputable def q37:=qv qjN 167 f167 true q97 q9t
theorem qeY:qT prog qa 167 (q9 q97 q9t q37):=sk qjN qc q8 (alc vk (alc qa3 aln)) aln (b1 func167) func167
def q0X:FIn:=⟨[.str,.str,(.fn 167 [] [])],[]⟩
def q0K:List FOut:=[⟨(.tuple [.str,(.int .i64)]),[],none⟩]
noncomputable def q5t:=qe [(54,q9 v7 wZ qA),(55,q9 kY kL qK),(167,q9 q97 q9t q37),(199,q9 jq js z6)] [(161,f161)] [] 0
noncomputable def vE:=qv q5t 161 f161 true q0X q0K
theorem qa7:qT prog qa 161 (q9 q0X q0K vE):=sk q5t qc q8 (alc wg (alc yY (alc qeY (alc uE aln)))) aln (b1 func161) func161
def q1r:FIn:=⟨[.str,.str],[]⟩
def q1o:List FOut:=[⟨(.tuple [.str,(.int .i64)]),[],none⟩]
noncomputable def qnP:=qe [(167,q9 q97 q9t q37),(161,q9 q0X q0K vE)] [(123,f123)] [] 0
noncomputable def vY:=qv qnP 123 f123 true q1r q1o
theorem kI:qT prog qa 123 (q9 q1r q1o vY):=sk qnP qc q8 (alc qeY (alc qa7 aln)) aln (b1 func123) func123
def q02:FIn:=⟨[(.ptr 0 0),(.fn 123 [] []),.str,.str],[.cells [(.int .i64)]]⟩
def q00:List FOut:=[⟨.str,[.cells [(.int .i64)]],none⟩]
noncomputable def q4h:=qe [(123,q9 q1r q1o vY)] [(114,f114)] [] 1
noncomputable def v6:=qv q4h 114 f114 true q02 q00
theorem q9A:qT prog qa 114 (q9 q02 q00 v6):=sk q4h qc q8 (alc kI aln) aln (b1 func114) func114
def q1M:FIn:=⟨[(.ptr 0 0),.str,.str],[.cells [(.int .i64)]]⟩
def q1v:List FOut:=[⟨.str,[.cells [(.int .i64)]],none⟩]
noncomputable def qfl:=qe [(123,q9 q1r q1o vY),(114,q9 q02 q00 v6)] [(88,f88)] [] 1
noncomputable def zI:=qv qfl 88 f88 true q1M q1v
theorem q5h:qT prog qa 88 (q9 q1M q1v zI):=sk qfl qc q8 (alc kI (alc q9A aln)) aln (b1 func88) func88
def q98:FIn:=⟨[(.ptr 0 0),.str,.str,.str,.str],[.cells [(.int .i64)]]⟩
def q9v:List FOut:=[⟨(.tuple [.str,.str]),[.cells [(.int .i64)]],none⟩]
noncomputable def qkM:=qe [(56,q9 vb va qf)] [(169,f169)] [] 1
noncomputable def q3l:=qv qkM 169 f169 true q98 q9v
theorem qff:qT prog qa 169 (q9 q98 q9v q3l):=sk qkM qc q8 (alc vk aln) aln (b1 func169) func169
def q0R:FIn:=⟨[.str,.str,(.fn 169 [] [])],[]⟩
def q0A:List FOut:=[⟨(.tuple [.str,(.int .i64)]),[],none⟩]
noncomputable def q5u:=qe [(54,q9 v7 wZ qA),(55,q9 kY kL qK),(169,q9 q98 q9v q3l),(199,q9 jq js z6)] [(161,f161)] [] 0
noncomputable def vu:=qv q5u 161 f161 true q0R q0A
theorem qaL:qT prog qa 161 (q9 q0R q0A vu):=sk q5u qc q8 (alc wg (alc yY (alc qff (alc uE aln)))) aln (b1 func161) func161
def q4Z:FIn:=⟨[.str,.str],[]⟩
def q4Y:List FOut:=[⟨(.tuple [.str,(.int .i64)]),[],none⟩]
noncomputable def qnX:=qe [(169,q9 q98 q9v q3l),(161,q9 q0R q0A vu)] [(124,f124)] [] 0
noncomputable def vl:=qv qnX 124 f124 true q4Z q4Y
theorem q1V:qT prog qa 124 (q9 q4Z q4Y vl):=sk qnX qc q8 (alc qff (alc qaL aln)) aln (b1 func124) func124
def kN:FIn:=⟨[(.ptr 0 0),(.fn 124 [] []),.str,.str],[.cells [(.int .i64)]]⟩
def kD:List FOut:=[⟨.str,[.cells [(.int .i64)]],none⟩]
noncomputable def q4y:=qe [(124,q9 q4Z q4Y vl)] [(114,f114)] [] 1
noncomputable def wU:=qv q4y 114 f114 true kN kD
theorem q95:qT prog qa 114 (q9 kN kD wU):=sk q4y qc q8 (alc q1V aln) aln (b1 func114) func114
def q1L:FIn:=⟨[(.ptr 0 0),.str,.str],[.cells [(.int .i64)]]⟩
def q1x:List FOut:=[⟨.str,[.cells [(.int .i64)]],none⟩]
noncomputable def qf2:=qe [(124,q9 q4Z q4Y vl),(114,q9 kN kD wU)] [(89,f89)] [] 1
noncomputable def qY:=qv qf2 89 f89 true q1L q1x
theorem q59:qT prog qa 89 (q9 q1L q1x qY):=sk qf2 qc q8 (alc q1V (alc q95 aln)) aln (b1 func89) func89
def q4U:FIn:=⟨[(.ptr 0 0),(.agg [.str,.str]),(.agg [.str,.str])],[.cells [(.int .i64)]]⟩
def q4N:List FOut:=[⟨.str,[.cells [(.int .i64)]],none⟩]
noncomputable def qfp:=qe [(88,q9 q1M q1v zI),(89,q9 q1L q1x qY)] [(80,f80)] [] 1
noncomputable def v8:=qv qfp 80 f80 true q4U q4N
theorem q9S:qT prog qa 80 (q9 q4U q4N v8):=sk qfp qc q8 (alc q5h (alc q59 aln)) aln (b1 func80) func80
def q9x:FIn:=⟨[(.ptr 0 0),.str,.str,.str,.str],[.cells [(.int .i64)]]⟩
def q9r:List FOut:=[⟨(.tuple [.str,.str]),[.cells [(.int .i64)]],none⟩]
noncomputable def qkS:=qe [(56,q9 vb va qf)] [(187,f187)] [] 1
noncomputable def q3w:=qv qkS 187 f187 true q9x q9r
theorem qfb:qT prog qa 187 (q9 q9x q9r q3w):=sk qkS qc q8 (alc vk aln) aln (b1 func187) func187
def q0F:FIn:=⟨[.str,.str,(.fn 187 [] [])],[]⟩
def q0P:List FOut:=[⟨(.tuple [.str,(.int .i64)]),[],none⟩]
noncomputable def q5C:=qe [(54,q9 v7 wZ qA),(55,q9 kY kL qK),(187,q9 q9x q9r q3w),(199,q9 jq js z6)] [(161,f161)] [] 0
noncomputable def vF:=qv q5C 161 f161 true q0F q0P
theorem q9T:qT prog qa 161 (q9 q0F q0P vF):=sk q5C qc q8 (alc wg (alc yY (alc qfb (alc uE aln)))) aln (b1 func161) func161
def qew:FIn:=⟨[.str,.str],[]⟩
def qez:List FOut:=[⟨(.tuple [.str,(.int .i64)]),[],none⟩]
noncomputable def qp3:=qe [(54,q9 v7 wZ qA),(187,q9 q9x q9r q3w),(161,q9 q0F q0P vF)] [(142,f142)] [] 0
noncomputable def kR:=qv qp3 142 f142 true qew qez
theorem qce:qT prog qa 142 (q9 qew qez kR):=sk qp3 qc q8 (alc wg (alc qfb (alc q9T aln))) aln (b1 func142) func142
def kK:FIn:=⟨[(.ptr 0 0),(.fn 142 [] []),.str,.str],[.cells [(.int .i64)]]⟩
def kU:List FOut:=[⟨.str,[.cells [(.int .i64)]],none⟩]
noncomputable def q4v:=qe [(142,q9 qew qez kR)] [(114,f114)] [] 1
noncomputable def zM:=qv q4v 114 f114 true kK kU
theorem q91:qT prog qa 114 (q9 kK kU zM):=sk q4v qc q8 (alc qce aln) aln (b1 func114) func114
def q2g:FIn:=⟨[(.ptr 0 0),(.imm [.str,.str,.str]),(.agg [(.int .i64),(.int .i64),(.int .i64)])],[.cells [(.int .i64)]]⟩
def q2s:List FOut:=[⟨(.tuple [(.agg [.str,.str,.str,.str,.str]),.bool]),[.cells [(.int .i64)]],none⟩]
noncomputable def qbn:=qe [(78,q9 q1z q1B zk),(79,q9 q34 q3f jo),(80,q9 q4U q4N v8),(88,q9 q1M q1v zI),(89,q9 q1L q1x qY),(142,q9 qew qez kR),(114,q9 kK kU zM)] [(103,f103)] [] 1
noncomputable def j9:=qv qbn 103 f103 true q2g q2s
theorem q87:qT prog qa 103 (q9 q2g q2s j9):=sk qbn qc q8 (alc q5i (alc q8L (alc q9S (alc q5h (alc q59 (alc qce (alc q91 aln))))))) aln (b1 func103) func103
def qbA:FIn:=⟨[.str],[]⟩
def qby:List FOut:=[⟨(.tuple [(.int .i64),(.int .i64)]),[],none⟩]
noncomputable def qmu:=qe [(75,q9 km kh zb),(85,q9 q80 q7L yW)] [(184,f184)] [] 0
noncomputable def q2z:=qv qmu 184 f184 true qbA qby
theorem qfM:qT prog qa 184 (q9 qbA qby q2z):=sk qmu qc q8 (alc uY (alc qad aln)) aln (b1 func184) func184
def q3p:FIn:=⟨[(.ptr 0 0),.str],[.cells [(.int .i64)]]⟩
def q3k:List FOut:=[⟨(.int .i64),[.cells [(.int .i64)]],none⟩]
noncomputable def qd9:=qe [(184,q9 qbA qby q2z)] [(198,f198)] [] 1
noncomputable def zA:=qv qd9 198 f198 true q3p q3k
theorem q8S:qT prog qa 198 (q9 q3p q3k zA):=sk qd9 qc q8 (alc qfM aln) aln (b1 func198) func198
def q6V:FIn:=⟨[(.ptr 0 0),.str,.str,.str],[.cells [(.int .i64)]]⟩
def q6W:List FOut:=[⟨(.int .i64),[.cells [(.int .i64)]],none⟩]
noncomputable def qd2:=qe [(56,q9 vb va qf),(163,q9 uZ uU zu),(198,q9 q3p q3k zA)] [(197,f197)] [] 1
noncomputable def ub:=qv qd2 197 f197 true q6V q6W
theorem qhx:qT prog qa 197 (q9 q6V q6W ub):=sk qd2 qc q8 (alc vk (alc q1t (alc q8S aln))) aln (b1 func197) func197
def q6Y:FIn:=⟨[.str,.str,.str,.str,.str],[]⟩
def q71:List FOut:=[⟨(.tuple [(.int .i64),(.int .i64)]),[],none⟩]
noncomputable def qd8:=qe [(54,q9 v7 wZ qA),(55,q9 kY kL qK),(56,q9 vb va qf),(163,q9 uZ uU zu),(168,q9 q4F q4G yw),(197,q9 q6V q6W ub),(198,q9 q3p q3k zA)] [(160,f160)] [] 0
noncomputable def q0B:=qv qd8 160 f160 true q6Y q71
theorem qhE:qT prog qa 160 (q9 q6Y q71 q0B):=sk qd8 qc q8 (alc wg (alc yY (alc vk (alc q1t (alc qa3 (alc qhx (alc q8S aln))))))) aln (b1 func160) func160
def q8C:FIn:=⟨[.str,.str,.str],[]⟩
def q8g:List FOut:=[⟨(.tuple [(.int .i64),(.int .i64)]),[],none⟩]
noncomputable def qf3:=qe [(160,q9 q6Y q71 q0B)] [(113,f113)] [] 0
noncomputable def q1w:=qv qf3 113 f113 true q8C q8g
theorem qiK:qT prog qa 113 (q9 q8C q8g q1w):=sk qf3 qc q8 (alc qhE aln) aln (b1 func113) func113
def q72:FIn:=⟨[(.ptr 0 0),.str,.str,.str],[.cells [(.int .i64)]]⟩
def q7c:List FOut:=[⟨(.int .i64),[.cells [(.int .i64)]],none⟩]
noncomputable def qdu:=qe [(113,q9 q8C q8g q1w)] [(77,f77)] [] 1
noncomputable def q0H:=qv qdu 77 f77 true q72 q7c
theorem qhF:qT prog qa 77 (q9 q72 q7c q0H):=sk qdu qc q8 (alc qiK aln) aln (b1 func77) func77
def q2q:FIn:=⟨[(.ptr 0 0),(.agg [.str,.str,.str]),(.agg [.str,.str,.str,.str,.str])],[.cells [(.int .i64)]]⟩
def q2f:List FOut:=[⟨.bool,[.cells [(.int .i64)]],none⟩]
noncomputable def qbP:=qe [(77,q9 q72 q7c q0H),(78,q9 q1z q1B zk),(79,q9 q34 q3f jo),(80,q9 q4U q4N v8),(88,q9 q1M q1v zI),(89,q9 q1L q1x qY)] [(105,f105)] [] 1
noncomputable def yf:=qv qbP 105 f105 true q2q q2f
theorem q85:qT prog qa 105 (q9 q2q q2f yf):=sk qbP qc q8 (alc qhF (alc q5i (alc q8L (alc q9S (alc q5h (alc q59 aln)))))) aln (b1 func105) func105
def q51:FIn:=⟨[(.ptr 0 0),(.imm [.str,.str,.str]),(.agg [(.int .i64),(.int .i64),(.int .i64)])],[.cells [(.int .i64)]]⟩
def q53:List FOut:=[⟨.bool,[.cells [(.int .i64)]],none⟩]
def q01:Tmpl:={ t:=((.imm [.str,.str,.str])::(.fn 107 [] [(.ptr 4 0)])::qw 5 ((.int .i64)::(.int .i64)::qw 10 [])),h:=[.cells [(.int .i64)],.cells [(.ptr 0 0)],.cells [(.int .i64),(.int .i64),(.int .i64)],.cells [.str,.str,.str,.str,.str],.cells [(.fn 104 [] [(.ptr 1 0),(.ptr 3 0)])]],fs:=[[(.imm [.str,.str,.str]),(.fn 107 [] [(.ptr 4 0)]),.any,.any,(.blit false),(.imm [.str,.str,.str]),(.fn 107 [] [(.ptr 4 0)]),.any,.any],[(.ptr 0 0),(.imm [.str,.str,.str]),(.agg [(.int .i64),(.int .i64),(.int .i64)]),(.ptr 1 0),.any,(.ptr 2 0),(.blit false),(.ptr 3 0),.bool,(.ptr 4 0),(.tuple [(.agg [.str,.str,.str,.str,.str]),.bool]),(.ptr 0 0),(.imm [.str,.str,.str]),(.agg [(.int .i64),(.int .i64),(.int .i64)]),(.tuple [(.agg [.str,.str,.str,.str,.str]),.bool]),(.agg [.str,.str,.str,.str,.str]),.bool,(.fn 104 [] [(.ptr 1 0),(.ptr 3 0)]),.bool,(.blit true),(.imm [.str,.str,.str]),(.fn 107 [] [(.ptr 4 0)]),.any,.any,.any,.any,.any,.any,.any,.any,.any,.any],[]] }
def kO:List Out:=[⟨(.exit 0),{ t:=(qw 19 []),h:=[.cells [(.int .i64)],.cells [(.ptr 0 0)],.cells [(.int .i64),(.int .i64),(.int .i64)],.cells [.str,.str,.str,.str,.str],.cells [(.fn 104 [] [(.ptr 1 0),(.ptr 3 0)])]],fs:=[[(.imm [.str,.str,.str]),(.fn 107 [] [(.ptr 4 0)]),.any,.any,(.blit false),(.imm [.str,.str,.str]),(.fn 107 [] [(.ptr 4 0)]),.any,.any],[(.ptr 0 0),(.imm [.str,.str,.str]),(.agg [(.int .i64),(.int .i64),(.int .i64)]),(.ptr 1 0),.any,(.ptr 2 0),(.blit false),(.ptr 3 0),.bool,(.ptr 4 0),(.tuple [(.agg [.str,.str,.str,.str,.str]),.bool]),(.ptr 0 0),(.imm [.str,.str,.str]),(.agg [(.int .i64),(.int .i64),(.int .i64)]),(.tuple [(.agg [.str,.str,.str,.str,.str]),.bool]),(.agg [.str,.str,.str,.str,.str]),.bool,(.fn 104 [] [(.ptr 1 0),(.ptr 3 0)]),.bool,(.blit true),(.imm [.str,.str,.str]),(.fn 107 [] [(.ptr 4 0)]),.any,.any,.any,.any,.any,.any,.any,.any,.any,.any],[]] }⟩,⟨.ret,{ t:=(qw 4 ((.int .i64)::qw 14 [])),h:=[.cells [(.int .i64)],.cells [(.ptr 0 0)],.cells [(.int .i64),(.int .i64),(.int .i64)],.cells [.str,.str,.str,.str,.str],.cells [(.fn 104 [] [(.ptr 1 0),(.ptr 3 0)])]],fs:=[[(.imm [.str,.str,.str]),(.fn 107 [] [(.ptr 4 0)]),.any,.any,(.blit false),(.imm [.str,.str,.str]),(.fn 107 [] [(.ptr 4 0)]),.any,.any],[(.ptr 0 0),(.imm [.str,.str,.str]),(.agg [(.int .i64),(.int .i64),(.int .i64)]),(.ptr 1 0),.any,(.ptr 2 0),(.blit false),(.ptr 3 0),.bool,(.ptr 4 0),(.tuple [(.agg [.str,.str,.str,.str,.str]),.bool]),(.ptr 0 0),(.imm [.str,.str,.str]),(.agg [(.int .i64),(.int .i64),(.int .i64)]),(.tuple [(.agg [.str,.str,.str,.str,.str]),.bool]),(.agg [.str,.str,.str,.str,.str]),.bool,(.fn 104 [] [(.ptr 1 0),(.ptr 3 0)]),.bool,(.blit true),(.imm [.str,.str,.str]),(.fn 107 [] [(.ptr 4 0)]),.any,.any,.any,.any,.any,.any,.any,.any,.any,.any],[]] }⟩]
noncomputable def jz:=qe [(103,q9 q2g q2s j9),(105,q9 q2q q2f yf)] [(74,f74),(104,f104),(106,f106),(107,f107),(143,f143)] [] 1
noncomputable def wP:=vQ jz 143 f143 3 q01 kO
theorem q9f:ql prog qa jz.nimp (qx prog jz.iter 143) (zq f143 3) (qj q01 kO (qh wP)):=gk jz qc q8 (alc q87 (alc q85 aln)) aln (alc (bk func74) (alc (bk func104) (alc (bk func106) (alc (bk func107) (alc (bk func143) aln))))) func143
noncomputable def qaJ:=qe [(103,q9 q2g q2s j9),(105,q9 q2q q2f yf)] [(74,f74),(104,f104),(106,f106),(107,f107),(143,f143)] [((143,3),qj q01 kO (qh wP))] 1
noncomputable def jn:=qv qaJ 74 f74 true q51 q53
theorem qfr:qT prog qa 74 (q9 q51 q53 jn):=sk qaJ qc q8 (alc q87 (alc q85 aln)) (alc (lk func143 q9f) aln) (alc (bk func74) (alc (bk func104) (alc (bk func106) (alc (bk func107) (alc (bk func143) aln))))) func74
def q2n:FIn:=⟨[(.ptr 0 0),(.imm [.str,.str,.str])],[.cells [(.int .i64)]]⟩
def q2k:List FOut:=[⟨(.tuple [(.agg [(.int .i64),(.int .i64),(.int .i64)]),.bool]),[.cells [(.int .i64)]],none⟩]
def q0T:Tmpl:={ t:=(.yld::(.ptr 5 0)::qw 6 ((.int .i64)::(.int .i64)::qw 35 [])),h:=[.cells [(.int .i64)],.cells [(.ptr 0 0)],.cells [(.imm [.str,.str,.str])],.cells [(.int .i64),(.int .i64),(.int .i64)],.cells [.bool],.cells [(.int .i64)]],fs:=[[.any,.any,(.ptr 1 0),(.ptr 2 0),(.ptr 3 0),(.ptr 4 0),.any,.any,.any,(.fn 102 [] [(.ptr 5 0)]),.any,.any,.any,.any,.any,.any,.any],[]] }
def q0s:List Out:=[⟨(.exit 0),{ t:=(.yld::(.ptr 5 0)::qw 43 []),h:=[.cells [(.int .i64)],.cells [(.ptr 0 0)],.cells [(.imm [.str,.str,.str])],.cells [(.int .i64),(.int .i64),(.int .i64)],.cells [.bool],.cells [(.int .i64)]],fs:=[[.any,.any,(.ptr 1 0),(.ptr 2 0),(.ptr 3 0),(.ptr 4 0),.any,.any,.any,(.fn 102 [] [(.ptr 5 0)]),.any,.any,.any,.any,.any,.any,.any],[]] }⟩,⟨.ret,{ t:=(qw 45 []),h:=[.cells [(.int .i64)],.cells [(.ptr 0 0)],.cells [(.imm [.str,.str,.str])],.cells [(.int .i64),(.int .i64),(.int .i64)],.cells [.bool],.cells [(.int .i64)]],fs:=[[.any,.any,(.ptr 1 0),(.ptr 2 0),(.ptr 3 0),(.ptr 4 0),.any,.any,.any,(.fn 102 [] [(.ptr 5 0)]),.any,.any,.any,.any,.any,.any,.any],[]],pend:=(.some .ret) }⟩]
noncomputable def jp:List (FuncId×zE):=[(74,q9 q51 q53 jn)]
theorem yC:∀x,x∈jp->qT prog qa x.1 x.2:=(alc qfr aln)
noncomputable def yj:Env:={ tt:=q7b,glob:=qa,spec:=jp,body:=[(46,f46),(73,f73),(102,f102)],loops:=[],nimp:=1,iter:=[(102,46,3)] }
noncomputable def vq:=qmz yj (some (46,f46,3)) 102 f102 2 q0T q0s
theorem qaV:ql prog qa yj.nimp (qx prog yj.iter 102) (zq f102 2) (qj q0T q0s (qh vq)):=q0Y (E:=yj) qc ⟨q6Q q8,⟨yC,aln⟩,aln,(alc (bk func46) (alc (bk func73) (alc (bk func102) aln)))⟩ func102 (by kernel_rfl) (y:=some (46,f46,3)) ⟨func46,by kernel_rfl⟩ (by kernel_rfl) (by kernel_rfl) (fun _=>rfl)
def kP:Tmpl:={ t:=(.yld::(.ptr 5 0)::.any::.any::(.int .i64)::(.int .i64)::qw 13 ((.int .i64)::(.int .i64)::qw 9 ((.vec 6)::(.int .i64)::(.int .i64)::qw 12 []))),h:=[.cells [(.int .i64)],.cells [(.ptr 0 0)],.cells [(.imm [.str,.str,.str])],.cells [(.int .i64),(.int .i64),(.int .i64)],.cells [.bool],.cells [(.int .i64)],.vec 3 [(.int .i64)]],fs:=[[.any,.any,(.ptr 1 0),(.ptr 2 0),(.ptr 3 0),(.ptr 4 0),.any,.any,.any,(.fn 102 [] [(.ptr 5 0)]),.any,.any,.any,.any,.any,.any,.any],[]] }
def kW:List Out:=[⟨(.exit 6),{ t:=(.yld::(.ptr 5 0)::.any::.any::(.int .i64)::(.int .i64)::qw 13 ((.int .i64)::(.int .i64)::qw 24 [])),h:=[.cells [(.int .i64)],.cells [(.ptr 0 0)],.cells [(.imm [.str,.str,.str])],.cells [(.int .i64),(.int .i64),(.int .i64)],.cells [.bool],.cells [(.int .i64)]],fs:=[[.any,.any,(.ptr 1 0),(.ptr 2 0),(.ptr 3 0),(.ptr 4 0),.any,.any,.any,(.fn 102 [] [(.ptr 5 0)]),.any,.any,.any,.any,.any,.any,.any],[]] }⟩,⟨.ret,{ t:=(qw 45 []),h:=[.cells [(.int .i64)],.cells [(.ptr 0 0)],.cells [(.imm [.str,.str,.str])],.cells [(.int .i64),(.int .i64),(.int .i64)],.cells [.bool],.cells [(.int .i64)]],fs:=[[.any,.any,(.ptr 1 0),(.ptr 2 0),(.ptr 3 0),(.ptr 4 0),.any,.any,.any,(.fn 102 [] [(.ptr 5 0)]),.any,.any,.any,.any,.any,.any,.any],[]],pend:=(.some .ret) }⟩]
noncomputable def jK:Env:={ tt:=q7b,glob:=qa,spec:=jp,body:=[(46,f46),(73,f73),(102,f102)],loops:=[],nimp:=1,iter:=[(102,46,3)] }
noncomputable def wY:=qmz jK (some (46,f46,3)) 102 f102 20 kP kW
theorem q9i:ql prog qa jK.nimp (qx prog jK.iter 102) (zq f102 20) (qj kP kW (qh wY)):=q0Y (E:=jK) qc ⟨q6Q q8,⟨yC,aln⟩,aln,(alc (bk func46) (alc (bk func73) (alc (bk func102) aln)))⟩ func102 (by kernel_rfl) (y:=some (46,f46,3)) ⟨func46,by kernel_rfl⟩ (by kernel_rfl) (by kernel_rfl) (fun _=>rfl)
def kJ:Tmpl:={ t:=(.yld::(.ptr 5 0)::.any::.any::(.int .i64)::(.int .i64)::qw 13 ((.int .i64)::(.int .i64)::qw 24 [])),h:=[.cells [(.int .i64)],.cells [(.ptr 0 0)],.cells [(.imm [.str,.str,.str])],.cells [(.int .i64),(.int .i64),(.int .i64)],.cells [.bool],.cells [(.int .i64)]],fs:=[[.any,.any,(.ptr 1 0),(.ptr 2 0),(.ptr 3 0),(.ptr 4 0),.any,.any,.any,(.fn 102 [] [(.ptr 5 0)]),.any,.any,.any,.any,.any,.any,.any],[]] }
def q06:List Out:=[⟨(.exit 4),{ t:=(.yld::(.ptr 5 0)::qw 17 ((.int .i64)::(.int .i64)::qw 24 [])),h:=[.cells [(.int .i64)],.cells [(.ptr 0 0)],.cells [(.imm [.str,.str,.str])],.cells [(.int .i64),(.int .i64),(.int .i64)],.cells [.bool],.cells [(.int .i64)]],fs:=[[.any,.any,(.ptr 1 0),(.ptr 2 0),(.ptr 3 0),(.ptr 4 0),.any,.any,.any,(.fn 102 [] [(.ptr 5 0)]),.any,.any,.any,.any,.any,.any,.any],[]] }⟩,⟨.ret,{ t:=(qw 45 []),h:=[.cells [(.int .i64)],.cells [(.ptr 0 0)],.cells [(.imm [.str,.str,.str])],.cells [(.int .i64),(.int .i64),(.int .i64)],.cells [.bool],.cells [(.int .i64)]],fs:=[[.any,.any,(.ptr 1 0),(.ptr 2 0),(.ptr 3 0),(.ptr 4 0),.any,.any,.any,(.fn 102 [] [(.ptr 5 0)]),.any,.any,.any,.any,.any,.any,.any],[]],pend:=(.some .ret) }⟩]
noncomputable def jA:Env:={ tt:=q7b,glob:=qa,spec:=jp,body:=[(46,f46),(73,f73),(102,f102)],loops:=[((102,20),qj kP kW (qh wY))],nimp:=1,iter:=[(102,46,3)] }
noncomputable def wN:=qmz jA (some (46,f46,3)) 102 f102 15 kJ q06
theorem q9p:ql prog qa jA.nimp (qx prog jA.iter 102) (zq f102 15) (qj kJ q06 (qh wN)):=q0Y (E:=jA) qc ⟨q6Q q8,⟨yC,aln⟩,(alc (lk func102 q9i) aln),(alc (bk func46) (alc (bk func73) (alc (bk func102) aln)))⟩ func102 (by kernel_rfl) (y:=some (46,f46,3)) ⟨func46,by kernel_rfl⟩ (by kernel_rfl) (by kernel_rfl) (fun _=>rfl)
def q0Q:Tmpl:={ t:=(.yld::(.ptr 5 0)::qw 17 ((.int .i64)::(.int .i64)::qw 24 [])),h:=[.cells [(.int .i64)],.cells [(.ptr 0 0)],.cells [(.imm [.str,.str,.str])],.cells [(.int .i64),(.int .i64),(.int .i64)],.cells [.bool],.cells [(.int .i64)]],fs:=[[.any,.any,(.ptr 1 0),(.ptr 2 0),(.ptr 3 0),(.ptr 4 0),.any,.any,.any,(.fn 102 [] [(.ptr 5 0)]),.any,.any,.any,.any,.any,.any,.any],[]] }
def q0N:List Out:=[⟨(.exit 2),{ t:=(qw 45 []),h:=[.cells [(.int .i64)],.cells [(.ptr 0 0)],.cells [(.imm [.str,.str,.str])],.cells [(.int .i64),(.int .i64),(.int .i64)],.cells [.bool],.cells [(.int .i64)]],fs:=[[.any,.any,(.ptr 1 0),(.ptr 2 0),(.ptr 3 0),(.ptr 4 0),.any,.any,.any,(.fn 102 [] [(.ptr 5 0)]),.any,.any,.any,.any,.any,.any,.any],[]] }⟩,⟨.ret,{ t:=(qw 45 []),h:=[.cells [(.int .i64)],.cells [(.ptr 0 0)],.cells [(.imm [.str,.str,.str])],.cells [(.int .i64),(.int .i64),(.int .i64)],.cells [.bool],.cells [(.int .i64)]],fs:=[[.any,.any,(.ptr 1 0),(.ptr 2 0),(.ptr 3 0),(.ptr 4 0),.any,.any,.any,(.fn 102 [] [(.ptr 5 0)]),.any,.any,.any,.any,.any,.any,.any],[]],pend:=(.some .ret) }⟩]
noncomputable def jV:Env:={ tt:=q7b,glob:=qa,spec:=jp,body:=[(46,f46),(73,f73),(102,f102)],loops:=[((102,15),qj kJ q06 (qh wN))],nimp:=1,iter:=[(102,46,3)] }
noncomputable def vJ:=qmz jV (some (46,f46,3)) 102 f102 9 q0Q q0N
theorem qaY:ql prog qa jV.nimp (qx prog jV.iter 102) (zq f102 9) (qj q0Q q0N (qh vJ)):=q0Y (E:=jV) qc ⟨q6Q q8,⟨yC,aln⟩,(alc (lk func102 q9p) aln),(alc (bk func46) (alc (bk func73) (alc (bk func102) aln)))⟩ func102 (by kernel_rfl) (y:=some (46,f46,3)) ⟨func46,by kernel_rfl⟩ (by kernel_rfl) (by kernel_rfl) (fun _=>rfl)
noncomputable def qbu:Env:={ tt:=q7b,glob:=qa,spec:=jp,body:=[(46,f46),(73,f73),(102,f102)],loops:=[((102,2),qj q0T q0s (qh vq)),((102,9),qj q0Q q0N (qh vJ))],nimp:=1,iter:=[(102,46,3)] }
noncomputable def wH:=qv qbu 46 f46 true q2n q2k
theorem q7N:qT prog qa 46 (q9 q2n q2k wH):=sk qbu qc q8 yC (alc (lk func102 qaV) (alc (lk func102 qaY) aln)) (alc (bk func46) (alc (bk func73) (alc (bk func102) aln))) func46
def qcy:FIn:=⟨[(.imm [.str,.str,.str])],[]⟩
def qcs:List FOut:=[⟨(.tuple [.bool,(.agg [(.int .i64),(.int .i64),(.int .i64)]),(.int .i64)]),[],none⟩]
noncomputable def qi7:=qe [(45,q9 qbv qbJ q10),(46,q9 q2n q2k wH)] [(17,f17)] [] 0
noncomputable def q1R:=qv qi7 17 f17 true qcy qcs
theorem qlB:qT prog qa 17 (q9 qcy qcs q1R):=sk qi7 qc q8 (alc qfO (alc q7N aln)) aln (b1 func17) func17
def q2H:FIn:=⟨[(.imm [.str,.str,.str])],[]⟩
def q2K:List FOut:=[⟨(.tuple [(.imm [(.int .i64)]),(.int .i64)]),[],none⟩]
def yu:Tmpl:={ t:=(.any::(.ptr 0 0)::(.ptr 2 0)::.any::.any::(.vec 4)::qw 4 ((.vec 3)::(.int .i64)::(.int .i64)::qw 26 [])),h:=[.cells [(.imm [.str,.str,.str])],.cells [(.int .i64)],.cells [(.ptr 1 0)],.vec 3 [(.int .i64)],.vec 43 [.str,.str,.str]],pro:=[(5,43,[.str,.str,.str])],fs:=[[.any,(.ptr 0 0),.any,.any,.any,(.ptr 2 0),(.fn 53 [] [(.ptr 0 0),(.ptr 2 0)]),(.int .i64),(.int .i64),.any,.any,.any,.any,.any,.any,.any,.any,.any,.any,.any,.any,(.int .i64),(.int .i64),.any,.any,.any,.any,(.int .i64),(.imm [.str,.str,.str]),(.int .i64),(.blit true),.any,.any,(.fn 53 [] [(.ptr 0 0),(.ptr 2 0)]),(.int .i64),(.int .i64),(.vec 3),.any,.any,.any,.any,.any,.any,.any,.any,.any,.any,.any,.any,.any,.any,.any,.any,.any,.any,.any,.any,.any,.any,.any,.any,.any,.any,.any,.any,.any,.any,.any,.any,.any,.any,.any,.any,.any,.any,.any,.any,.any],[]] }
def yo:List Out:=[⟨(.exit 0),{ t:=(.any::.any::(.ptr 2 0)::.any::.any::(.vec 4)::qw 33 []),h:=[.cells [(.imm [.str,.str,.str])],.cells [(.int .i64)],.cells [(.ptr 1 0)],.vec 3 [(.int .i64)],.vec 43 [.str,.str,.str]],fs:=[[.any,(.ptr 0 0),.any,.any,.any,(.ptr 2 0),(.fn 53 [] [(.ptr 0 0),(.ptr 2 0)]),(.int .i64),(.int .i64),.any,.any,.any,.any,.any,.any,.any,.any,.any,.any,.any,.any,(.int .i64),(.int .i64),.any,.any,.any,.any,(.int .i64),(.imm [.str,.str,.str]),(.int .i64),(.blit true),.any,.any,(.fn 53 [] [(.ptr 0 0),(.ptr 2 0)]),(.int .i64),(.int .i64),(.vec 3),.any,.any,.any,.any,.any,.any,.any,.any,.any,.any,.any,.any,.any,.any,.any,.any,.any,.any,.any,.any,.any,.any,.any,.any,.any,.any,.any,.any,.any,.any,.any,.any,.any,.any,.any,.any,.any,.any,.any,.any,.any],[]] }⟩]
noncomputable def zd:List (FuncId×zE):=[(45,q9 qbv qbJ q10),(46,q9 q2n q2k wH)]
theorem zn:∀x,x∈zd->qT prog qa x.1 x.2:=(alc qfO (alc q7N aln))
noncomputable def vd:=qe zd [(23,f23),(53,f53)] [] 0
noncomputable def zm:=vQ vd 53 f53 4 yu yo
theorem q6L:ql prog qa vd.nimp (qx prog vd.iter 53) (zq f53 4) (qj yu yo (qh zm)):=gk vd qc q8 zn aln (alc (bk func23) (alc (bk func53) aln)) func53
def q0o:Tmpl:={ t:=(.any::(.ptr 0 0)::.any::.any::.any::(.ptr 2 0)::(.fn 53 [] [(.ptr 0 0),(.ptr 2 0)])::(.int .i64)::(.int .i64)::qw 12 ((.int .i64)::(.int .i64)::qw 55 [])),h:=[.cells [(.imm [.str,.str,.str])],.cells [(.int .i64)],.cells [(.ptr 1 0)]] }
def q0D:List Out:=[⟨(.exit 2),{ t:=(.any::(.ptr 0 0)::.any::.any::.any::(.ptr 2 0)::(.fn 53 [] [(.ptr 0 0),(.ptr 2 0)])::qw 14 ((.int .i64)::(.int .i64)::qw 55 [])),h:=[.cells [(.imm [.str,.str,.str])],.cells [(.int .i64)],.cells [(.ptr 1 0)]] }⟩,⟨.ret,{ t:=(.any::.any::(.vec 6)::(.int .i64)::qw 74 []),h:=[.dead,.dead,.dead,.dead,.dead,.dead,.vec 3 [(.int .i64)]] }⟩]
noncomputable def yk:=qe zd [(23,f23),(53,f53)] [((53,4),qj yu yo (qh zm))] 0
noncomputable def vC:=vQ yk 23 f23 15 q0o q0D
theorem qat:ql prog qa yk.nimp (qx prog yk.iter 23) (zq f23 15) (qj q0o q0D (qh vC)):=gk yk qc q8 zn (alc (lk func53 q6L) aln) (alc (bk func23) (alc (bk func53) aln)) func23
def q1u:Tmpl:={ t:=(.any::(.ptr 0 0)::.any::.any::.any::(.ptr 2 0)::(.fn 53 [] [(.ptr 0 0),(.ptr 2 0)])::qw 14 ((.int .i64)::(.int .i64)::qw 55 [])),h:=[.cells [(.imm [.str,.str,.str])],.cells [(.int .i64)],.cells [(.ptr 1 0)]] }
def q1d:List Out:=[⟨(.exit 0),{ t:=(.any::(.ptr 0 0)::.any::.any::.any::(.ptr 2 0)::(.fn 53 [] [(.ptr 0 0),(.ptr 2 0)])::qw 71 []),h:=[.cells [(.imm [.str,.str,.str])],.cells [(.int .i64)],.cells [(.ptr 1 0)]] }⟩,⟨.ret,{ t:=(.any::.any::(.vec 6)::(.int .i64)::qw 74 []),h:=[.dead,.dead,.dead,.dead,.dead,.dead,.vec 3 [(.int .i64)]] }⟩]
noncomputable def yK:=qe zd [(23,f23),(53,f53)] [((23,15),qj q0o q0D (qh vC))] 0
noncomputable def j4:=vQ yK 23 f23 9 q1u q1d
theorem qbb:ql prog qa yK.nimp (qx prog yK.iter 23) (zq f23 9) (qj q1u q1d (qh j4)):=gk yK qc q8 zn (alc (lk func23 qat) aln) (alc (bk func23) (alc (bk func53) aln)) func23
def yt:Tmpl:={ t:=(.any::(.ptr 0 0)::(.ptr 2 0)::.any::.any::(.vec 4)::qw 4 ((.vec 3)::(.int .i64)::(.int .i64)::qw 26 [])),h:=[.cells [(.imm [.str,.str,.str])],.cells [(.int .i64)],.cells [(.ptr 1 0)],.vec 3 [(.int .i64)],.vec 43 [.str,.str,.str]],pro:=[(5,43,[.str,.str,.str])],fs:=[[.any,(.ptr 0 0),.any,.any,.any,(.ptr 2 0),(.fn 53 [] [(.ptr 0 0),(.ptr 2 0)]),.any,.any,(.int .i64),(.int .i64),(.int .i64),.any,.any,.any,.any,.any,.any,.any,.any,.any,.any,.any,.any,.any,.any,.any,.any,.any,.any,.any,.any,.any,.any,.any,.any,.any,.any,.any,.any,.any,.any,.any,(.int .i64),(.int .i64),.any,.any,.any,.any,.any,.any,.any,.any,.any,.any,.any,.any,(.int .i64),(.imm [.str,.str,.str]),(.int .i64),(.blit true),.any,.any,(.fn 53 [] [(.ptr 0 0),(.ptr 2 0)]),(.int .i64),(.int .i64),(.int .i64),(.vec 3),.any,.any,.any,.any,.any,.any,.any,.any,.any,.any],[]] }
def yp:List Out:=[⟨(.exit 0),{ t:=(.any::.any::(.ptr 2 0)::.any::.any::(.vec 4)::qw 33 []),h:=[.cells [(.imm [.str,.str,.str])],.cells [(.int .i64)],.cells [(.ptr 1 0)],.vec 3 [(.int .i64)],.vec 43 [.str,.str,.str]],fs:=[[.any,(.ptr 0 0),.any,.any,.any,(.ptr 2 0),(.fn 53 [] [(.ptr 0 0),(.ptr 2 0)]),.any,.any,(.int .i64),(.int .i64),(.int .i64),.any,.any,.any,.any,.any,.any,.any,.any,.any,.any,.any,.any,.any,.any,.any,.any,.any,.any,.any,.any,.any,.any,.any,.any,.any,.any,.any,.any,.any,.any,.any,(.int .i64),(.int .i64),.any,.any,.any,.any,.any,.any,.any,.any,.any,.any,.any,.any,(.int .i64),(.imm [.str,.str,.str]),(.int .i64),(.blit true),.any,.any,(.fn 53 [] [(.ptr 0 0),(.ptr 2 0)]),(.int .i64),(.int .i64),(.int .i64),(.vec 3),.any,.any,.any,.any,.any,.any,.any,.any,.any,.any],[]] }⟩]
noncomputable def ve:=qe zd [(23,f23),(53,f53)] [] 0
noncomputable def zl:=vQ ve 53 f53 4 yt yp
theorem q6K:ql prog qa ve.nimp (qx prog ve.iter 53) (zq f53 4) (qj yt yp (qh zl)):=gk ve qc q8 zn aln (alc (bk func23) (alc (bk func53) aln)) func53
def q0w:Tmpl:={ t:=(.any::(.ptr 0 0)::.any::.any::.any::(.ptr 2 0)::(.fn 53 [] [(.ptr 0 0),(.ptr 2 0)])::.any::.any::(.int .i64)::(.int .i64)::(.int .i64)::qw 31 ((.int .i64)::(.int .i64)::qw 33 [])),h:=[.cells [(.imm [.str,.str,.str])],.cells [(.int .i64)],.cells [(.ptr 1 0)]] }
def q0W:List Out:=[⟨(.exit 8),{ t:=(.any::(.ptr 0 0)::.any::.any::.any::(.ptr 2 0)::(.fn 53 [] [(.ptr 0 0),(.ptr 2 0)])::.any::.any::(.int .i64)::(.int .i64)::qw 32 ((.int .i64)::(.int .i64)::qw 33 [])),h:=[.cells [(.imm [.str,.str,.str])],.cells [(.int .i64)],.cells [(.ptr 1 0)]] }⟩,⟨.ret,{ t:=(.any::.any::(.vec 6)::(.int .i64)::qw 74 []),h:=[.dead,.dead,.dead,.dead,.dead,.dead,.vec 3 [(.int .i64)]] }⟩]
noncomputable def yg:=qe zd [(23,f23),(53,f53)] [((53,4),qj yt yp (qh zl))] 0
noncomputable def vH:=vQ yg 23 f23 34 q0w q0W
theorem qaE:ql prog qa yg.nimp (qx prog yg.iter 23) (zq f23 34) (qj q0w q0W (qh vH)):=gk yg qc q8 zn (alc (lk func53 q6K) aln) (alc (bk func23) (alc (bk func53) aln)) func23
def q0I:Tmpl:={ t:=(.any::(.ptr 0 0)::.any::.any::.any::(.ptr 2 0)::(.fn 53 [] [(.ptr 0 0),(.ptr 2 0)])::.any::.any::(.int .i64)::(.int .i64)::qw 32 ((.int .i64)::(.int .i64)::qw 33 [])),h:=[.cells [(.imm [.str,.str,.str])],.cells [(.int .i64)],.cells [(.ptr 1 0)]] }
def q0t:List Out:=[⟨(.exit 6),{ t:=(.any::(.ptr 0 0)::.any::.any::.any::(.ptr 2 0)::(.fn 53 [] [(.ptr 0 0),(.ptr 2 0)])::qw 36 ((.int .i64)::(.int .i64)::qw 33 [])),h:=[.cells [(.imm [.str,.str,.str])],.cells [(.int .i64)],.cells [(.ptr 1 0)]] }⟩,⟨.ret,{ t:=(.any::.any::(.vec 6)::(.int .i64)::qw 74 []),h:=[.dead,.dead,.dead,.dead,.dead,.dead,.vec 3 [(.int .i64)]] }⟩]
noncomputable def jT:=qe zd [(23,f23),(53,f53)] [((23,34),qj q0w q0W (qh vH))] 0
noncomputable def vA:=vQ jT 23 f23 29 q0I q0t
theorem qaI:ql prog qa jT.nimp (qx prog jT.iter 23) (zq f23 29) (qj q0I q0t (qh vA)):=gk jT qc q8 zn (alc (lk func23 qaE) aln) (alc (bk func23) (alc (bk func53) aln)) func23
def q0C:Tmpl:={ t:=(.any::(.ptr 0 0)::.any::.any::.any::(.ptr 2 0)::(.fn 53 [] [(.ptr 0 0),(.ptr 2 0)])::qw 36 ((.int .i64)::(.int .i64)::qw 33 [])),h:=[.cells [(.imm [.str,.str,.str])],.cells [(.int .i64)],.cells [(.ptr 1 0)]] }
def q0m:List Out:=[⟨(.exit 4),{ t:=(qw 5 ((.ptr 2 0)::qw 72 [])),h:=[.dead,.cells [(.int .i64)],.cells [(.ptr 1 0)]] }⟩,⟨.ret,{ t:=(.any::.any::(.vec 6)::(.int .i64)::qw 74 []),h:=[.dead,.dead,.dead,.dead,.dead,.dead,.vec 3 [(.int .i64)]] }⟩]
noncomputable def yh:=qe zd [(23,f23),(53,f53)] [((23,29),qj q0I q0t (qh vA))] 0
noncomputable def vB:=vQ yh 23 f23 23 q0C q0m
theorem qag:ql prog qa yh.nimp (qx prog yh.iter 23) (zq f23 23) (qj q0C q0m (qh vB)):=gk yh qc q8 zn (alc (lk func23 qaI) aln) (alc (bk func23) (alc (bk func53) aln)) func23
noncomputable def q81:=qe zd [(23,f23),(53,f53)] [((23,9),qj q1u q1d (qh j4)),((23,23),qj q0C q0m (qh vB))] 0
noncomputable def zY:=qv q81 23 f23 true q2H q2K
theorem qdB:qT prog qa 23 (q9 q2H q2K zY):=sk q81 qc q8 zn (alc (lk func23 qbb) (alc (lk func23 qag) aln)) (alc (bk func23) (alc (bk func53) aln)) func23
def qaU:FIn:=⟨[(.int .i64)],[]⟩
def qaO:List FOut:=[⟨.bool,[],none⟩]
noncomputable def qgc:=qe [] [(126,f126)] [] 0
noncomputable def jN:=qv qgc 126 f126 true qaU qaO
theorem qkE:qT prog qa 126 (q9 qaU qaO jN):=sk qgc qc q8 aln aln (b1 func126) func126
def q3A:FIn:=⟨[(.agg [(.int .i64),(.int .i64)])],[]⟩
def q3c:List FOut:=[⟨.bool,[],none⟩]
noncomputable def qjy:=qe [(126,q9 qaU qaO jN)] [(91,f91)] [] 0
noncomputable def kC:=qv qjy 91 f91 true q3A q3c
theorem q4O:qT prog qa 91 (q9 q3A q3c kC):=sk qjy qc q8 (alc qkE aln) aln (b1 func91) func91
def q2a:FIn:=⟨[(.fn 91 [] []),(.imm [(.int .i64),(.int .i64)])],[]⟩
def q20:List FOut:=[⟨(.int .i64),[],none⟩]
def q0U:Tmpl:={ t:=((.fn 91 [] [])::qw 6 ((.imm [(.int .i64),(.int .i64)])::(.int .i64)::(.int .i64)::qw 8 [])),h:=[] }
def q0O:List Out:=[⟨(.exit 0),{ t:=(qw 18 []),h:=[] }⟩,⟨.ret,{ t:=(qw 4 ((.int .i64)::qw 13 [])),h:=[] }⟩]
noncomputable def jW:=qe [(91,q9 q3A q3c kC)] [(125,f125)] [] 0
noncomputable def zw:=vQ jW 125 f125 3 q0U q0O
theorem q9V:ql prog qa jW.nimp (qx prog jW.iter 125) (zq f125 3) (qj q0U q0O (qh zw)):=gk jW qc q8 (alc q4O aln) aln (b1 func125) func125
noncomputable def q6R:=qe [(91,q9 q3A q3c kC)] [(125,f125)] [((125,3),qj q0U q0O (qh zw))] 0
noncomputable def jl:=qv q6R 125 f125 true q2a q20
theorem qcm:qT prog qa 125 (q9 q2a q20 jl):=sk q6R qc q8 (alc q4O aln) (alc (lk func125 q9V) aln) (b1 func125) func125
def uM:FIn:=⟨[(.imm [(.int .i64),(.int .i64)]),(.fn 91 [] [])],[]⟩
def uK:List FOut:=[⟨(.int .i64),[],none⟩]
noncomputable def q3B:=qe [(91,q9 q3A q3c kC),(125,q9 q2a q20 jl)] [(90,f90)] [] 0
noncomputable def wu:=qv q3B 90 f90 true uM uK
theorem q8F:qT prog qa 90 (q9 uM uK wu):=sk q3B qc q8 (alc q4O (alc qcm aln)) aln (b1 func90) func90
def qcu:FIn:=⟨[(.imm [(.int .i64),(.int .i64)])],[]⟩
def qcQ:List FOut:=[⟨(.int .i64),[],none⟩]
noncomputable def qii:=qe [(90,q9 uM uK wu),(91,q9 q3A q3c kC)] [(61,f61)] [] 0
noncomputable def q4B:=qv qii 61 f61 true qcu qcQ
theorem qlx:qT prog qa 61 (q9 qcu qcQ q4B):=sk qii qc q8 (alc q8F (alc q4O aln)) aln (b1 func61) func61
def qcw:FIn:=⟨[(.int .i64)],[]⟩
def qcx:List FOut:=[⟨(.int .i64),[],none⟩]
noncomputable def qij:=qe [] [(62,f62)] [] 0
noncomputable def q49:=qv qij 62 f62 true qcw qcx
theorem qm5:qT prog qa 62 (q9 qcw qcx q49):=sk qij qc q8 aln aln (b1 func62) func62
def qcZ:FIn:=⟨[(.imm [(.int .i64),(.int .i64)])],[]⟩
def qcW:List FOut:=[⟨(.int .i64),[],none⟩]
noncomputable def qhN:=qe [(61,q9 qcu qcQ q4B),(62,q9 qcw qcx q49)] [(33,f33)] [] 0
noncomputable def q4b:=qv qhN 33 f33 true qcZ qcW
theorem qlY:qT prog qa 33 (q9 qcZ qcW q4b):=sk qhN qc q8 (alc qlx (alc qm5 aln)) aln (b1 func33) func33
def q23:FIn:=⟨[(.imm [(.int .i64)])],[]⟩
def q28:List FOut:=[⟨(.vec 0),[.vec 3 [(.int .i64)]],none⟩]
noncomputable def qfC:=qe [] [(93,f93)] [] 0
abbrev q5z:=q23
abbrev q5F:=q28
noncomputable abbrev q5A:=qfC
noncomputable def q5m:=qv q5A 93 f93 false q5z q5F
theorem qaQ:qT prog qa 93 (q9 q5z q5F q5m):=qmf (E:=q5A) qc ⟨q6Q q8,⟨aln,aln⟩,aln,(b1 func93)⟩ func93 (by kernel_rfl) (by kernel_rfl) (fun _=>rfl)
theorem qcV(x0:R):q5m [.r x0]=(.br (ilt 0 (qk x0)) (.br (ile ((qk [])+(qk x0)) 17592186044416) (.leaf (0,[(.r (uV [] x0))])) .fail) .fail):=by kernel_rfl
def qdn:Go.Shelf.Ren:=⟨fun|41=>93|n=>n,fun|4=>4|22=>33|23=>3|n=>n,fun n=>n⟩
noncomputable def wL:=qCt
theorem qci:qT prog qa 93 (q9 q23 q28 wL):=qyR (ρ:=qdn) ⟨by kernel_rfl,⟨ "slices.Clone[[]int,int]",by decide,func93.trans (congrArg some (by kernel_rfl))⟩,underlying4,isAgg4,sizeOf4,zeroValue4,underlying33,isAgg33,sizeOf33,zeroValue33,underlying3,isAgg3,sizeOf3,zeroValue3,by kernel_rfl⟩ qaQ (qD5 qcV)
def vw:FIn:=⟨[(.agg [(.int .i64),(.int .i64),(.int .i64)])],[]⟩
def vK:List FOut:=[⟨(.agg [(.int .i64),(.int .i64),(.int .i64)]),[],none⟩]
noncomputable def q7S:=qe [] [(133,f133)] [] 0
noncomputable def qM:=qv q7S 133 f133 true vw vK
theorem jQ:qT prog qa 133 (q9 vw vK qM):=sk q7S qc q8 aln aln (b1 func133) func133
def qdZ:FIn:=⟨[(.agg [(.int .i64),(.int .i64),(.int .i64)]),(.agg [(.int .i64),(.int .i64),(.int .i64)]),(.agg [(.int .i64),(.int .i64),(.int .i64)])],[]⟩
def qep:List FOut:=[⟨(.int .i64),[],none⟩]
def qaw:Tmpl:={ t:=(qw 7 ((.ptr 3 0)::(.ptr 4 0)::(.ptr 5 0)::(.int .i64)::qw 7 ((.int .i64)::qw 21 []))),h:=[.dead,.dead,.dead,.cells [(.int .i64),(.int .i64),(.int .i64)],.cells [(.int .i64),(.int .i64),(.int .i64)],.cells [(.int .i64),(.int .i64),(.int .i64)]] }
def q9U:List Out:=[⟨(.exit 0),{ t:=(qw 10 ((.int .i64)::qw 29 [])),h:=[] }⟩]
noncomputable def q5W:=qe [(133,q9 vw vK qM)] [(127,f127)] [] 0
noncomputable def q0y:=vQ q5W 127 f127 5 qaw q9U
theorem qkp:ql prog qa q5W.nimp (qx prog q5W.iter 127) (zq f127 5) (qj qaw q9U (qh q0y)):=gk q5W qc q8 (alc jQ aln) aln (b1 func127) func127
noncomputable def qkT:=qe [(133,q9 vw vK qM)] [(127,f127)] [((127,5),qj qaw q9U (qh q0y))] 0
noncomputable def q1i:=qv qkT 127 f127 true qdZ qep
theorem qmX:qT prog qa 127 (q9 qdZ qep q1i):=sk qkT qc q8 (alc jQ aln) (alc (lk func127 qkp) aln) (b1 func127) func127
def q5U:FIn:=⟨[(.int .i64)],[]⟩
def q6x:List FOut:=[⟨.str,[],none⟩]
noncomputable def qk0:=qe [(110,q9 q9N q9J wJ)] [(128,f128)] [] 0
noncomputable def jD:=qv qk0 128 f128 true q5U q6x
theorem q8i:qT prog qa 128 (q9 q5U q6x jD):=sk qk0 qc q8 (alc q9o aln) aln (b1 func128) func128
def q90:FIn:=⟨[(.int .i64)],[]⟩
def q9G:List FOut:=[⟨.bool,[],none⟩]
noncomputable def qkx:=qe [] [(170,f170)] [] 0
noncomputable def j8:=qv qkx 170 f170 true q90 q9G
theorem qeX:qT prog qa 170 (q9 q90 q9G j8):=sk qkx qc q8 aln aln (b1 func170) func170
def q35:FIn:=⟨[(.int .i64),(.int .i64),(.ptr 0 0),(.ptr 1 0)],[.cells [(.imm [(.int .i64)])],.cells [(.int .i64)]]⟩
def q3n:List FOut:=[⟨.str,[.cells [(.imm [(.int .i64)])],.cells [(.int .i64)]],none⟩]
noncomputable def qjU:=qe [(128,q9 q5U q6x jD)] [(172,f172)] [] 2
noncomputable def kr:=qv qjU 172 f172 true q35 q3n
theorem q4E:qT prog qa 172 (q9 q35 q3n kr):=sk qjU qc q8 (alc q8i aln) aln (b1 func172) func172
def qeF:FIn:=⟨[(.int .i64),(.int .i64),(.fn 172 [] [(.ptr 0 0),(.ptr 1 0)])],[.cells [(.imm [(.int .i64)])],.cells [(.int .i64)]]⟩
def qeE:List FOut:=[⟨(.agg [(.int .i64),(.int .i64),(.imm [.str])]),[.cells [(.imm [(.int .i64)])],.cells [(.int .i64)]],none⟩]
def q8D:Tmpl:={ t:=(.any::(.int .i64)::(.fn 172 [] [(.ptr 0 0),(.ptr 1 0)])::.any::.any::.any::(.ptr 2 0)::(.ptr 3 0)::(.int .i64)::qw 4 ((.int .i64)::(.int .i64)::.any::.any::(.int .i64)::(.int .i64)::qw 14 [])),h:=[.cells [(.imm [(.int .i64)])],.cells [(.int .i64)],.cells [(.int .i64),(.int .i64),.nils],.cells [(.int .i64),(.int .i64),(.vec 4)],.vec 30 [.str]] }
def q8v:List Out:=[⟨(.exit 2),{ t:=(.any::(.int .i64)::(.fn 172 [] [(.ptr 0 0),(.ptr 1 0)])::.any::.any::.any::(.ptr 2 0)::(.ptr 3 0)::qw 5 ((.int .i64)::(.int .i64)::qw 18 [])),h:=[.cells [(.imm [(.int .i64)])],.cells [(.int .i64)],.cells [(.int .i64),(.int .i64),.nils],.cells [(.int .i64),(.int .i64),(.vec 4)],.vec 30 [.str]] }⟩]
noncomputable def q4I:=qe [(172,q9 q35 q3n kr)] [(171,f171)] [] 2
noncomputable def uX:=vQ q4I 171 f171 10 q8D q8v
theorem qiy:ql prog qa q4I.nimp (qx prog q4I.iter 171) (zq f171 10) (qj q8D q8v (qh uX)):=gk q4I qc q8 (alc q4E aln) aln (b1 func171) func171
def qaF:Tmpl:={ t:=(.any::(.int .i64)::(.fn 172 [] [(.ptr 0 0),(.ptr 1 0)])::.any::.any::.any::(.ptr 2 0)::(.ptr 3 0)::qw 5 ((.int .i64)::(.int .i64)::qw 18 [])),h:=[.cells [(.imm [(.int .i64)])],.cells [(.int .i64)],.cells [(.int .i64),(.int .i64),.nils],.cells [(.int .i64),(.int .i64),(.vec 4)],.vec 30 [.str]],prc:=[(7,2,30,[.str])] }
def qa4:List Out:=[⟨(.exit 0),{ t:=(qw 6 ((.ptr 2 0)::(.ptr 3 0)::qw 25 [])),h:=[.cells [(.imm [(.int .i64)])],.cells [(.int .i64)],.cells [(.int .i64),(.int .i64),.nils],.cells [(.int .i64),(.int .i64),(.vec 4)],.vec 30 [.str]] }⟩]
noncomputable def q6s:=qe [(172,q9 q35 q3n kr)] [(171,f171)] [((171,10),qj q8D q8v (qh uX))] 2
noncomputable def q0u:=vQ q6s 171 f171 4 qaF qa4
theorem qjA:ql prog qa q6s.nimp (qx prog q6s.iter 171) (zq f171 4) (qj qaF qa4 (qh q0u)):=gk q6s qc q8 (alc q4E aln) (alc (lk func171 qiy) aln) (b1 func171) func171
noncomputable def qk4:=qe [(172,q9 q35 q3n kr)] [(171,f171)] [((171,4),qj qaF qa4 (qh q0u))] 2
noncomputable def q6f:=qv qk4 171 f171 true qeF qeE
theorem qn3:qT prog qa 171 (q9 qeF qeE q6f):=sk qk4 qc q8 (alc q4E aln) (alc (lk func171 qjA) aln) (b1 func171) func171
def qiL:FIn:=⟨[(.int .i64),(.int .i64),(.imm [(.int .i64)])],[]⟩
def qjj:List FOut:=[⟨(.tuple [(.agg [(.int .i64),(.int .i64),(.imm [.str])]),(.int .i64)]),[],none⟩]
noncomputable def qoV:=qe [(170,q9 q90 q9G j8),(171,q9 qeF qeE q6f),(172,q9 q35 q3n kr)] [(129,f129)] [] 0
noncomputable def qaG:=qv qoV 129 f129 true qiL qjj
theorem qqr:qT prog qa 129 (q9 qiL qjj qaG):=sk qoV qc q8 (alc qeX (alc qn3 (alc q4E aln))) aln (b1 func129) func129
def q4J:FIn:=⟨[(.imm [.str])],[]⟩
def q4P:List FOut:=[⟨(.int .i64),[],none⟩]
def q6m:Tmpl:={ t:=(qw 6 ((.imm [.str])::(.int .i64)::(.int .i64)::qw 9 [])),h:=[] }
def q5S:List Out:=[⟨(.exit 0),{ t:=(qw 18 []),h:=[] }⟩,⟨.ret,{ t:=(.any::.any::(.int .i64)::qw 15 []),h:=[] }⟩]
noncomputable def q2l:=qe [(48,q9 yQ yP z8)] [(178,f178)] [] 0
noncomputable def jU:=vQ q2l 178 f178 3 q6m q5S
theorem qg7:ql prog qa q2l.nimp (qx prog q2l.iter 178) (zq f178 3) (qj q6m q5S (qh jU)):=gk q2l qc q8 (alc yv aln) aln (b1 func178) func178
noncomputable def qeZ:=qe [(48,q9 yQ yP z8)] [(178,f178)] [((178,3),qj q6m q5S (qh jU))] 0
noncomputable def ji:=qv qeZ 178 f178 true q4J q4P
theorem qaR:qT prog qa 178 (q9 q4J q4P ji):=sk qeZ qc q8 (alc yv aln) (alc (lk func178 qg7) aln) (b1 func178) func178
def qcH:FIn:=⟨[(.agg [(.int .i64),(.int .i64),(.imm [.str])])],[]⟩
def qch:List FOut:=[⟨(.int .i64),[],none⟩]
noncomputable def qi6:=qe [(170,q9 q90 q9G j8),(178,q9 q4J q4P ji)] [(173,f173)] [] 0
noncomputable def jF:=qv qi6 173 f173 true qcH qch
theorem qdm:qT prog qa 173 (q9 qcH qch jF):=sk qi6 qc q8 (alc qeX (alc qaR aln)) aln (b1 func173) func173
def qfe:FIn:=⟨[(.agg [(.int .i64),(.int .i64),(.imm [.str])])],[]⟩
def qfo:List FOut:=[⟨(.tuple [(.agg [(.int .i64),(.int .i64),(.imm [.str])]),(.int .i64)]),[],none⟩]
noncomputable def yA:List PV->TR:=qGu jF vl kR zF
theorem qj5:qT prog qa 130 (q9 qfe qfo yA):=qzL qdm q1V qce q41
def q17:FIn:=⟨[(.ptr 0 0),.str,(.int .i64)],[.cells [(.int .i64)]]⟩
def q19:List FOut:=[⟨.str,[.cells [(.int .i64)]],none⟩]
noncomputable def qay:=qe [] [(210,f210)] [] 1
noncomputable def vg:=qv qay 210 f210 true q17 q19
theorem q6M:qT prog qa 210 (q9 q17 q19 vg):=sk qay qc q8 aln aln (b1 func210) func210
def q6D:FIn:=⟨[(.ptr 0 0),.str,.str],[.cells [(.int .i64)]]⟩
def q6t:List FOut:=[⟨.str,[.cells [(.int .i64)]],none⟩]
noncomputable def qbG:=qe [(123,q9 q1r q1o vY),(210,q9 q17 q19 vg)] [(179,f179)] [] 1
noncomputable def ko:=qv qbG 179 f179 true q6D q6t
theorem qfZ:qT prog qa 179 (q9 q6D q6t ko):=sk qbG qc q8 (alc kI (alc q6M aln)) aln (b1 func179) func179
def q6A:FIn:=⟨[(.ptr 0 0),.str,.str],[.cells [(.int .i64)]]⟩
def q5P:List FOut:=[⟨.str,[.cells [(.int .i64)]],none⟩]
noncomputable def qbr:=qe [(124,q9 q4Z q4Y vl),(210,q9 q17 q19 vg)] [(180,f180)] [] 1
noncomputable def kz:=qv qbr 180 f180 true q6A q5P
theorem qgs:qT prog qa 180 (q9 q6A q5P kz):=sk qbr qc q8 (alc q1V (alc q6M aln)) aln (b1 func180) func180
def qcz:FIn:=⟨[(.agg [(.int .i64),(.int .i64),(.imm [.str])]),(.int .i64),(.int .i64)],[]⟩
def qcn:List FOut:=[⟨.str,[],none⟩]
noncomputable def qit:=qe [] [(181,f181)] [] 0
noncomputable def q40:=qv qit 181 f181 true qcz qcn
theorem qlT:qT prog qa 181 (q9 qcz qcn q40):=sk qit qc q8 aln aln (b1 func181) func181
def qcY:FIn:=⟨[(.agg [(.int .i64),(.int .i64),(.imm [.str])]),(.imm [.str])],[]⟩
def qcE:List FOut:=[⟨(.tuple [(.imm [.str]),(.int .i64)]),[],none⟩]
def q7m:Tmpl:={ t:=(.any::(.imm [.str])::(.ptr 0 0)::qw 5 ((.ptr 1 0)::(.vec 2)::(.int .i64)::.str::qw 20 ((.int .i64)::(.int .i64)::.any::.any::(.imm [.str])::(.int .i64)::(.int .i64)::qw 30 []))),h:=[.cells [(.int .i64),(.int .i64),(.imm [.str])],.cells [(.int .i64)],.vec 30 [.str]] }
def q77:List Out:=[⟨(.exit 2),{ t:=(.any::(.imm [.str])::(.ptr 0 0)::qw 5 ((.ptr 1 0)::(.vec 2)::.any::.str::qw 20 ((.int .i64)::(.int .i64)::qw 35 []))),h:=[.cells [(.int .i64),(.int .i64),(.imm [.str])],.cells [(.int .i64)],.vec 30 [.str]] }⟩]
noncomputable def q6j:List (FuncId×zE):=[(173,q9 qcH qch jF),(178,q9 q4J q4P ji),(179,q9 q6D q6t ko),(180,q9 q6A q5P kz),(181,q9 qcz qcn q40)]
theorem q8a:∀x,x∈q6j->qT prog qa x.1 x.2:=(alc qdm (alc qaR (alc qfZ (alc qgs (alc qlT aln)))))
noncomputable def q30:=qe q6j [(131,f131)] [] 0
noncomputable def ue:=vQ q30 131 f131 24 q7m q77
theorem qhK:ql prog qa q30.nimp (qx prog q30.iter 131) (zq f131 24) (qj q7m q77 (qh ue)):=gk q30 qc q8 q8a aln (b1 func131) func131
def q7f:Tmpl:={ t:=(.any::(.imm [.str])::(.ptr 0 0)::qw 5 ((.ptr 1 0)::(.vec 2)::qw 22 ((.int .i64)::(.int .i64)::qw 35 []))),h:=[.cells [(.int .i64),(.int .i64),(.imm [.str])],.cells [(.int .i64)],.vec 30 [.str]],pro:=[(9,30,[.str])] }
def q7e:List Out:=[⟨(.exit 0),{ t:=(qw 8 ((.ptr 1 0)::(.vec 2)::qw 59 [])),h:=[.dead,.cells [(.int .i64)],.vec 30 [.str]] }⟩]
noncomputable def q3u:=qe q6j [(131,f131)] [((131,24),qj q7m q77 (qh ue))] 0
noncomputable def u7:=vQ q3u 131 f131 16 q7f q7e
theorem qhu:ql prog qa q3u.nimp (qx prog q3u.iter 131) (zq f131 16) (qj q7f q7e (qh u7)):=gk q3u qc q8 q8a (alc (lk func131 qhK) aln) (b1 func131) func131
noncomputable def qhR:=qe q6j [(131,f131)] [((131,16),qj q7f q7e (qh u7))] 0
noncomputable def q4s:=qv qhR 131 f131 true qcY qcE
theorem qmc:qT prog qa 131 (q9 qcY qcE q4s):=sk qhR qc q8 q8a (alc (lk func131 qhu) aln) (b1 func131) func131
def qjh:FIn:=⟨[(.imm [.str])],[]⟩
def qjc:List FOut:=[⟨(.tuple [.str,(.int .i64)]),[],none⟩]
def qcO:Tmpl:={ t:=(qw 5 (.str::qw 12 ((.imm [.str])::(.int .i64)::(.int .i64)::qw 15 []))),h:=[] }
def qck:List Out:=[⟨(.exit 0),{ t:=(qw 5 (.str::qw 30 [])),h:=[] }⟩,⟨.ret,{ t:=(.any::.any::.str::(.int .i64)::qw 32 []),h:=[] }⟩]
noncomputable def q7v:=qe [(54,q9 v7 wZ qA),(123,q9 q1r q1o vY)] [(132,f132)] [] 0
noncomputable def q1Q:=vQ q7v 132 f132 11 qcO qck
theorem ql5:ql prog qa q7v.nimp (qx prog q7v.iter 132) (zq f132 11) (qj qcO qck (qh q1Q)):=gk q7v qc q8 (alc wg (alc kI aln)) aln (b1 func132) func132
noncomputable def qpl:=qe [(54,q9 v7 wZ qA),(123,q9 q1r q1o vY)] [(132,f132)] [((132,11),qj qcO qck (qh q1Q))] 0
noncomputable def qau:=qv qpl 132 f132 true qjh qjc
theorem qqe:qT prog qa 132 (q9 qjh qjc qau):=sk qpl qc q8 (alc wg (alc kI aln)) (alc (lk func132 ql5) aln) (b1 func132) func132
def wk:FIn:=⟨[(.imm [.str]),(.imm [.str])],[]⟩
def wn:List FOut:=[⟨(.tuple [.str,(.int .i64)]),[],none⟩]
def j7:Tmpl:={ t:=(.any::(.imm [.str])::qw 4 (.str::qw 4 ((.imm [.str])::(.int .i64)::(.int .i64)::qw 27 []))),h:=[] }
def j3:List Out:=[⟨(.exit 0),{ t:=(qw 6 (.str::qw 34 [])),h:=[] }⟩,⟨.ret,{ t:=(qw 4 (.str::(.int .i64)::qw 35 [])),h:=[] }⟩]
noncomputable def zP:=qe [(123,q9 q1r q1o vY),(124,q9 q4Z q4Y vl)] [(134,f134)] [] 0
noncomputable def qS:=vQ zP 134 f134 4 j7 j3
theorem q4d:ql prog qa zP.nimp (qx prog zP.iter 134) (zq f134 4) (qj j7 j3 (qh qS)):=gk zP qc q8 (alc kI (alc q1V aln)) aln (b1 func134) func134
noncomputable def q0E:=qe [(123,q9 q1r q1o vY),(124,q9 q4Z q4Y vl)] [(134,f134)] [((134,4),qj j7 j3 (qh qS))] 0
noncomputable def qH:=qv q0E 134 f134 true wk wn
theorem uI:qT prog qa 134 (q9 wk wn qH):=sk q0E qc q8 (alc kI (alc q1V aln)) (alc (lk func134 q4d) aln) (b1 func134) func134
def q4g:FIn:=⟨[(.agg [.str,.str,.str]),(.agg [(.int .i64),(.int .i64),(.int .i64)])],[]⟩
def q4a:List FOut:=[⟨(.tuple [.str,(.int .i64)]),[],none⟩]
def q8m:Tmpl:={ t:=(.any::.any::(.ptr 0 0)::.any::.any::.any::(.vec 2)::qw 5 ((.agg [(.int .i64),(.int .i64),(.int .i64)])::(.int .i64)::qw 25 [])),h:=[.cells [.str,.str,.str],.dead,.vec 30 [.str]],pro:=[(6,30,[.str])] }
def q8j:List Out:=[⟨(.exit 0),{ t:=(qw 6 ((.vec 2)::qw 32 [])),h:=[.dead,.dead,.vec 30 [.str]] }⟩,⟨.ret,{ t:=(qw 4 (.str::(.int .i64)::qw 33 [])),h:=[] }⟩]
noncomputable def qaZ:List (FuncId×zE):=[(115,q9 q78 q79 zF),(128,q9 q5U q6x jD),(133,q9 vw vK qM),(134,q9 wk wn qH)]
theorem qfi:∀x,x∈qaZ->qT prog qa x.1 x.2:=(alc q41 (alc q8i (alc jQ (alc uI aln))))
noncomputable def q4H:=qe qaZ [(135,f135)] [] 0
noncomputable def uT:=vQ q4H 135 f135 4 q8m q8j
theorem qji:ql prog qa q4H.nimp (qx prog q4H.iter 135) (zq f135 4) (qj q8m q8j (qh uT)):=gk q4H qc q8 qfi aln (b1 func135) func135
noncomputable def qi1:=qe qaZ [(135,f135)] [((135,4),qj q8m q8j (qh uT))] 0
noncomputable def vU:=qv qi1 135 f135 true q4g q4a
theorem q6U:qT prog qa 135 (q9 q4g q4a vU):=sk qi1 qc q8 qfi (alc (lk func135 qji) aln) (b1 func135) func135
def q8B:FIn:=⟨[(.imm [(.int .i64),(.int .i64),(.int .i64)])],[]⟩
def q8p:List FOut:=[⟨(.tuple [(.agg [.str,.str,.str,.str,(.imm [.str])]),.bool,(.int .i64)]),[],none⟩]
def q5b:Tmpl:={ t:=((.imm [(.int .i64),(.int .i64),(.int .i64)])::.any::(.ptr 0 0)::.any::.any::(.int .i64)::(.vec 1)::(.vec 2)::(.int .i64)::qw 15 ((.int .i64)::(.int .i64)::.any::.any::(.int .i64)::(.int .i64)::qw 141 [])),h:=[.cells [.str,.str,.str,.str,.nils],.vec 3 [(.int .i64)],.vec 30 [.str]] }
def q5j:List Out:=[⟨(.exit 2),{ t:=((.imm [(.int .i64),(.int .i64),(.int .i64)])::.any::(.ptr 0 0)::.any::.any::(.int .i64)::(.vec 1)::(.vec 2)::(.int .i64)::qw 15 ((.int .i64)::(.int .i64)::qw 145 [])),h:=[.cells [.str,.str,.str,.str,.nils],.vec 3 [(.int .i64)],.vec 30 [.str]] }⟩]
noncomputable def uc:List (FuncId×zE):=[(115,q9 q78 q79 zF),(127,q9 qdZ qep q1i),(128,q9 q5U q6x jD),(129,q9 qiL qjj qaG),(130,q9 qfe qfo yA),(131,q9 qcY qcE q4s),(132,q9 qjh qjc qau),(133,q9 vw vK qM),(134,q9 wk wn qH),(135,q9 q4g q4a vU)]
theorem kl:∀x,x∈uc->qT prog qa x.1 x.2:=(alc q41 (alc qmX (alc q8i (alc qqr (alc qj5 (alc qmc (alc qqe (alc jQ (alc uI (alc q6U aln))))))))))
noncomputable def q1m:=qe uc [(94,f94)] [] 0
noncomputable def jr:=vQ q1m 94 f94 13 q5b q5j
theorem qft:ql prog qa q1m.nimp (qx prog q1m.iter 94) (zq f94 13) (qj q5b q5j (qh jr)):=gk q1m qc q8 kl aln (b1 func94) func94
def q65:Tmpl:={ t:=((.imm [(.int .i64),(.int .i64),(.int .i64)])::.any::(.ptr 0 0)::.any::.any::(.int .i64)::(.vec 1)::(.vec 2)::qw 16 ((.int .i64)::(.int .i64)::qw 145 [])),h:=[.cells [.str,.str,.str,.str,.nils],.vec 3 [(.int .i64)],.vec 30 [.str]],pro:=[(6,3,[(.int .i64)]),(7,30,[.str])] }
def q5R:List Out:=[⟨(.exit 0),{ t:=((.imm [(.int .i64),(.int .i64),(.int .i64)])::.any::(.ptr 0 0)::.any::.any::(.int .i64)::(.vec 1)::(.vec 2)::qw 163 []),h:=[.cells [.str,.str,.str,.str,.nils],.vec 3 [(.int .i64)],.vec 30 [.str]] }⟩]
noncomputable def q2m:=qe uc [(94,f94)] [((94,13),qj q5b q5j (qh jr))] 0
noncomputable def jS:=vQ q2m 94 f94 6 q65 q5R
theorem qfI:ql prog qa q2m.nimp (qx prog q2m.iter 94) (zq f94 6) (qj q65 q5R (qh jS)):=gk q2m qc q8 kl (alc (lk func94 qft) aln) (b1 func94) func94
def q4X:Tmpl:={ t:=((.imm [(.int .i64),(.int .i64),(.int .i64)])::.any::(.ptr 0 0)::qw 13 ((.ptr 6 0)::(.int .i64)::(.vec 7)::qw 107 ((.int .i64)::.any::.any::(.imm [(.int .i64),(.int .i64),(.int .i64)])::(.int .i64)::(.int .i64)::qw 39 []))),h:=[.cells [.str,.str,.str,.str,.nils],.dead,.dead,.dead,.dead,.frz 30 [.str],.cells [.str,.str,.str,.str,(.vec 5)],.vec 30 [.str]],pro:=[(18,30,[.str])] }
def q55:List Out:=[⟨(.exit 6),{ t:=((.imm [(.int .i64),(.int .i64),(.int .i64)])::.any::(.ptr 0 0)::qw 13 ((.ptr 6 0)::(.int .i64)::(.vec 7)::qw 107 ((.int .i64)::qw 44 []))),h:=[.cells [.str,.str,.str,.str,.nils],.dead,.dead,.dead,.dead,.frz 30 [.str],.cells [.str,.str,.str,.str,(.vec 5)],.vec 30 [.str]] }⟩]
noncomputable def q1e:=qe uc [(94,f94)] [] 0
noncomputable def jv:=vQ q1e 94 f94 52 q4X q55
theorem qfw:ql prog qa q1e.nimp (qx prog q1e.iter 94) (zq f94 52) (qj q4X q55 (qh jv)):=gk q1e qc q8 kl aln (b1 func94) func94
def q4W:Tmpl:={ t:=((.imm [(.int .i64),(.int .i64),(.int .i64)])::.any::(.ptr 0 0)::qw 13 ((.ptr 6 0)::qw 109 ((.int .i64)::qw 44 []))),h:=[.cells [.str,.str,.str,.str,.nils],.dead,.dead,.dead,.dead,.frz 30 [.str],.cells [.str,.str,.str,.str,(.vec 5)]],fz:=[5] }
def q5a:List Out:=[⟨(.exit 4),{ t:=((.imm [(.int .i64),(.int .i64),(.int .i64)])::.any::(.ptr 0 0)::qw 13 ((.ptr 6 0)::qw 154 [])),h:=[.cells [.str,.str,.str,.str,.nils],.dead,.dead,.dead,.dead,.frz 30 [.str],.cells [.str,.str,.str,.str,(.vec 5)]] }⟩,⟨.ret,{ t:=(.any::.any::(.ptr 0 0)::.bool::(.int .i64)::qw 166 []),h:=[.cells [.str,.str,.str,.str,.nils]] }⟩]
noncomputable def q1b:=qe uc [(94,f94)] [((94,52),qj q4X q55 (qh jv))] 0
noncomputable def jt:=vQ q1b 94 f94 44 q4W q5a
theorem qfB:ql prog qa q1b.nimp (qx prog q1b.iter 94) (zq f94 44) (qj q4W q5a (qh jt)):=gk q1b qc q8 kl (alc (lk func94 qfw) aln) (b1 func94) func94
noncomputable def qeR:=qe uc [(94,f94)] [((94,6),qj q65 q5R (qh jS)),((94,44),qj q4W q5a (qh jt))] 0
noncomputable def ka:=qv qeR 94 f94 true q8B q8p
theorem qjr:qT prog qa 94 (q9 q8B q8p ka):=sk qeR qc q8 kl (alc (lk func94 qfI) (alc (lk func94 qfB) aln)) (b1 func94) func94
def q8H:FIn:=⟨[(.imm [(.int .i64),(.int .i64),(.int .i64)]),(.imm [(.int .i64)])],[]⟩
def q8y:List FOut:=[⟨(.imm [(.int .i64),(.int .i64),(.int .i64)]),[],none⟩]
def q6k:Tmpl:={ t:=((.imm [(.int .i64),(.int .i64),(.int .i64)])::qw 4 ((.vec 0)::.any::.any::(.imm [(.int .i64)])::(.int .i64)::(.int .i64)::qw 12 [])),h:=[.vec 115 [(.int .i64),(.int .i64),(.int .i64)]],pro:=[(5,115,[(.int .i64),(.int .i64),(.int .i64)])] }
def q60:List Out:=[⟨(.exit 0),{ t:=(qw 5 ((.vec 0)::qw 17 [])),h:=[.vec 115 [(.int .i64),(.int .i64),(.int .i64)]] }⟩]
noncomputable def q2r:=qe [] [(95,f95)] [] 0
noncomputable def ya:=vQ q2r 95 f95 4 q6k q60
theorem qgI:ql prog qa q2r.nimp (qx prog q2r.iter 95) (zq f95 4) (qj q6k q60 (qh ya)):=gk q2r qc q8 aln aln (b1 func95) func95
noncomputable def qeQ:=qe [] [(95,f95)] [((95,4),qj q6k q60 (qh ya))] 0
noncomputable def q1G:=qv qeQ 95 f95 true q8H q8y
theorem qiG:qT prog qa 95 (q9 q8H q8y q1G):=sk qeQ qc q8 aln (alc (lk func95 qgI) aln) (b1 func95) func95
def qe7:FIn:=⟨[.str],[]⟩
def qe2:List FOut:=[⟨(.tuple [.str,.str,(.int .i64)]),[],none⟩]
noncomputable def qjW:=qe [(48,q9 yQ yP z8),(55,q9 kY kL qK)] [(183,f183)] [] 0
noncomputable def q6v:=qv qjW 183 f183 true qe7 qe2
theorem qmV:qT prog qa 183 (q9 qe7 qe2 q6v):=sk qjW qc q8 (alc yv (alc yY aln)) aln (b1 func183) func183
def qgD:FIn:=⟨[.str],[]⟩
def qfY:List FOut:=[⟨(.tuple [(.int .i64),(.int .i64)]),[],none⟩]
noncomputable def qms:=qe [(183,q9 qe7 qe2 q6v),(184,q9 qbA qby q2z)] [(138,f138)] [] 0
noncomputable def q5o:=qv qms 138 f138 true qgD qfY
theorem qpG:qT prog qa 138 (q9 qgD qfY q5o):=sk qms qc q8 (alc qmV (alc qfM aln)) aln (b1 func138) func138
def zK:FIn:=⟨[.str],[]⟩
def zN:List FOut:=[⟨.bool,[],none⟩]
noncomputable def q4r:=qe [(138,q9 qgD qfY q5o)] [(137,f137)] [] 0
noncomputable def qX:=qv q4r 137 f137 true zK zN
theorem vN:qT prog qa 137 (q9 zK zN qX):=sk q4r qc q8 (alc qpG aln) aln (b1 func137) func137
def vP:FIn:=⟨[(.imm [.str]),(.fn 137 [] [])],[]⟩
def vS:List FOut:=[⟨(.int .i64),[],none⟩]
def wX:Tmpl:={ t:=((.imm [.str])::(.fn 137 [] [])::qw 5 ((.int .i64)::(.int .i64)::qw 10 [])),h:=[] }
def wT:List Out:=[⟨(.exit 0),{ t:=(qw 19 []),h:=[] }⟩,⟨.ret,{ t:=(qw 4 ((.int .i64)::qw 14 [])),h:=[] }⟩]
noncomputable def zD:=qe [(137,q9 zK zN qX)] [(182,f182)] [] 0
noncomputable def qF:=vQ zD 182 f182 3 wX wT
theorem q2V:ql prog qa zD.nimp (qx prog zD.iter 182) (zq f182 3) (qj wX wT (qh qF)):=gk zD qc q8 (alc vN aln) aln (b1 func182) func182
noncomputable def uJ:=qe [(137,q9 zK zN qX)] [(182,f182)] [((182,3),qj wX wT (qh qF))] 0
noncomputable def qP:=qv uJ 182 f182 true vP vS
theorem q3U:qT prog qa 182 (q9 vP vS qP):=sk uJ qc q8 (alc vN aln) (alc (lk func182 q2V) aln) (b1 func182) func182
def wz:FIn:=⟨[(.imm [.str]),(.fn 137 [] [])],[]⟩
def wD:List FOut:=[⟨.bool,[],none⟩]
noncomputable def yE:=qe [(137,q9 zK zN qX),(182,q9 vP vS qP)] [(136,f136)] [] 0
noncomputable def qV:=qv yE 136 f136 true wz wD
theorem q2u:qT prog qa 136 (q9 wz wD qV):=sk yE qc q8 (alc vN (alc q3U aln)) aln (b1 func136) func136
def q1h:FIn:=⟨[(.agg [.str,.str,.str,.str,(.imm [.str])])],[]⟩
def q1k:List FOut:=[⟨.bool,[],none⟩]
noncomputable def q5O:=qe [(136,q9 wz wD qV),(137,q9 zK zN qX)] [(96,f96)] [] 0
noncomputable def vZ:=qv q5O 96 f96 true q1h q1k
theorem qb8:qT prog qa 96 (q9 q1h q1k vZ):=sk q5O qc q8 (alc q2u (alc vN aln)) aln (b1 func96) func96
def q2U:FIn:=⟨[.str,.str],[]⟩
def q2L:List FOut:=[⟨(.tuple [(.int .i64),(.int .i64)]),[],none⟩]
noncomputable def qgV:=qe [(54,q9 v7 wZ qA),(55,q9 kY kL qK),(56,q9 vb va qf),(57,q9 q6q q6p un)] [(24,f24)] [] 0
noncomputable def zJ:=qv qgV 24 f24 true q2U q2L
theorem q68:qT prog qa 24 (q9 q2U q2L zJ):=sk qgV qc q8 (alc wg (alc yY (alc vk (alc qbH aln)))) aln (b1 func24) func24
def kZ:FIn:=⟨[(.agg [.str,.str,.str,.str,(.imm [.str])]),(.imm [(.int .i64),(.int .i64),(.int .i64)])],[]⟩
def q05:List FOut:=[⟨(.tuple [.bool,(.int .i64)]),[],none⟩]
def ur:Tmpl:={ t:=(.any::.any::(.ptr 0 0)::qw 9 ((.imm [(.int .i64),(.int .i64),(.int .i64)])::(.int .i64)::(.int .i64)::qw 28 [])),h:=[.cells [.str,.str,.str,.str,(.imm [.str])]] }
def ui:List Out:=[⟨(.exit 0),{ t:=(qw 43 []),h:=[] }⟩,⟨.ret,{ t:=(qw 4 (.bool::(.int .i64)::qw 37 [])),h:=[] }⟩]
noncomputable def vX:=qe [(24,q9 q2U q2L zJ),(135,q9 q4g q4a vU)] [(97,f97)] [] 0
noncomputable def z7:=vQ vX 97 f97 3 ur ui
theorem q7P:ql prog qa vX.nimp (qx prog vX.iter 97) (zq f97 3) (qj ur ui (qh z7)):=gk vX qc q8 (alc q68 (alc q6U aln)) aln (b1 func97) func97
noncomputable def q4e:=qe [(24,q9 q2U q2L zJ),(135,q9 q4g q4a vU)] [(97,f97)] [((97,3),qj ur ui (qh z7))] 0
noncomputable def wW:=qv q4e 97 f97 true kZ q05
theorem q9E:qT prog qa 97 (q9 kZ q05 wW):=sk q4e qc q8 (alc q68 (alc q6U aln)) (alc (lk func97 q7P) aln) (b1 func97) func97
def q54:FIn:=⟨[(.imm [(.int .i64),(.int .i64),(.int .i64)]),(.imm [(.int .i64)])],[]⟩
def q5e:List FOut:=[⟨(.tuple [(.agg [.str,.str,.str,.str,(.imm [.str])]),.bool,(.int .i64)]),[],none⟩]
noncomputable def qaB:=qe [(94,q9 q8B q8p ka),(95,q9 q8H q8y q1G),(96,q9 q1h q1k vZ),(97,q9 kZ q05 wW)] [(64,f64)] [] 0
noncomputable def zW:=qv qaB 64 f64 true q54 q5e
theorem qfs:qT prog qa 64 (q9 q54 q5e zW):=sk qaB qc q8 (alc qjr (alc qiG (alc qb8 (alc q9E aln)))) aln (b1 func64) func64
def qaT:FIn:=⟨[(.imm [(.int .i64),(.int .i64),(.int .i64)]),(.int .i64)],[]⟩
def qaD:List FOut:=[⟨(.tuple [(.agg [.str,.str,.str,.str,(.imm [.str])]),(.imm [(.int .i64)]),(.int .i64)]),[],none⟩]
def q2R:Tmpl:={ t:=(.yld::.any::(.ptr 4 0)::.any::.any::(.vec 7)::.any::(.imm [(.int .i64)])::.any::(.int .i64)::.any::.any::(.int .i64)::(.int .i64)::.any::(.vec 6)::(.int .i64)::(.int .i64)::qw 35 []),h:=[.cells [(.imm [(.int .i64),(.int .i64),(.int .i64)])],.cells [.str,.str,.str,.str,.nils],.cells [.nils],.cells [(.int .i64)],.cells [(.int .i64)],.cells [(.int .i64)],.vec 33 [(.sl [(.int .i64)])],.vec 33 [(.sl [(.int .i64)])]],fs:=[[.any,.any,(.ptr 0 0),.any,(.ptr 1 0),(.ptr 2 0),(.ptr 3 0),.any,.any,.any,.any,.any,.any,.any,(.fn 92 [] [(.ptr 5 0),(.ptr 4 0)]),.any,.any,.any,.any,.any,.any,.any,.any,.any,.any,.any,.any,.any,.any,.any,.any],[]] }
def q2x:List Out:=[⟨(.exit 4),{ t:=(.yld::.any::(.ptr 4 0)::.any::.any::(.vec 7)::qw 6 ((.int .i64)::(.int .i64)::.any::(.vec 6)::(.int .i64)::(.int .i64)::qw 35 [])),h:=[.cells [(.imm [(.int .i64),(.int .i64),(.int .i64)])],.cells [.str,.str,.str,.str,.nils],.cells [.nils],.cells [(.int .i64)],.cells [(.int .i64)],.cells [(.int .i64)],.vec 33 [(.sl [(.int .i64)])],.vec 33 [(.sl [(.int .i64)])]],fs:=[[.any,.any,(.ptr 0 0),.any,(.ptr 1 0),(.ptr 2 0),(.ptr 3 0),.any,.any,.any,.any,.any,.any,.any,(.fn 92 [] [(.ptr 5 0),(.ptr 4 0)]),.any,.any,.any,.any,.any,.any,.any,.any,.any,.any,.any,.any,.any,.any,.any,.any],[]] }⟩,⟨.ret,{ t:=(qw 53 []),h:=[.cells [(.imm [(.int .i64),(.int .i64),(.int .i64)])],.cells [.str,.str,.str,.str,(.imm [.str])],.cells [(.vec 8)],.cells [(.int .i64)],.cells [(.int .i64)],.cells [(.int .i64)],.dead,.dead,.frz 3 [(.int .i64)]],fs:=[[.any,.any,(.ptr 0 0),.any,(.ptr 1 0),(.ptr 2 0),(.ptr 3 0),.any,.any,.any,.any,.any,.any,.any,(.fn 92 [] [(.ptr 5 0),(.ptr 4 0)]),.any,.any,.any,.any,.any,.any,.any,.any,.any,.any,.any,.any,.any,.any,.any,.any],[]],pend:=(.some .ret) }⟩]
noncomputable def q1D:List (FuncId×zE):=[(64,q9 q54 q5e zW),(93,q9 q23 q28 wL)]
theorem q38:∀x,x∈q1D->qT prog qa x.1 x.2:=(alc qfs (alc qci aln))
noncomputable def kj:Env:={ tt:=q7b,glob:=qa,spec:=q1D,body:=[(34,f34),(63,f63),(92,f92)],loops:=[],nimp:=0,iter:=[(92,34,3)],raws:=[93] }
noncomputable def qQ:=qmz kj (some (34,f34,3)) 92 f92 18 q2R q2x
theorem qda:ql prog qa kj.nimp (qx prog kj.iter 92) (zq f92 18) (qj q2R q2x (qh qQ)):=q0Y (E:=kj) qc ⟨q6Q q8,⟨q38,aln⟩,aln,(alc (bk func34) (alc (bk func63) (alc (bk func92) aln)))⟩ func92 (by kernel_rfl) (y:=some (34,f34,3)) ⟨func34,by kernel_rfl⟩ (by kernel_rfl) (by kernel_rfl) (fun _=>rfl)
def q3R:Tmpl:={ t:=(.yld::.any::(.ptr 4 0)::.any::.any::(.vec 7)::qw 6 ((.int .i64)::(.int .i64)::.any::(.vec 6)::(.int .i64)::(.int .i64)::qw 35 [])),h:=[.cells [(.imm [(.int .i64),(.int .i64),(.int .i64)])],.cells [.str,.str,.str,.str,.nils],.cells [.nils],.cells [(.int .i64)],.cells [(.int .i64)],.cells [(.int .i64)],.vec 33 [(.sl [(.int .i64)])],.vec 33 [(.sl [(.int .i64)])]],pro:=[(5,33,[(.sl [(.int .i64)])])],fs:=[[.any,.any,(.ptr 0 0),.any,(.ptr 1 0),(.ptr 2 0),(.ptr 3 0),.any,.any,.any,.any,.any,.any,.any,(.fn 92 [] [(.ptr 5 0),(.ptr 4 0)]),.any,.any,.any,.any,.any,.any,.any,.any,.any,.any,.any,.any,.any,.any,.any,.any],[]] }
def q3V:List Out:=[⟨(.exit 2),{ t:=(.yld::.any::(.ptr 4 0)::.any::.any::(.vec 7)::qw 6 ((.int .i64)::(.int .i64)::qw 39 [])),h:=[.cells [(.imm [(.int .i64),(.int .i64),(.int .i64)])],.cells [.str,.str,.str,.str,.nils],.cells [.nils],.cells [(.int .i64)],.cells [(.int .i64)],.cells [(.int .i64)],.dead,.vec 33 [(.sl [(.int .i64)])]],fs:=[[.any,.any,(.ptr 0 0),.any,(.ptr 1 0),(.ptr 2 0),(.ptr 3 0),.any,.any,.any,.any,.any,.any,.any,(.fn 92 [] [(.ptr 5 0),(.ptr 4 0)]),.any,.any,.any,.any,.any,.any,.any,.any,.any,.any,.any,.any,.any,.any,.any,.any],[]] }⟩,⟨.ret,{ t:=(qw 53 []),h:=[.cells [(.imm [(.int .i64),(.int .i64),(.int .i64)])],.cells [.str,.str,.str,.str,(.imm [.str])],.cells [(.vec 8)],.cells [(.int .i64)],.cells [(.int .i64)],.cells [(.int .i64)],.dead,.dead,.frz 3 [(.int .i64)]],fs:=[[.any,.any,(.ptr 0 0),.any,(.ptr 1 0),(.ptr 2 0),(.ptr 3 0),.any,.any,.any,.any,.any,.any,.any,(.fn 92 [] [(.ptr 5 0),(.ptr 4 0)]),.any,.any,.any,.any,.any,.any,.any,.any,.any,.any,.any,.any,.any,.any,.any,.any],[]],pend:=(.some .ret) }⟩]
noncomputable def q0k:Env:={ tt:=q7b,glob:=qa,spec:=q1D,body:=[(34,f34),(63,f63),(92,f92)],loops:=[((92,18),qj q2R q2x (qh qQ))],nimp:=0,iter:=[(92,34,3)],raws:=[93] }
noncomputable def jh:=qmz q0k (some (34,f34,3)) 92 f92 9 q3R q3V
theorem qeH:ql prog qa q0k.nimp (qx prog q0k.iter 92) (zq f92 9) (qj q3R q3V (qh jh)):=q0Y (E:=q0k) qc ⟨q6Q q8,⟨q38,aln⟩,(alc (lk func92 qda) aln),(alc (bk func34) (alc (bk func63) (alc (bk func92) aln)))⟩ func92 (by kernel_rfl) (y:=some (34,f34,3)) ⟨func34,by kernel_rfl⟩ (by kernel_rfl) (by kernel_rfl) (fun _=>rfl)
def q3H:Tmpl:={ t:=(.yld::.any::(.ptr 4 0)::.any::(.vec 6)::qw 7 ((.int .i64)::(.int .i64)::qw 39 [])),h:=[.cells [(.imm [(.int .i64),(.int .i64),(.int .i64)])],.cells [.str,.str,.str,.str,.nils],.cells [.nils],.cells [(.int .i64)],.cells [(.int .i64)],.cells [(.int .i64)],.vec 33 [(.sl [(.int .i64)])]],sw:=[(2,4),(4,6)],swn:=0,fs:=[[.any,.any,(.ptr 0 0),.any,(.ptr 1 0),(.ptr 2 0),(.ptr 3 0),.any,.any,.any,.any,.any,.any,.any,(.fn 92 [] [(.ptr 5 0),(.ptr 4 0)]),.any,.any,.any,.any,.any,.any,.any,.any,.any,.any,.any,.any,.any,.any,.any,.any],[]] }
def q3S:List Out:=[⟨(.exit 0),{ t:=(qw 53 []),h:=[.cells [(.imm [(.int .i64),(.int .i64),(.int .i64)])],.cells [.str,.str,.str,.str,.nils],.cells [.nils],.cells [(.int .i64)],.cells [(.int .i64)],.cells [(.int .i64)]],fs:=[[.any,.any,(.ptr 0 0),.any,(.ptr 1 0),(.ptr 2 0),(.ptr 3 0),.any,.any,.any,.any,.any,.any,.any,(.fn 92 [] [(.ptr 5 0),(.ptr 4 0)]),.any,.any,.any,.any,.any,.any,.any,.any,.any,.any,.any,.any,.any,.any,.any,.any],[]] }⟩,⟨.ret,{ t:=(qw 53 []),h:=[.cells [(.imm [(.int .i64),(.int .i64),(.int .i64)])],.cells [.str,.str,.str,.str,(.imm [.str])],.cells [(.vec 8)],.cells [(.int .i64)],.cells [(.int .i64)],.cells [(.int .i64)],.dead,.dead,.frz 3 [(.int .i64)]],fs:=[[.any,.any,(.ptr 0 0),.any,(.ptr 1 0),(.ptr 2 0),(.ptr 3 0),.any,.any,.any,.any,.any,.any,.any,(.fn 92 [] [(.ptr 5 0),(.ptr 4 0)]),.any,.any,.any,.any,.any,.any,.any,.any,.any,.any,.any,.any,.any,.any,.any,.any],[]],pend:=(.some .ret) }⟩]
noncomputable def q0b:Env:={ tt:=q7b,glob:=qa,spec:=q1D,body:=[(34,f34),(63,f63),(92,f92)],loops:=[((92,9),qj q3R q3V (qh jh))],nimp:=0,iter:=[(92,34,3)],raws:=[93] }
noncomputable def je:=qmz q0b (some (34,f34,3)) 92 f92 2 q3H q3S
theorem qen:ql prog qa q0b.nimp (qx prog q0b.iter 92) (zq f92 2) (qj q3H q3S (qh je)):=q0Y (E:=q0b) qc ⟨q6Q q8,⟨q38,aln⟩,(alc (lk func92 qeH) aln),(alc (bk func34) (alc (bk func63) (alc (bk func92) aln)))⟩ func92 (by kernel_rfl) (y:=some (34,f34,3)) ⟨func34,by kernel_rfl⟩ (by kernel_rfl) (by kernel_rfl) (fun _=>rfl)
noncomputable def qfV:Env:={ tt:=q7b,glob:=qa,spec:=q1D,body:=[(34,f34),(63,f63),(92,f92)],loops:=[((92,2),qj q3H q3S (qh je))],nimp:=0,iter:=[(92,34,3)],raws:=[93] }
noncomputable def q0p:=qv qfV 34 f34 true qaT qaD
theorem qko:qT prog qa 34 (q9 qaT qaD q0p):=sk qfV qc q8 q38 (alc (lk func92 qen) aln) (alc (bk func34) (alc (bk func63) (alc (bk func92) aln))) func34
def q8z:FIn:=⟨[(.imm [(.int .i64),(.int .i64)])],[]⟩
def q8x:List FOut:=[⟨(.imm [(.int .i64),(.int .i64),(.int .i64)]),[],none⟩]
def q6i:Tmpl:={ t:=(.any::.any::.any::(.vec 0)::.any::.any::(.imm [(.int .i64),(.int .i64)])::(.int .i64)::(.int .i64)::qw 13 []),h:=[.vec 115 [(.int .i64),(.int .i64),(.int .i64)]],pro:=[(3,115,[(.int .i64),(.int .i64),(.int .i64)])] }
def q69:List Out:=[⟨(.exit 0),{ t:=(.any::.any::.any::(.vec 0)::qw 18 []),h:=[.vec 115 [(.int .i64),(.int .i64),(.int .i64)]] }⟩]
noncomputable def q2t:=qe [] [(35,f35)] [] 0
noncomputable def jY:=vQ q2t 35 f35 4 q6i q69
theorem qg6:ql prog qa q2t.nimp (qx prog q2t.iter 35) (zq f35 4) (qj q6i q69 (qh jY)):=gk q2t qc q8 aln aln (b1 func35) func35
noncomputable def qfd:=qe [] [(35,f35)] [((35,4),qj q6i q69 (qh jY))] 0
noncomputable def q1K:=qv qfd 35 f35 true q8z q8x
theorem qjp:qT prog qa 35 (q9 q8z q8x q1K):=sk qfd qc q8 aln (alc (lk func35 qg6) aln) (b1 func35) func35
def q1Y:FIn:=⟨[(.agg [.str,.str,.str,.str,(.imm [.str])])],[]⟩
def q24:List FOut:=[⟨(.agg [.str,.str]),[],none⟩]
noncomputable def q6S:=qe [] [(36,f36)] [] 0
noncomputable def uB:=qv q6S 36 f36 true q1Y q24
theorem qc9:qT prog qa 36 (q9 q1Y q24 uB):=sk q6S qc q8 aln aln (b1 func36) func36
def q4S:FIn:=⟨[(.imm [(.int .i64),(.int .i64)])],[]⟩
def q4L:List FOut:=[⟨(.tuple [(.agg [.str,.str]),.str,(.imm [(.int .i64)]),(.int .i64)]),[],none⟩]
noncomputable def qfj:=qe [(33,q9 qcZ qcW q4b),(34,q9 qaT qaD q0p),(35,q9 q8z q8x q1K),(36,q9 q1Y q24 uB)] [(11,f11)] [] 0
noncomputable def w9:=qv qfj 11 f11 true q4S q4L
theorem q9P:qT prog qa 11 (q9 q4S q4L w9):=sk qfj qc q8 (alc qlY (alc qko (alc qjp (alc qc9 aln)))) aln (b1 func11) func11
def yX:FIn:=⟨[.str],[]⟩
def u5:List FOut:=[⟨.str,[],none⟩]
noncomputable def qmL:=qe [] [(65,f65)] [] 0
noncomputable def qE:=qv qmL 65 f65 true yX u5
theorem jM:qT prog qa 65 (q9 yX u5 qE):=sk qmL qc q8 aln aln (b1 func65) func65
def yL:FIn:=⟨[.str],[]⟩
def yR:List FOut:=[⟨.bool,[],none⟩]
noncomputable def qjM:=qe [] [(67,f67)] [] 0
noncomputable def qL:=qv qjM 67 f67 true yL yR
theorem yq:qT prog qa 67 (q9 yL yR qL):=sk qjM qc q8 aln aln (b1 func67) func67
def q08:FIn:=⟨[.str,.bool],[]⟩
def kE:List FOut:=[⟨.str,[],none⟩]
noncomputable def qie:=qe [] [(68,f68)] [] 0
noncomputable def zg:=qv qie 68 f68 true q08 kE
theorem q0n:qT prog qa 68 (q9 q08 kE zg):=sk qie qc q8 aln aln (b1 func68) func68
def yZ:FIn:=⟨[.str],[]⟩
def yV:List FOut:=[⟨.str,[],none⟩]
noncomputable def qi5:=qe [(65,q9 yX u5 qE),(67,q9 yL yR qL),(68,q9 q08 kE zg)] [(72,f72)] [] 0
noncomputable def zZ:=qv qi5 72 f72 true yZ yV
theorem ua:qT prog qa 72 (q9 yZ yV zZ):=sk qi5 qc q8 (alc jM (alc yq (alc q0n aln))) aln (b1 func72) func72
def qea:FIn:=⟨[(.int .i64)],[]⟩
def qei:List FOut:=[⟨.str,[],none⟩]
def qeM:Tmpl:={ t:=((.int .i64)::.any::.any::.str::qw 33 []),h:=[] }
def qdM:List Out:=[⟨(.exit 0),{ t:=((.int .i64)::.any::.any::.str::qw 33 []),h:=[] }⟩]
noncomputable def q99:=qe [(72,q9 yZ yV zZ)] [] [] 0
noncomputable def q96:=vQ q99 44 f44 9 qeM qdM
theorem qna:ql prog qa q99.nimp (qx prog q99.iter 44) (zq f44 9) (qj qeM qdM (qh q96)):=gk q99 qc q8 (alc ua aln) aln aln func44
noncomputable def qpJ:=qe [(72,q9 yZ yV zZ)] [] [((44,9),qj qeM qdM (qh q96))] 0
noncomputable def q5c:=qv qpJ 44 f44 true qea qei
theorem qil:qT prog qa 44 (q9 qea qei q5c):=sk qpJ qc q8 (alc ua aln) (alc (lk func44 qna) aln) aln func44
def q5v:FIn:=⟨[(.int .i64)],[]⟩
def q5l:List FOut:=[⟨.str,[],none⟩]
def qgt:Tmpl:={ t:=((.int .i64)::.any::.any::.str::qw 33 []),h:=[] }
def qgb:List Out:=[⟨(.exit 0),{ t:=((.int .i64)::.any::.any::.str::qw 33 []),h:=[] }⟩]
noncomputable def qbz:=qe [(44,q9 qea qei q5c),(72,q9 yZ yV zZ)] [] [] 0
noncomputable def qbo:=vQ qbz 44 f44 9 qgt qgb
theorem qpL:ql prog qa qbz.nimp (qx prog qbz.iter 44) (zq f44 9) (qj qgt qgb (qh qbo)):=gk qbz qc q8 (alc qil (alc ua aln)) aln aln func44
noncomputable def qr1:=qe [(44,q9 qea qei q5c),(72,q9 yZ yV zZ)] [] [((44,9),qj qgt qgb (qh qbo))] 0
noncomputable def zv:=qv qr1 44 f44 true q5v q5l
theorem q3s:qT prog qa 44 (q9 q5v q5l zv):=sk qr1 qc q8 (alc qil (alc ua aln)) (alc (lk func44 qpL) aln) aln func44
def qc5:FIn:=⟨[.str],[]⟩
def qbW:List FOut:=[⟨(.int .i64),[],none⟩]
def q8k:Tmpl:={ t:=(.str::.any::.any::(.int .i64)::.str::(.int .i64)::qw 21 []),h:=[] }
def q8n:List Out:=[⟨(.exit 0),{ t:=(.str::.any::.any::(.int .i64)::qw 23 []),h:=[] }⟩]
noncomputable def q4V:=qe [(65,q9 yX u5 qE),(67,q9 yL yR qL)] [(99,f99)] [] 0
noncomputable def uW:=vQ q4V 99 f99 4 q8k q8n
theorem qjn:ql prog qa q4V.nimp (qx prog q4V.iter 99) (zq f99 4) (qj q8k q8n (qh uW)):=gk q4V qc q8 (alc jM (alc yq aln)) aln (b1 func99) func99
noncomputable def qi4:=qe [(65,q9 yX u5 qE),(67,q9 yL yR qL)] [(99,f99)] [((99,4),qj q8k q8n (qh uW))] 0
noncomputable def u6:=qv qi4 99 f99 true qc5 qbW
theorem qlZ:qT prog qa 99 (q9 qc5 qbW u6):=sk qi4 qc q8 (alc jM (alc yq aln)) (alc (lk func99 qjn) aln) (b1 func99) func99
def q3y:FIn:=⟨[.str,.str],[]⟩
def q3b:List FOut:=[⟨(.tuple [(.int .i64),(.int .i64),.bool]),[],none⟩]
noncomputable def qjx:=qe [(65,q9 yX u5 qE),(99,q9 qc5 qbW u6)] [(69,f69)] [] 0
noncomputable def j6:=qv qjx 69 f69 true q3y q3b
theorem q4D:qT prog qa 69 (q9 q3y q3b j6):=sk qjx qc q8 (alc jM (alc qlZ aln)) aln (b1 func69) func69
def q88:FIn:=⟨[.str],[]⟩
def q7U:List FOut:=[⟨.str,[],none⟩]
def qcr:Tmpl:={ t:=(.str::qw 13 []),h:=[] }
def qcM:List Out:=[⟨(.exit 0),{ t:=(.str::qw 13 []),h:=[] }⟩]
noncomputable def q7z:=qe [] [(141,f141)] [] 0
noncomputable def q4w:=vQ q7z 141 f141 2 qcr qcM
theorem qla:ql prog qa q7z.nimp (qx prog q7z.iter 141) (zq f141 2) (qj qcr qcM (qh q4w)):=gk q7z qc q8 aln aln (b1 func141) func141
noncomputable def qml:=qe [] [(141,f141)] [((141,2),qj qcr qcM (qh q4w))] 0
noncomputable def u4:=qv qml 141 f141 true q88 q7U
theorem q9X:qT prog qa 141 (q9 q88 q7U u4):=sk qml qc q8 aln (alc (lk func141 qla) aln) (b1 func141) func141
def qgR:FIn:=⟨[.str,(.int .i64)],[]⟩
def qfW:List FOut:=[⟨.str,[],none⟩]
def qcJ:Tmpl:={ t:=(.str::(.int .i64)::.any::.any::.any::(.vec 0)::(.int .i64)::qw 20 []),h:=[.vec 5 [(.int .u8)]] }
def qcN:List Out:=[⟨(.exit 0),{ t:=(.str::(.int .i64)::.any::.any::.any::(.vec 0)::qw 21 []),h:=[.vec 5 [(.int .u8)]] }⟩]
noncomputable def q7J:=qe [] [(185,f185)] [] 0
noncomputable def q1W:=vQ q7J 185 f185 4 qcJ qcN
theorem qli:ql prog qa q7J.nimp (qx prog q7J.iter 185) (zq f185 4) (qj qcJ qcN (qh q1W)):=gk q7J qc q8 aln aln (b1 func185) func185
noncomputable def qmk:=qe [] [(185,f185)] [((185,4),qj qcJ qcN (qh q1W))] 0
noncomputable def q5y:=qv qmk 185 f185 true qgR qfW
theorem qnW:qT prog qa 185 (q9 qgR qfW q5y):=sk qmk qc q8 aln (alc (lk func185 qli) aln) (b1 func185) func185
def qc0:FIn:=⟨[(.int .u8),(.int .u8),(.int .i64),.bool],[]⟩
def qcU:List FOut:=[⟨(.tuple [(.int .u8),(.int .i64)]),[],none⟩]
noncomputable def qi8:=qe [] [(186,f186)] [] 0
noncomputable def q3Z:=qv qi8 186 f186 true qc0 qcU
theorem qlb:qT prog qa 186 (q9 qc0 qcU q3Z):=sk qi8 qc q8 aln aln (b1 func186) func186
def q9m:FIn:=⟨[.str,.str,.bool],[]⟩
def q9s:List FOut:=[⟨.str,[],none⟩]
def qax:Tmpl:={ t:=(.str::.str::.bool::qw 5 ((.vec 0)::(.int .i64)::(.int .i64)::qw 38 [])),h:=[.vec 5 [(.int .u8)]] }
def q9Q:List Out:=[⟨(.exit 0),{ t:=(qw 8 ((.vec 0)::qw 40 [])),h:=[.vec 5 [(.int .u8)]] }⟩]
noncomputable def qcB:List (FuncId×zE):=[(141,q9 q88 q7U u4),(185,q9 qgR qfW q5y),(186,q9 qc0 qcU q3Z)]
theorem qgP:∀x,x∈qcB->qT prog qa x.1 x.2:=(alc q9X (alc qnW (alc qlb aln)))
noncomputable def q6o:=qe qcB [(139,f139)] [] 0
noncomputable def q0L:=vQ q6o 139 f139 7 qax q9Q
theorem qjG:ql prog qa q6o.nimp (qx prog q6o.iter 139) (zq f139 7) (qj qax q9Q (qh q0L)):=gk q6o qc q8 qgP aln (b1 func139) func139
noncomputable def qks:=qe qcB [(139,f139)] [((139,7),qj qax q9Q (qh q0L))] 0
noncomputable def yT:=qv qks 139 f139 true q9m q9s
theorem qf7:qT prog qa 139 (q9 q9m q9s yT):=sk qks qc q8 qgP (alc (lk func139 qjG) aln) (b1 func139) func139
def qbB:FIn:=⟨[.str,.str],[]⟩
def qbE:List FOut:=[⟨.bool,[],none⟩]
noncomputable def qmn:=qe [] [(140,f140)] [] 0
noncomputable def q2S:=qv qmn 140 f140 true qbB qbE
theorem qgS:qT prog qa 140 (q9 qbB qbE q2S):=sk qmn qc q8 aln aln (b1 func140) func140
def qgw:FIn:=⟨[.str,.str],[]⟩
def qgy:List FOut:=[⟨.str,[],none⟩]
noncomputable def qmx:=qe [(44,q9 q5v q5l zv),(65,q9 yX u5 qE),(67,q9 yL yR qL),(68,q9 q08 kE zg),(69,q9 q3y q3b j6),(139,q9 q9m q9s yT),(140,q9 qbB qbE q2S)] [(98,f98)] [] 0
noncomputable def q7O:=qv qmx 98 f98 true qgw qgy
theorem qoY:qT prog qa 98 (q9 qgw qgy q7O):=sk qmx qc q8 (alc q3s (alc jM (alc yq (alc q0n (alc q4D (alc qf7 (alc qgS aln))))))) aln (b1 func98) func98
def qeN:FIn:=⟨[.str,.str],[]⟩
def qe9:List FOut:=[⟨.str,[],none⟩]
noncomputable def qkD:=qe [(72,q9 yZ yV zZ),(98,q9 qgw qgy q7O)] [(66,f66)] [] 0
noncomputable def q18:=qv qkD 66 f66 true qeN qe9
theorem qn9:qT prog qa 66 (q9 qeN qe9 q18):=sk qkD qc q8 (alc ua (alc qoY aln)) aln (b1 func66) func66
def qai:FIn:=⟨[.str,.str],[]⟩
def qa6:List FOut:=[⟨.str,[],none⟩]
def q73:Tmpl:={ t:=(.str::.str::.any::.any::.any::(.vec 0)::(.int .i64)::(.int .i64)::qw 69 []),h:=[.vec 3 [(.int .i64)]] }
def q70:List Out:=[⟨(.exit 2),{ t:=(.str::.str::.any::.any::.any::(.vec 0)::(.int .i64)::qw 70 []),h:=[.vec 3 [(.int .i64)]] }⟩]
noncomputable def q1E:List (FuncId×zE):=[(141,q9 q88 q7U u4)]
theorem q3j:∀x,x∈q1E->qT prog qa x.1 x.2:=(alc q9X aln)
noncomputable def q3t:=qe q1E [(101,f101)] [] 0
noncomputable def u9:=vQ q3t 101 f101 9 q73 q70
theorem qhy:ql prog qa q3t.nimp (qx prog q3t.iter 101) (zq f101 9) (qj q73 q70 (qh u9)):=gk q3t qc q8 q3j aln (b1 func101) func101
def q7h:Tmpl:={ t:=(.str::.str::.any::.any::.any::(.vec 0)::(.int .i64)::qw 70 []),h:=[.vec 3 [(.int .i64)]] }
def q7n:List Out:=[⟨(.exit 0),{ t:=(qw 5 ((.vec 0)::qw 71 [])),h:=[.vec 3 [(.int .i64)]] }⟩]
noncomputable def q3e:=qe q1E [(101,f101)] [((101,9),qj q73 q70 (qh u9))] 0
noncomputable def ug:=vQ q3e 101 f101 4 q7h q7n
theorem qhI:ql prog qa q3e.nimp (qx prog q3e.iter 101) (zq f101 4) (qj q7h q7n (qh ug)):=gk q3e qc q8 q3j (alc (lk func101 qhy) aln) (b1 func101) func101
def q5T:Tmpl:={ t:=(qw 5 ((.vec 0)::.any::.any::(.vec 1)::(.int .i64)::(.int .i64)::qw 66 [])),h:=[.vec 3 [(.int .i64)],.vec 5 [(.int .u8)]] }
def q6z:List Out:=[⟨(.exit 4),{ t:=(qw 8 ((.vec 1)::qw 68 [])),h:=[.dead,.vec 5 [(.int .u8)]] }⟩]
noncomputable def q2i:=qe q1E [(101,f101)] [] 0
noncomputable def yl:=vQ q2i 101 f101 17 q5T q6z
theorem qgO:ql prog qa q2i.nimp (qx prog q2i.iter 101) (zq f101 17) (qj q5T q6z (qh yl)):=gk q2i qc q8 q3j aln (b1 func101) func101
noncomputable def qgi:=qe q1E [(101,f101)] [((101,4),qj q7h q7n (qh ug)),((101,17),qj q5T q6z (qh yl))] 0
noncomputable def q2v:=qv qgi 101 f101 true qai qa6
theorem qjs:qT prog qa 101 (q9 qai qa6 q2v):=sk qgi qc q8 q3j (alc (lk func101 qhI) (alc (lk func101 qgO) aln)) (b1 func101) func101
def qdW:FIn:=⟨[.str,.str],[]⟩
def qer:List FOut:=[⟨.str,[],none⟩]
noncomputable def qkq:=qe [(44,q9 q5v q5l zv),(65,q9 yX u5 qE),(67,q9 yL yR qL),(68,q9 q08 kE zg),(69,q9 q3y q3b j6),(101,q9 qai qa6 q2v)] [(71,f71)] [] 0
noncomputable def q2Z:=qv qkq 71 f71 true qdW qer
theorem qnh:qT prog qa 71 (q9 qdW qer q2Z):=sk qkq qc q8 (alc q3s (alc jM (alc yq (alc q0n (alc q4D (alc qjs aln)))))) aln (b1 func71) func71
def qaj:FIn:=⟨[.str,.str],[]⟩
def qaa:List FOut:=[⟨(.tuple [.str,.str]),[],none⟩]
def q6d:Tmpl:={ t:=(.str::.str::qw 4 (.str::.str::(.int .i64)::(.int .u8)::qw 31 [])),h:=[] }
def q6G:List Out:=[⟨(.exit 2),{ t:=(.str::.str::qw 4 (.str::.str::(.int .i64)::(.int .u8)::qw 31 [])),h:=[] }⟩]
noncomputable def q4T:List (FuncId×zE):=[(139,q9 q9m q9s yT),(140,q9 qbB qbE q2S),(141,q9 q88 q7U u4)]
theorem q7j:∀x,x∈q4T->qT prog qa x.1 x.2:=(alc qf7 (alc qgS (alc q9X aln)))
noncomputable def q2p:=qe q4T [(100,f100)] [] 0
noncomputable def ye:=vQ q2p 100 f100 11 q6d q6G
theorem qgC:ql prog qa q2p.nimp (qx prog q2p.iter 100) (zq f100 11) (qj q6d q6G (qh ye)):=gk q2p qc q8 q7j aln (b1 func100) func100
def q7g:Tmpl:={ t:=(.str::.str::qw 4 (.str::.str::(.int .i64)::qw 32 [])),h:=[] }
def q7o:List Out:=[⟨(.exit 0),{ t:=(qw 6 (.str::.str::qw 33 [])),h:=[] }⟩]
noncomputable def q36:=qe q4T [(100,f100)] [((100,11),qj q6d q6G (qh ye))] 0
noncomputable def q0r:=vQ q36 100 f100 4 q7g q7o
theorem qhG:ql prog qa q36.nimp (qx prog q36.iter 100) (zq f100 4) (qj q7g q7o (qh q0r)):=gk q36 qc q8 q7j (alc (lk func100 qgC) aln) (b1 func100) func100
noncomputable def qgf:=qe q4T [(100,f100)] [((100,4),qj q7g q7o (qh q0r))] 0
noncomputable def q2w:=qv qgf 100 f100 true qaj qaa
theorem qkO:qT prog qa 100 (q9 qaj qaa q2w):=sk qgf qc q8 q7j (alc (lk func100 qhG) aln) (b1 func100) func100
def q7u:FIn:=⟨[.str,.str],[]⟩
def q7F:List FOut:=[⟨(.tuple [.str,.str]),[],none⟩]
noncomputable def qio:=qe [(44,q9 q5v q5l zv),(65,q9 yX u5 qE),(66,q9 qeN qe9 q18),(67,q9 yL yR qL),(68,q9 q08 kE zg),(69,q9 q3y q3b j6),(71,q9 qdW qer q2Z),(100,q9 qaj qaa q2w)] [(70,f70)] [] 0
noncomputable def vV:=qv qio 70 f70 true q7u q7F
theorem qdC:qT prog qa 70 (q9 q7u q7F vV):=sk qio qc q8 (alc q3s (alc jM (alc qn9 (alc yq (alc q0n (alc q4D (alc qnh (alc qkO aln)))))))) aln (b1 func70) func70
def qbV:FIn:=⟨[.str,.str],[]⟩
def qcI:List FOut:=[⟨.str,[],none⟩]
def q74:Tmpl:={ t:=(qw 5 ((.int .i64)::(.int .i64)::qw 36 [])),h:=[] }
def q7l:List Out:=[⟨(.exit 2),{ t:=(qw 5 ((.int .i64)::qw 37 [])),h:=[] }⟩]
noncomputable def q67:List (FuncId×zE):=[(44,q9 q5v q5l zv),(65,q9 yX u5 qE),(68,q9 q08 kE zg),(69,q9 q3y q3b j6),(70,q9 q7u q7F vV)]
theorem q8I:∀x,x∈q67->qT prog qa x.1 x.2:=(alc q3s (alc jM (alc q0n (alc q4D (alc qdC aln)))))
noncomputable def q3h:=qe q67 [(41,f41)] [] 0
noncomputable def ud:=vQ q3h 41 f41 10 q74 q7l
theorem qht:ql prog qa q3h.nimp (qx prog q3h.iter 41) (zq f41 10) (qj q74 q7l (qh ud)):=gk q3h qc q8 q8I aln (b1 func41) func41
def q8E:Tmpl:={ t:=(.str::.str::qw 41 []),h:=[] }
def q8r:List Out:=[⟨(.exit 0),{ t:=(.str::qw 42 []),h:=[] }⟩,⟨.ret,{ t:=(qw 4 (.str::qw 38 [])),h:=[] }⟩]
noncomputable def q4Q:=qe q67 [(41,f41)] [((41,10),qj q74 q7l (qh ud))] 0
noncomputable def q1J:=vQ q4Q 41 f41 3 q8E q8r
theorem qjo:ql prog qa q4Q.nimp (qx prog q4Q.iter 41) (zq f41 3) (qj q8E q8r (qh q1J)):=gk q4Q qc q8 q8I (alc (lk func41 qht) aln) (b1 func41) func41
noncomputable def qig:=qe q67 [(41,f41)] [((41,3),qj q8E q8r (qh q1J))] 0
noncomputable def q3Y:=qv qig 41 f41 true qbV qcI
theorem qlU:qT prog qa 41 (q9 qbV qcI q3Y):=sk qig qc q8 q8I (alc (lk func41 qjo) aln) (b1 func41) func41
def qcd:FIn:=⟨[.str,.str],[]⟩
def qbY:List FOut:=[⟨.str,[],none⟩]
noncomputable def qiq:=qe [(41,q9 qbV qcI q3Y),(67,q9 yL yR qL),(70,q9 q7u q7F vV),(72,q9 yZ yV zZ)] [(43,f43)] [] 0
noncomputable def q4p:=qv qiq 43 f43 true qcd qbY
theorem qlO:qT prog qa 43 (q9 qcd qbY q4p):=sk qiq qc q8 (alc qlU (alc yq (alc qdC (alc ua aln)))) aln (b1 func43) func43
end Go.Eng

namespace Go.Eng
open Go.Proofs
open Tryz
def qgJ:FIn:=⟨[(.int .i64),(.int .i64)],[]⟩
def qgU:List FOut:=[⟨.str,[],none⟩]
noncomputable def qmG:=qe [(43,q9 qcd qbY q4p),(44,q9 q5v q5l zv)] [(14,f14)] [] 0
noncomputable def q86:=qv qmG 14 f14 true qgJ qgU
theorem qp2:qT prog qa 14 (q9 qgJ qgU q86):=sk qmG qc q8 (alc qlO (alc q3s aln)) aln (b1 func14) func14
def qe1:FIn:=⟨[(.int .i64)],[]⟩
def qeg:List FOut:=[⟨.str,[],none⟩]
noncomputable def qkv:=qe [(44,q9 q5v q5l zv)] [(15,f15)] [] 0
noncomputable def q3q:=qv qkv 15 f15 true qe1 qeg
theorem qmS:qT prog qa 15 (q9 qe1 qeg q3q):=sk qkv qc q8 (alc q3s aln) aln (b1 func15) func15
def q8e:FIn:=⟨[],[]⟩
def q8u:List FOut:=[⟨.bool,[],none⟩]
noncomputable def qeT:=qe [(11,q9 q4S q4L w9)] [(20,f20)] [] 0
noncomputable def ke:=qv qeT 20 f20 true q8e q8u
theorem qiD:qT prog qa 20 (q9 q8e q8u ke):=sk qeT qc q8 (alc q9P aln) aln (b1 func20) func20
def kw:FIn:=⟨[(.agg [(.int .i64),(.int .i64)])],[]⟩
def ku:List FOut:=[⟨.bool,[],none⟩]
noncomputable def qbj:=qe [] [(52,f52)] [] 0
noncomputable def j0:=qv qbj 52 f52 true kw ku
theorem q2J:qT prog qa 52 (q9 kw ku j0):=sk qbj qc q8 aln aln (b1 func52) func52
def qG:FIn:=⟨[(.imm [(.int .i64),(.int .i64)]),(.fn 52 [] [])],[]⟩
def qI:List FOut:=[⟨.bool,[],none⟩]
def qC:Tmpl:={ t:=((.imm [(.int .i64),(.int .i64)])::(.fn 52 [] [])::qw 5 ((.int .i64)::(.int .i64)::qw 10 [])),h:=[],fs:=[[(.imm [(.int .i64),(.int .i64)]),(.fn 52 [] []),.any,.any,(.blit false),(.imm [(.int .i64),(.int .i64)]),(.fn 52 [] []),.any,.any],[]] }
def qD:List Out:=[⟨(.exit 0),{ t:=(qw 19 []),h:=[],fs:=[[(.imm [(.int .i64),(.int .i64)]),(.fn 52 [] []),.any,.any,(.blit false),(.imm [(.int .i64),(.int .i64)]),(.fn 52 [] []),.any,.any],[]] }⟩,⟨.ret,{ t:=(qw 4 ((.int .i64)::qw 14 [])),h:=[],fs:=[[(.imm [(.int .i64),(.int .i64)]),(.fn 52 [] []),.any,.any,(.blit false),(.imm [(.int .i64),(.int .i64)]),(.fn 52 [] []),.any,.any],[]] }⟩]
noncomputable def qt:=qe [(52,q9 kw ku j0)] [(7,f7),(28,f28)] [] 0
noncomputable def qg:=vQ qt 28 f28 3 qC qD
theorem wd:ql prog qa qt.nimp (qx prog qt.iter 28) (zq f28 3) (qj qC qD (qh qg)):=gk qt qc q8 (alc q2J aln) aln (alc (bk func7) (alc (bk func28) aln)) func28
noncomputable def ze:=qe [(52,q9 kw ku j0)] [(7,f7),(28,f28)] [((28,3),qj qC qD (qh qg))] 0
noncomputable def qm:=qv ze 7 f7 true qG qI
theorem wS:qT prog qa 7 (q9 qG qI qm):=sk ze qc q8 (alc q2J aln) (alc (lk func28 wd) aln) (alc (bk func7) (alc (bk func28) aln)) func7
def q8c:FIn:=⟨[(.imm [(.int .i64),(.int .i64)])],[]⟩
def q8b:List FOut:=[⟨.bool,[],none⟩]
noncomputable def qfk:=qe [(52,q9 kw ku j0),(7,q9 qG qI qm)] [(22,f22)] [] 0
noncomputable def uR:=qv qfk 22 f22 true q8c q8b
theorem qiU:qT prog qa 22 (q9 q8c q8b uR):=sk qfk qc q8 (alc q2J (alc wS aln)) aln (b1 func22) func22
def q3P:FIn:=⟨[(.imm [(.int .i64)])],[]⟩
def q3N:List FOut:=[⟨(.int .i64),[],none⟩]
def q2b:Tmpl:={ t:=((.imm [(.int .i64)])::.any::.any::(.int .i64)::(.int .i64)::qw 20 []),h:=[] }
def q22:List Out:=[⟨(.exit 0),{ t:=(.any::.any::.any::(.int .i64)::qw 21 []),h:=[] }⟩]
noncomputable def uD:=qe [] [(25,f25)] [] 0
noncomputable def wK:=vQ uD 25 f25 6 q2b q22
theorem qcC:ql prog qa uD.nimp (qx prog uD.iter 25) (zq f25 6) (qj q2b q22 (qh wK)):=gk uD qc q8 aln aln (b1 func25) func25
noncomputable def q8V:=qe [] [(25,f25)] [((25,6),qj q2b q22 (qh wK))] 0
noncomputable def jb:=qv q8V 25 f25 true q3P q3N
theorem qek:qT prog qa 25 (q9 q3P q3N jb):=sk q8V qc q8 aln (alc (lk func25 qcC) aln) (b1 func25) func25
def q3T:FIn:=⟨[(.imm [(.int .i64)])],[]⟩
def q3J:List FOut:=[⟨(.int .i64),[],none⟩]
def q1X:Tmpl:={ t:=((.imm [(.int .i64)])::.any::.any::(.int .i64)::(.int .i64)::qw 20 []),h:=[] }
def q27:List Out:=[⟨(.exit 0),{ t:=(.any::.any::.any::(.int .i64)::qw 21 []),h:=[] }⟩]
noncomputable def uu:=qe [] [(26,f26)] [] 0
noncomputable def wI:=vQ uu 26 f26 6 q1X q27
theorem qc8:ql prog qa uu.nimp (qx prog uu.iter 26) (zq f26 6) (qj q1X q27 (qh wI)):=gk uu qc q8 aln aln (b1 func26) func26
noncomputable def q8K:=qe [] [(26,f26)] [((26,6),qj q1X q27 (qh wI))] 0
noncomputable def jd:=qv q8K 26 f26 true q3T q3J
theorem qeq:qT prog qa 26 (q9 q3T q3J jd):=sk q8K qc q8 aln (alc (lk func26 qc8) aln) (b1 func26) func26
def q2X:FIn:=⟨[(.imm [(.int .i64),(.int .i64)]),(.int .u16),(.int .u16)],[]⟩
def q2Q:List FOut:=[⟨.bool,[],none⟩]
def q1j:Tmpl:={ t:=((.imm [(.int .i64),(.int .i64)])::qw 6 (.str::(.vec 0)::qw 35 ((.imm [(.int .i64),(.int .i64)])::(.int .i64)::(.int .i64)::qw 118 []))),h:=[.vec 43 [.str,.str,.str]],pro:=[(8,43,[.str,.str,.str])] }
def q15:List Out:=[⟨(.exit 0),{ t:=((.imm [(.int .i64),(.int .i64)])::qw 6 (.str::(.vec 0)::qw 156 [])),h:=[.vec 43 [.str,.str,.str]] }⟩]
noncomputable def uv:List (FuncId×zE):=[(11,q9 q4S q4L w9),(14,q9 qgJ qgU q86),(15,q9 qe1 qeg q3q),(17,q9 qcy qcs q1R),(20,q9 q8e q8u ke),(22,q9 q8c q8b uR),(23,q9 q2H q2K zY),(24,q9 q2U q2L zJ),(25,q9 q3P q3N jb),(26,q9 q3T q3J jd)]
theorem q1l:∀x,x∈uv->qT prog qa x.1 x.2:=(alc q9P (alc qp2 (alc qmS (alc qlB (alc qiD (alc qiU (alc qdB (alc q68 (alc qek (alc qeq aln))))))))))
noncomputable def yU:=qe uv [(5,f5)] [] 0
noncomputable def wj:=vQ yU 5 f5 8 q1j q15
theorem qb7:ql prog qa yU.nimp (qx prog yU.iter 5) (zq f5 8) (qj q1j q15 (qh wj)):=gk yU qc q8 q1l aln (b1 func5) func5
def q0v:Tmpl:={ t:=((.imm [(.int .i64),(.int .i64)])::qw 6 (.str::qw 14 ((.vec 3)::qw 102 ((.imm [(.int .i64)])::(.int .i64)::(.int .i64)::qw 37 [])))),h:=[.dead,.dead,.dead,.vec 26 [(.int .i64),(.int .i64)]],pro:=[(22,26,[(.int .i64),(.int .i64)])] }
def q0J:List Out:=[⟨(.exit 2),{ t:=(qw 7 (.str::qw 14 ((.vec 3)::qw 142 []))),h:=[.dead,.dead,.dead,.vec 26 [(.int .i64),(.int .i64)]] }⟩]
noncomputable def yd:=qe uv [(5,f5)] [] 0
noncomputable def zS:=vQ yd 5 f5 29 q0v q0J
theorem qa5:ql prog qa yd.nimp (qx prog yd.iter 5) (zq f5 29) (qj q0v q0J (qh zS)):=gk yd qc q8 q1l aln (b1 func5) func5
noncomputable def zp:=qe uv [(5,f5)] [((5,8),qj q1j q15 (qh wj)),((5,29),qj q0v q0J (qh zS))] 0
noncomputable def vr:=qv zp 5 f5 true q2X q2Q
theorem qdo:qT prog qa 5 (q9 q2X q2Q vr):=sk zp qc q8 q1l (alc (lk func5 qb7) (alc (lk func5 qa5) aln)) (b1 func5) func5
end Go.Eng

