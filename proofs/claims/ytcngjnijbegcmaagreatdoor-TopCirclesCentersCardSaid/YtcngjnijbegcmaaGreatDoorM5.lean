/- Texts of the proof, merged: what the code computes, and plain laws. No statement stands here. -/
import Derived.Shelf.Strings.SlTrimAscii
import Derived.Shelf.Strings.Search2
import Derived.Shelf.Small.Strs
import Derived.Shelf.Strconv.Itoa3
import Derived.Shelf.Strconv.Atoi
import Derived.Shelf.Strings.BuilderK
import Derived.Shelf.LaysM
import Derived.Test.YtcngjnijbegcmaaGreatDoorProg
import Derived.WalkKit
import Derived.BigCall
import Derived.Deep.RegionWith
import Derived.Laws.Externs
import Derived.Lib.Builder
import Derived.Lib.AppendStr
import Derived.Shelf.SlicesG.Clone
import Derived.WalkSpells
import Derived.KernelRfl
import Derived.Test.YtcngjnijbegcmaaGreatDoorM4
namespace Go.Eng
def su:Nat->(Nat->Rat)->Rat
 | 0,_=>0
 | n+1,f=>su n f+f n
theorem qj:∀{n:Nat} {f g:Nat->Rat},(∀i,i<n->f i=g i)->su n f=su n g
 | 0,_,_,_=>rfl
 | n+1,f,g,h=>by simp only[su];rw[qj (fun i hi=>h i (by omega)),h n (by omega)]
theorem q3G:∀(n:Nat) (f g:Nat->Rat),su n (fun i=>f i+g i)=su n f+su n g
 | 0,_,_=>by show (0:Rat)=0+0;grind
 | n+1,f,g=>by simp only[su];rw[q3G n f g];grind
theorem wj:∀(n:Nat) (a:Rat) (f:Nat->Rat),su n (fun i=>a*f i)=a*su n f
 | 0,a,_=>by simp[su]
 | n+1,a,f=>by simp only[su];rw[wj n a f];grind
theorem q5M(n:Nat)(f g:Nat->Rat):su n (fun i=>f i-g i)=su n f-su n g:=by have h:=q3G n f (fun i=>(-1)*g i);rw[wj] at h;rw[qj (g:=fun i=>f i+(-1)*g i) (fun i _=>by grind),h];grind
theorem q3P:∀(n:Nat),su n (fun _=>0)=0
 | 0=>rfl
 | n+1=>by simp only[su];rw[q3P n];grind
theorem qzk:∀{n:Nat} {f:Nat->Rat},(∀i,i<n->0<=f i)->0<=su n f
 | 0,_,_=>qFw
 | n+1,f,h=>by
  have a:=qzk (n:=n) (f:=f) (fun i hi=>h i (by omega));have b:=h n (by omega);simp only[su];grind
theorem qr3:∀(m n:Nat) (f:Nat->Nat->Rat),su m (fun i=>su n (f i))=su n (fun j=>su m (fun i=>f i j))
 | 0,n,f=>by simp only[su];rw[q3P]
 | m+1,n,f=>by simp only[su];rw[qr3 m n f,q3G]
theorem q5N:∀{n k:Nat} (f:Nat->Rat),k<n->(∀i,i<n->i≠k->f i=0)->su n f=f k
 | 0,k,f,h,_=>by omega
 | n+1,k,f,h,hz=>by
  simp only[su];by_cases hk:k=n
  ·subst hk;rw[qj (g:=fun _=>0) (fun i hi=>hz i (by omega) (by omega)),q3P];grind
  ·rw[q5N f (by omega:k<n) (fun i hi hne=>hz i (by omega) hne),hz n (by omega) (by omega)];grind
theorem qmw:∀{n:Nat} {f:Nat->Rat},su n f≠0->∃i,i<n/\f i≠0
 | 0,_,h=>absurd rfl h
 | n+1,f,h=>by
  by_cases hn:f n=0
  ·obtain⟨i,hi,h'⟩:=qmw (n:=n) (f:=f) (by simp only[su] at h;rw[hn] at h;grind);exact⟨i,by omega,h'⟩
  ·exact⟨n,by omega,hn⟩
def qiT(m n:Nat)(M:Nat->Nat->Rat)(b x:Nat->Rat):Prop:=∀i,i<m->su n (fun j=>M i j*x j)=b i
def qAL(m n:Nat)(M:Nat->Nat->Rat)(b y:Nat->Rat):Prop:=(∀j,j<n->su m (fun i=>y i*M i j)=0)/\su m (fun i=>y i*b i)≠0
theorem qov(m:Nat):∀(n:Nat) (M:Nat->Nat->Rat) (b:Nat->Rat),(∃x,qiT m n M b x)\/∃y,qAL m n M b y
 | 0,M,b=>by
  by_cases h:∀i,i<m->b i=0
  ·exact .inl ⟨fun _=>0,fun i hi=>(h i hi).symm⟩
  ·right;obtain⟨k,hk⟩:=qGt.1 h;obtain⟨hk,hb⟩:=qGa.1 hk;refine⟨fun i=>if i=k then 1 else 0,fun j hj=>by omega,?_⟩;rw[q5N _ hk (fun i _ hne=>by simp[hne])];simpa using hb
 | n+1,M,b=>by
  by_cases h:∀i,i<m->M i n=0
  ·rcases qov m n M b with⟨x,hx⟩|⟨y,h1,h2⟩
   ·refine .inl ⟨fun j=>if j=n then 0 else x j,fun i hi=>?_⟩;simp only[su];rw[<-hx i hi,h i hi,qj (g:=fun j=>M i j*x j) (fun j hj=>by rw[if_neg (by omega)])];grind
   ·refine .inr ⟨y,fun j hj=>?_,h2⟩;by_cases hjn:j=n
    ·subst hjn;rw[qj (g:=fun _=>0) (fun i hi=>by rw[h i hi];grind),q3P]
    ·exact h1 j (by omega)
  ·obtain⟨k,hk⟩:=qGt.1 h;obtain⟨hk,ha⟩:=qGa.1 hk;have inv:M k n*(M k n)⁻¹=1:=qGk _ ha;rcases qov m n (fun i j=>M i j-M i n*(M k n)⁻¹*M k j) (fun i=>b i-M i n*(M k n)⁻¹*b k) with⟨x,hx⟩|⟨y,h1,h2⟩
   ·refine .inl ⟨fun j=>if j=n then (M k n)⁻¹*(b k-su n (fun j=>M k j*x j)) else x j,fun i hi=>?_⟩;have e:=hx i hi;simp only[su,if_true];rw[qj (g:=fun j=>M i j*x j) (fun j hj=>by rw[if_neg (by omega)])];have e2:su n (fun j=>(M i j-M i n*(M k n)⁻¹*M k j)*x j)=su n (fun j=>M i j*x j)-M i n*(M k n)⁻¹*su n (fun j=>M k j*x j):=by rw[<-wj,<-q5M];exact qj fun j _=>by grind
    rw[e2] at e;grind
   ·refine .inr ⟨fun i=>y i-(if i=k then su m (fun i=>y i*M i n)*(M k n)⁻¹ else 0),fun j hj=>?_,?_⟩
    ·have e1:su m (fun i=>(y i-(if i=k then su m (fun i=>y i*M i n)*(M k n)⁻¹ else 0))*M i j)=su m (fun i=>y i*M i j)-su m (fun i=>y i*M i n)*(M k n)⁻¹*M k j:=by have s:=q5N (n:=m) (k:=k) (fun i=>(if i=k then su m (fun i=>y i*M i n)*(M k n)⁻¹ else 0)*M i j) hk (fun i _ hne=>by simp[hne]);simp only[if_true] at s;rw[<-s,<-q5M];exact qj fun i _=>by grind
     rw[e1];by_cases hjn:j=n
     ·subst hjn;grind
     ·have:=h1 j (by omega);have e2:su m (fun i=>y i*(M i j-M i n*(M k n)⁻¹*M k j))=su m (fun i=>y i*M i j)-su m (fun i=>y i*M i n)*((M k n)⁻¹*M k j):=by rw[show su m (fun i=>y i*M i n)*((M k n)⁻¹*M k j)=((M k n)⁻¹*M k j)*su m (fun i=>y i*M i n) from by grind,<-wj,<-q5M];exact qj fun i _=>by grind
      rw[e2] at this;grind
    ·have e1:su m (fun i=>(y i-(if i=k then su m (fun i=>y i*M i n)*(M k n)⁻¹ else 0))*b i)=su m (fun i=>y i*b i)-su m (fun i=>y i*M i n)*(M k n)⁻¹*b k:=by have s:=q5N (n:=m) (k:=k) (fun i=>(if i=k then su m (fun i=>y i*M i n)*(M k n)⁻¹ else 0)*b i) hk (fun i _ hne=>by simp[hne]);simp only[if_true] at s;rw[<-s,<-q5M];exact qj fun i _=>by grind
     rw[e1];have e2:su m (fun i=>y i*(b i-M i n*(M k n)⁻¹*b k))=su m (fun i=>y i*b i)-su m (fun i=>y i*M i n)*((M k n)⁻¹*b k):=by rw[show su m (fun i=>y i*M i n)*((M k n)⁻¹*b k)=((M k n)⁻¹*b k)*su m (fun i=>y i*M i n) from by grind,<-wj,<-q5M];exact qj fun i _=>by grind
     rw[e2] at h2;intro h0;apply h2;grind
variable {n:Nat}
structure V3 where
 x:Rat
 y:Rat
 z:Rat
def q8o(a b:V3):Rat:=a.x*b.x+a.y*b.y+a.z*b.z
def d2(a b:V3):Rat:=(a.x-b.x)*(a.x-b.x)+(a.y-b.y)*(a.y-b.y)+(a.z-b.z)*(a.z-b.z)
theorem qqe (a b:V3):d2 a b=q8o a a-2*q8o a b+q8o b b:=by unfold d2 q8o;grind
theorem q6F (a:Rat):0<=a*a:=by
 rcases Rat.le_total (a:=0) (b:=a) with h|h
 ·exact qEI h h
 ·have:=qEI (show 0<=-a by grind) (show 0<=-a by grind);grind
theorem qr7 (a b:V3):0<=d2 a b:=by have h1:=q6F (a.x-b.x);have h2:=q6F (a.y-b.y);have h3:=q6F (a.z-b.z);unfold d2;grind
theorem qos {a:Rat}(h:a*a<=0):a=0:=by
 have h1:=q6F a;have h2:a*a=0:=by grind
 rcases qFn.1 h2 with h|h<;>exact h
theorem qrN {a b:V3}(h:d2 a b<=0):a=b:=by have h1:=q6F (a.x-b.x);have h2:=q6F (a.y-b.y);have h3:=q6F (a.z-b.z);unfold d2 at h;have e1:=qos (a:=a.x-b.x) (by grind);have e2:=qos (a:=a.y-b.y) (by grind);have e3:=qos (a:=a.z-b.z) (by grind);cases a;cases b;simp only[V3.mk.injEq];refine⟨?_,?_,?_⟩<;>simp only at e1 e2 e3<;>grind
def cen(n:Nat)(w:Nat->Rat)(p:Nat->V3):V3:=⟨su n fun i=>w i*(p i).x,su n fun i=>w i*(p i).y,su n fun i=>w i*(p i).z⟩
theorem qsN (n:Nat)(w:Nat->Rat)(p:Nat->V3)(c:V3):su n (fun i=>w i*q8o c (p i))=q8o c (cen n w p):=by unfold q8o cen;simp only;rw[<-wj,<-wj,<-wj,<-q3G,<-q3G];exact qj fun i _=>by grind
theorem qBp (n:Nat)(w:Nat->Rat)(p:Nat->V3)(c:V3):su n (fun i=>w i*d2 c (p i))=q8o c c*su n w-2*q8o c (cen n w p)+su n (fun i=>w i*q8o (p i) (p i)):=by rw[<-qsN,<-wj,<-wj,<-q5M,<-q3G];exact qj fun i _=>by rw[qqe];grind
def en(n:Nat)(p:Nat->V3)(w:Nat->Rat):Rat:=su n fun i=>w i*d2 (cen n w p) (p i)
theorem qn0 {w:Nat->Rat}(p:Nat->V3)(h:su n w=1)(c:V3):su n (fun i=>w i*d2 c (p i))=en n p w+d2 c (cen n w p):=by unfold en;rw[qBp,qBp,h,qqe];grind
structure Wt (n:Nat) (w:Nat->Rat):Prop where
 nn:∀i,i<n->0<=w i
 one:su n w=1
def qqU(n:Nat)(p:Nat->V3)(w:Nat->Rat)(s:Rat):Prop:=Wt n w/\∀i,i<n->w i≠0->d2 (cen n w p) (p i)=s
theorem qdZ {w f:Nat->Rat}{s:Rat}(h1:su n w=1)(h:∀i,i<n->w i≠0->f i=s):su n (fun i=>w i*f i)=s:=by
 rw[qj (g:=fun i=>s*w i) (fun i hi=>by
  by_cases hw:w i=0
  ·rw[hw];grind
  ·rw[h i hi hw];grind),wj,h1];grind
theorem qqU.en {p:Nat->V3}{w:Nat->Rat}{s:Rat}(h:qqU n p w s):en n p w=s:=qdZ h.1.one h.2
def cnt:Nat->(Nat->Rat)->Nat
 | 0,_=>0
 | n+1,w=>cnt n w+if w n=0 then 0 else 1
theorem qzA:∀{n:Nat} {w v:Nat->Rat},(∀i,i<n->w i=0->v i=0)->cnt n v<=cnt n w
 | 0,_,_,_=>qEo _
 | n+1,w,v,h=>by
  have a:=qzA (n:=n) (w:=w) (v:=v) fun i hi=>h i (by omega);have b:=h n (by omega);simp only[cnt];by_cases hw:w n=0
  ·rw[if_pos hw,if_pos (b hw)];omega
  ·rw[if_neg hw];split<;>omega
theorem qsK:∀{n:Nat} {w v:Nat->Rat} {k:Nat},(∀i,i<n->w i=0->v i=0)->k<n->w k≠0->v k=0->cnt n v<cnt n w
 | 0,_,_,_,_,hk,_,_=>by omega
 | n+1,w,v,k,h,hk,hw,hv=>by
  simp only[cnt];by_cases e:k=n
  ·subst e;have a:=qzA (n:=k) (w:=w) (v:=v) fun i hi=>h i (by omega);rw[if_neg hw,if_pos hv];omega
  ·have a:=qsK (n:=n) (w:=w) (v:=v) (k:=k) (fun i hi=>h i (by omega)) (by omega) hw hv;have b:=h n (by omega);by_cases hwn:w n=0
   ·rw[if_pos hwn,if_pos (b hwn)];omega
   ·rw[if_neg hwn];split<;>omega
theorem qpw:∀(n:Nat) (w v:Nat->Rat),(∀i,i<n->v i<0->0<w i)->(∃k,k<n/\v k<0)->∃t,0<t/\∃k,k<n/\v k<0/\w k+t*v k=0/\∀i,i<n->v i<0->0<=w i+t*v i
 | 0,_,_,_,⟨k,hk,_⟩=>by omega
 | n+1,w,v,h,⟨k,hk,hv⟩=>by
  have own:v n<0->0<w n*(-(v n))⁻¹/\w n+(w n*(-(v n))⁻¹)*v n=0:=fun hn=>by
   have h1:0 < -(v n):=by grind
   have h2:-(v n)*(-(v n))⁻¹=1:=qGk _ (by grind);exact⟨qEP (h n (by omega) hn) (Rat.inv_pos.2 h1),by grind⟩
  by_cases hex:∃k,k<n/\v k<0
  ·obtain⟨t,t0,k,hk,hv,hz,hall⟩:=qpw n w v (fun i hi=>h i (by omega)) hex;by_cases hn:v n<0/\w n+t*v n<0
   ·obtain⟨o1,o2⟩:=own hn.1;refine⟨w n*(-(v n))⁻¹,o1,n,by omega,hn.1,o2,fun i hi hvi=>?_⟩;by_cases e:i=n
    ·subst e;rw[o2];exact qFw
    ·have a:=hall i (by omega) hvi;have lt:w n*(-(v n))⁻¹<t:=by apply qF5;intro hh;have:=qEI (show 0<=w n*(-(v n))⁻¹-t by grind) (show 0<=-(v n) by grind);grind
     have:=qEI (show 0<=t-w n*(-(v n))⁻¹ by grind) (show 0<=-(v i) by grind);grind
   ·refine⟨t,t0,k,by omega,hv,hz,fun i hi hvi=>?_⟩;by_cases e:i=n
    ·subst e;apply qF5;intro hh;exact hn ⟨hvi,by grind⟩
    ·exact hall i (by omega) hvi
  ·have e:k=n:=by apply qF5;intro hh;exact hex ⟨k,by omega,hv⟩
   subst e;obtain⟨o1,o2⟩:=own hv;refine⟨_,o1,k,by omega,hv,o2,fun i hi hvi=>?_⟩;have:i=k:=by apply qF5;intro hh;exact hex ⟨i,by omega,hvi⟩
   subst this;rw[o2];exact qFw
theorem qvL {w v:Nat->Rat}(hw:Wt n w)(h0:su n v=0)(hz:∀i,i<n->w i=0->v i=0)(hk:∃k,k<n/\v k<0) :∃t,0<t/\Wt n (fun i=>w i+t*v i)/\cnt n (fun i=>w i+t*v i)<cnt n w/\∀i,i<n->w i=0->w i+t*v i=0:=by
 obtain⟨t,t0,k,hk,hv,he,hall⟩:=qpw n w v (fun i hi hv=>by
  have a:=hw.nn i hi;have b:w i≠0:=fun e=>by rw[hz i hi e] at hv;exact absurd hv (by grind)
  grind) hk
 have zz:∀i,i<n->w i=0->w i+t*v i=0:=fun i hi e=>by rw[e,hz i hi e];grind
 refine⟨t,t0,⟨fun i hi=>?_,?_⟩,qsK zz hk (fun e=>?_) he,zz⟩
 ·by_cases hvi:v i<0
  ·exact hall i hi hvi
  ·have:=qEI (show 0<=t by grind) (show 0<=v i by grind);have:=hw.nn i hi;grind
 ·rw[q3G,wj,h0,hw.one];grind
 ·rw[hz k hk e] at hv;exact absurd hv (by grind)
theorem qhP:∀{n:Nat} {f:Nat->Rat},(∀i,i<n->0<=f i)->su n f=0->∀i,i<n->f i=0
 | 0,_,_,_,i,hi=>by omega
 | n+1,f,h,hs,i,hi=>by
  have a:=qzk (n:=n) (f:=f) (fun i hi=>h i (by omega));have b:=h n (by omega);simp only[su] at hs;by_cases e:i=n
  ·subst e;grind
  ·exact qhP (n:=n) (f:=f) (fun i hi=>h i (by omega)) (by grind) i (by omega)
theorem qjB (n:Nat)(w v:Nat->Rat)(t:Rat)(p:Nat->V3):cen n (fun i=>w i+t*v i) p=⟨(cen n w p).x+t*(cen n v p).x,(cen n w p).y+t*(cen n v p).y,(cen n w p).z+t*(cen n v p).z⟩:=by unfold cen;simp only[V3.mk.injEq];refine⟨?_,?_,?_⟩<;>rw[<-wj,<-q3G]<;>exact qj fun i _=>by grind
end Go.Eng

namespace Go.Eng
variable {n:Nat}{p:Nat->V3}
theorem qBy {v:Nat->Rat}{S:Nat->Prop}(hv:∀i,i<n->¬S i->v i=0){r:Rat}(h0:su n v=0)(h:∀j,j<n->S j->2*q8o (cen n v p) (p j)+r=0):cen n v p=⟨0,0,0⟩:=by
 have e:su n (fun j=>v j*(2*q8o (cen n v p) (p j)+r))=0:=by
  rw[qj (g:=fun _=>0) (fun j hj=>by
   by_cases hs:S j
   ·rw[h j hj hs];grind
   ·rw[hv j hj hs];grind),q3P]
 have e2:su n (fun j=>v j*(2*q8o (cen n v p) (p j)+r))=2*q8o (cen n v p) (cen n v p)+r*su n v:=by rw[<-qsN,<-wj,<-wj,<-q3G];exact qj fun i _=>by grind
 rw[e2,h0] at e;have:d2 (cen n v p) ⟨0,0,0⟩<=0:=by rw[qqe];unfold q8o at *;simp only at *;grind
 exact qrN this
theorem qvA (n:Nat)(p:Nat->V3)(w:Nat->Rat)(h1:su n w=1) :(∃x s,su n x=1/\(∀i,i<n->w i=0->x i=0)/\∀i,i<n->w i≠0->d2 (cen n x p) (p i)=s) \/∃v,(∀i,i<n->w i=0->v i=0)/\su n v=0/\cen n v p=⟨0,0,0⟩/\0<su n (fun i=>v i*q8o (p i) (p i)):=by
 rcases qov (n+1) (n+1) (fun i j=>if i=n then (if j=n then 0 else 1) else if w i=0 then (if j=i then 1 else 0) else if j=n then 1 else 2*q8o (p i) (p j))
  (fun i=>if i=n then 1 else if w i=0 then 0 else q8o (p i) (p i)) with⟨x,hx⟩|⟨y,h2,h3⟩
 ·left;have xz:∀i,i<n->w i=0->x i=0:=fun i hi hw=>by have:=hx i (by omega);simp only[show ¬i=n by omega,if_false,hw,if_true] at this;rw[q5N (k:=i) _ (by omega) (fun j _ hne=>by rw[if_neg hne];grind)] at this;simpa using this
  have x1:su n x=1:=by have:=hx n (by omega);simp only[if_true,su] at this;rw[qj (g:=x) (fun j hj=>by rw[if_neg (by omega)];grind)] at this;grind
  refine⟨x,q8o (cen n x p) (cen n x p)+x n,x1,xz,fun i hi hw=>?_⟩;have:=hx i (by omega);simp only[show ¬i=n by omega,if_false,hw,su,if_true] at this;rw[qj (g:=fun j=>2*(x j*q8o (p i) (p j))) (fun j hj=>by rw[if_neg (by omega)];grind),wj,qsN] at this;rw[qqe];have sym:q8o (cen n x p) (p i)=q8o (p i) (cen n x p):=by unfold q8o;grind
  rw[sym];grind
 ·right;obtain⟨m,hm⟩:∃m:Nat->Rat,m=fun i=>if w i=0 then 0 else y i:=⟨_,rfl⟩
  have mz:∀i,i<n->w i=0->m i=0:=fun i _ hw=>by rw[hm];simp[hw]
  have m0:su n m=0:=by
   have:=h2 n (by omega);simp only[su,if_true] at this;rw[qj (g:=m) (fun i hi=>by
    rw[hm];by_cases hw:w i=0
    ·simp only[show ¬i=n by omega,show ¬n=i by omega,if_false,hw,if_true];grind
    ·simp only[show ¬i=n by omega,if_false,hw];grind)] at this
   grind
  have md:∀j,j<n->w j≠0->2*q8o (cen n m p) (p j)+y n=0:=fun j hj hw=>by
   have:=h2 j (by omega);simp only[su,if_true,show ¬j=n by omega,if_false] at this;rw[qj (g:=fun i=>2*(m i*q8o (p j) (p i))) (fun i hi=>by
    rw[hm];by_cases hw':w i=0
    ·have hne:¬j=i:=fun e=>hw (e▸hw');simp only[show ¬i=n by omega,if_false,hw',if_true,hne];grind
    ·simp only[show ¬i=n by omega,if_false,hw'];unfold q8o;grind),wj,qsN] at this
   have sym:q8o (cen n m p) (p j)=q8o (p j) (cen n m p):=by unfold q8o;grind
   rw[sym];grind
  have mc:cen n m p=⟨0,0,0⟩:=qBy (S:=fun i=>w i≠0) (r:=y n) (fun i hi hs=>mz i hi (Classical.not_not.1 hs)) m0 md;have yn:y n=0:=by obtain⟨j,hj,hw⟩:=qmw (n:=n) (f:=w) (by rw[h1];decide);have:=md j hj hw;rw[mc] at this;unfold q8o at this;grind
  have mk:su n (fun i=>m i*q8o (p i) (p i))≠0:=by
   intro e;apply h3;simp only[su,if_true,yn];rw[qj (g:=fun i=>m i*q8o (p i) (p i)) (fun i hi=>by
    rw[hm];by_cases hw:w i=0
    ·simp only[show ¬i=n by omega,if_false,hw,if_true];grind
    ·simp only[show ¬i=n by omega,if_false,hw]),e]
   grind
  by_cases pos:0<su n (fun i=>m i*q8o (p i) (p i))
  ·exact⟨m,mz,m0,mc,pos⟩
  ·refine⟨fun i=>(-1)*m i,fun i hi hw=>by show (-1)*m i=0;rw[mz i hi hw];grind,by rw[wj,m0];grind,?_,?_⟩
   ·have:cen n (fun i=>(-1)*m i) p=⟨(-1)*(cen n m p).x,(-1)*(cen n m p).y,(-1)*(cen n m p).z⟩:=by unfold cen;simp only[V3.mk.injEq];refine⟨?_,?_,?_⟩<;>rw[<-wj]<;>exact qj fun i _=>by grind
    rw[this,mc];simp only[V3.mk.injEq];refine⟨?_,?_,?_⟩<;>grind
   ·rw[qj (g:=fun i=>(-1)*(m i*q8o (p i) (p i))) (fun i _=>by grind),wj];grind
theorem qCG (n:Nat)(w:Nat->Rat)(p:Nat->V3)(h:su n w=1):en n p w=su n (fun i=>w i*q8o (p i) (p i))-q8o (cen n w p) (cen n w p):=by unfold en;rw[qBp,h];grind
theorem qzT (n:Nat)(p:Nat->V3):∀(c:Nat) (w:Nat->Rat),Wt n w->cnt n w<=c->∃w' s,qqU n p w' s/\en n p w<=s/\∀i,i<n->w i=0->w' i=0:=by
 intro c;induction c with
 | zero=>
  intro w hw hc;obtain⟨j,hj,hne⟩:=qmw (n:=n) (f:=w) (by rw[hw.one];decide);have:=qsK (n:=n) (w:=w) (v:=fun _=>0) (k:=j) (fun _ _ _=>rfl) hj hne rfl;omega
 | succ c ih=>
  intro w hw hc;have again:∀v:Nat->Rat,su n v=0->(∀i,i<n->w i=0->v i=0)->(∃k,k<n/\v k<0)->(∀t:Rat,0<t->Wt n (fun i=>w i+t*v i)->en n p w<=en n p (fun i=>w i+t*v i)) ->
    ∃w' s,qqU n p w' s/\en n p w<=s/\∀i,i<n->w i=0->w' i=0:=by
   intro v v0 vz hk he;obtain⟨t,t0,a1,a2,a3⟩:=qvL hw v0 vz hk;obtain⟨w',s,g1,g2,g3⟩:=ih _ a1 (by omega);exact⟨w',s,g1,Rat.le_trans (he t t0 a1) g2,fun i hi hz=>g3 i hi (a3 i hi hz)⟩
  rcases qvA n p w hw.one with⟨x,s,x1,xz,xs⟩|⟨v,vz,v0,vc,vp⟩
  ·have sw:su n (fun i=>w i*d2 (cen n x p) (p i))=s:=qdZ hw.one xs;have e1:=qn0 p hw.one (cen n x p);rw[sw] at e1;have dn:=qr7 (cen n x p) (cen n w p);by_cases hx:∀i,i<n->0<=x i
   ·refine⟨x,s,⟨⟨hx,x1⟩,fun i hi hne=>xs i hi fun e=>hne (xz i hi e)⟩,by grind,xz⟩
   ·obtain⟨k,hk⟩:=qGt.1 hx;obtain⟨hk,hneg⟩:=qGa.1 hk;refine again (fun i=>x i-w i) (by rw[q5M,x1,hw.one];grind) (fun i hi e=>by rw[xz i hi e,e];grind) ⟨k,hk,by have:=hw.nn k hk;grind⟩ fun t t0 ht=>?_;have t1:t<=1:=by have a:=ht.nn k hk;have b:=hw.nn k hk;apply qF5;intro hh;have c1:=qEI (show 0<=t-1 by grind) b;have c2:=qEP t0 (show 0 < -(x k) by grind);grind
    have sw':su n (fun i=>(w i+t*(x i-w i))*d2 (cen n x p) (p i))=s:=qdZ (w:=fun i=>w i+t*(x i-w i)) ht.one fun i hi hne=>xs i hi fun e=>hne (by rw[e,xz i hi e];grind);have e2:=qn0 p ht.one (cen n x p);rw[sw'] at e2;have cm:=qjB n w (fun i=>x i-w i) t p;have cx:cen n (fun i=>x i-w i) p=⟨(cen n x p).x-(cen n w p).x,(cen n x p).y-(cen n w p).y,(cen n x p).z-(cen n w p).z⟩:=by unfold cen;simp only[V3.mk.injEq];refine⟨?_,?_,?_⟩<;>rw[<-q5M]<;>exact qj fun i _=>by grind
    have dd:d2 (cen n x p) (cen n (fun i=>w i+t*(x i-w i)) p)=(1-t)*(1-t)*d2 (cen n x p) (cen n w p):=by rw[cm,cx];unfold d2;grind
    rw[dd] at e2;have f1:=qEI (show 0<=t by grind) (show 0<=2-t by grind);have f2:=qEI f1 dn;grind
  ·refine again v v0 vz ?_ fun t t0 ht=>?_
   ·apply qF5;intro hh;have all:∀i,i<n->0<=v i:=fun i hi=>by apply qF5;intro h';exact hh ⟨i,hi,by grind⟩
    have z:=qhP all v0;rw[qj (g:=fun _=>0) (fun i hi=>by rw[z i hi];grind),q3P] at vp;exact absurd vp (by decide)
   ·rw[qCG n w p hw.one,qCG n _ p ht.one,qjB,vc];have:su n (fun i=>(w i+t*v i)*q8o (p i) (p i))=su n (fun i=>w i*q8o (p i) (p i))+t*su n (fun i=>v i*q8o (p i) (p i)):=by rw[<-wj,<-q3G];exact qj fun i _=>by grind
    rw[this];have f:=qEP t0 vp;unfold q8o at *;simp only;grind
structure Least (n:Nat) (p:Nat->V3) (w:Nat->Rat) (s:Rat):Prop where
 good:qqU n p w s
 all:∀i,i<n->d2 (cen n w p) (p i)<=s
theorem qxs {w v:Nat->Rat}{s t:Rat}(hw:qqU n p w s)(hv:qqU n p v t)(h:∀i,i<n->(w i=0↔v i=0)):s=t:=by have a:su n (fun i=>w i*d2 (cen n v p) (p i))=t:=qdZ hw.1.one fun i hi hne=>hv.2 i hi fun e=>hne ((h i hi).2 e);have b:su n (fun i=>v i*d2 (cen n w p) (p i))=s:=qdZ hv.1.one fun i hi hne=>hw.2 i hi fun e=>hne ((h i hi).1 e);rw[qn0 p hw.1.one,hw.en] at a;rw[qn0 p hv.1.one,hv.en] at b;have:=qr7 (cen n v p) (cen n w p);have:=qr7 (cen n w p) (cen n v p);grind
theorem qo2 {w:Nat->Rat}{s:Rat}(hw:Least n p w s){c:V3}{r:Rat}(h:∀i,i<n->d2 c (p i)<=r):s+d2 c (cen n w p)<=r:=by
 have a:=qn0 p hw.good.1.one c;rw[hw.good.en] at a;have b:0<=su n (fun i=>w i*(r-d2 c (p i))):=qzk fun i hi=>qEI (hw.good.1.nn i hi) (by have:=h i hi;grind);have e:su n (fun i=>w i*(r-d2 c (p i)))=r-su n (fun i=>w i*d2 c (p i)):=by rw[qj (g:=fun i=>r*w i-w i*d2 c (p i)) (fun i _=>by grind),q5M,wj,hw.good.1.one];grind
 grind
theorem quB {w v:Nat->Rat}{s t:Rat}(hw:Least n p w s)(hv:Least n p v t):s=t/\cen n w p=cen n v p:=by have a:=qo2 hw (c:=cen n v p) (r:=t) hv.all;have b:=qo2 hv (c:=cen n w p) (r:=s) hw.all;have d1:=qr7 (cen n v p) (cen n w p);have d3:=qr7 (cen n w p) (cen n v p);exact⟨by grind,qrN (by grind)⟩
end Go.Eng

namespace Go.Eng
def qDO:Nat->List (Nat->Bool)
 | 0=>[fun _=>false]
 | n+1=>(qDO n).flatMap fun f=>[fun i=>if i=n then true else f i,fun i=>if i=n then false else f i]
theorem qnB:∀(n:Nat) (w:Nat->Rat),∃b∈qDO n,∀i,i<n->(b i=true↔w i≠0)
 | 0,_=>⟨_,qET.2 rfl,fun i hi=>by omega⟩
 | n+1,w=>by
  obtain⟨b,hb,h⟩:=qnB n w;by_cases hw:w n=0
  ·refine⟨fun i=>if i=n then false else b i,qGj.2 ⟨b,hb,by simp⟩,fun i hi=>?_⟩;by_cases e:i=n
   ·subst e;simp[hw]
   ·simp only[e,if_false];exact h i (by omega)
  ·refine⟨fun i=>if i=n then true else b i,qGj.2 ⟨b,hb,by simp⟩,fun i hi=>?_⟩;by_cases e:i=n
   ·subst e;simp[hw]
   ·simp only[e,if_false];exact h i (by omega)
theorem qns(n:Nat)(p:Nat->V3):∀L:List (Nat->Bool),(∃w s,qqU n p w s/\∃b∈L,∀i,i<n->(b i=true↔w i≠0)) ->
  ∃w s,qqU n p w s/\∀w' s',qqU n p w' s'->(∃b∈L,∀i,i<n->(b i=true↔w' i≠0))->s'<=s
 | [],⟨_,_,_,b,hb,_⟩=>by cases hb
 | b::L,⟨w0,s0,g0,b0,hb0,h0⟩=>by
  have same:∀w s w' s',qqU n p w s->qqU n p w' s'->(∀i,i<n->(b i=true↔w i≠0))->(∀i,i<n->(b i=true↔w' i≠0))->s=s':=fun w s w' s' g g' h h'=>qxs g g' fun i hi=>by
   have a:=h i hi;have c:=h' i hi;by_cases e:b i=true
   ·exact⟨fun z=>absurd z (a.1 e),fun z=>absurd z (c.1 e)⟩
   ·exact⟨fun _=>Classical.not_not.1 fun z=>e (c.2 z),fun _=>Classical.not_not.1 fun z=>e (a.2 z)⟩
  by_cases hB:∃w s,qqU n p w s/\∀i,i<n->(b i=true↔w i≠0)
  ·obtain⟨w1,s1,g1,h1⟩:=hB;by_cases hL:∃w s,qqU n p w s/\∃b∈L,∀i,i<n->(b i=true↔w i≠0)
   ·obtain⟨w2,s2,g2,h2⟩:=qns n p L hL;rcases Rat.le_total (a:=s1) (b:=s2) with hle|hle
    ·refine⟨w2,s2,g2,fun w' s' g' ⟨c,hc,hp⟩=>?_⟩;rcases qEt.1 hc with rfl|hc
     ·rw[<-same w1 s1 w' s' g1 g' h1 hp];exact hle
     ·exact h2 w' s' g' ⟨c,hc,hp⟩
    ·refine⟨w1,s1,g1,fun w' s' g' ⟨c,hc,hp⟩=>?_⟩;rcases qEt.1 hc with rfl|hc
     ·rw[<-same w1 s1 w' s' g1 g' h1 hp];exact qFw
     ·exact Rat.le_trans (h2 w' s' g' ⟨c,hc,hp⟩) hle
   ·refine⟨w1,s1,g1,fun w' s' g' ⟨c,hc,hp⟩=>?_⟩;rcases qEt.1 hc with rfl|hc
    ·rw[<-same w1 s1 w' s' g1 g' h1 hp];exact qFw
    ·exact absurd ⟨w',s',g',c,hc,hp⟩ hL
  ·have hL:∃w s,qqU n p w s/\∃b∈L,∀i,i<n->(b i=true↔w i≠0):=by
    rcases qEt.1 hb0 with rfl|hb0
    ·exact absurd ⟨w0,s0,g0,h0⟩ hB
    ·exact⟨w0,s0,g0,b0,hb0,h0⟩
   obtain⟨w2,s2,g2,h2⟩:=qns n p L hL;refine⟨w2,s2,g2,fun w' s' g' ⟨c,hc,hp⟩=>?_⟩;rcases qEt.1 hc with rfl|hc
   ·exact absurd ⟨w',s',g',hp⟩ hB
   ·exact h2 w' s' g' ⟨c,hc,hp⟩
theorem qyX{n k:Nat}(p:Nat->V3)(hk:k<n):cen n (fun i=>if i=k then 1 else 0) p=p k:=by unfold cen;rw[q5N (k:=k) _ hk (fun i _ h=>by simp[h]),q5N (k:=k) _ hk (fun i _ h=>by simp[h]),q5N (k:=k) _ hk (fun i _ h=>by simp[h])];simp only[if_true];rcases hp:p k with⟨x,y,z⟩;simp only[V3.mk.injEq];refine⟨?_,?_,?_⟩<;>grind
theorem qvf{n:Nat}(p:Nat->V3)(hn:0<n):∃w s,Least n p w s:=by
 have unit:∀k,k<n->su n (fun i=>if i=k then (1:Rat) else 0)=1:=fun k hk=>by rw[q5N (k:=k) _ hk (fun i _ h=>by rw[if_neg h])];simp
 have w0:Wt n (fun i=>if i=0 then (1:Rat) else 0):=⟨fun i _=>by
  show (0:Rat)<=if i=0 then 1 else 0
  split<;>decide,unit 0 hn⟩
 obtain⟨w1,s1,g1,_⟩:=qzT n p _ _ w0 (qEo _);obtain⟨b,hb,h⟩:=qnB n w1;obtain⟨w,s,g,hmax⟩:=qns n p (qDO n) ⟨w1,s1,g1,b,hb,h⟩;refine⟨w,s,g,fun k hk=>?_⟩;apply qF5;intro hh;have hD:s<d2 (cen n w p) (p k):=by grind
 obtain⟨D,eD⟩:∃D,D=d2 (cen n w p) (p k):=⟨_,rfl⟩;rw[<-eD] at hD;have s0:0<=s:=by obtain⟨j,hj,hne⟩:=qmw (n:=n) (f:=w) (by rw[g.1.one];decide);rw[<-g.2 j hj hne];exact qr7 _ _
 have Dp:0<D:=by grind
 have inv:(2*D)*(2*D)⁻¹=1:=qGk _ (by grind);have ip:0<(2*D)⁻¹:=Rat.inv_pos.2 (by grind);obtain⟨t,et⟩:∃t,t=(D-s)*(2*D)⁻¹:=⟨_,rfl⟩;have t0:0<t:=by rw[et];exact qEP (by grind) ip
 have tD:t*D*2=D-s:=by rw[et];grind
 have t1:t<=1:=by apply qF5;intro h1;have:=qEP (show 0<t-1 by grind) Dp;grind
 have W:Wt n (fun i=>w i+t*((if i=k then 1 else 0)-w i)):=by
  refine⟨fun i hi=>?_,?_⟩
  ·have a:=qEI (show 0<=1-t by grind) (g.1.nn i hi);by_cases e:i=k
   ·simp only[e,if_true];rw[e] at a;grind
   ·simp only[e,if_false];grind
  ·rw[q3G,wj,q5M,unit k hk,g.1.one];grind
 have e1:=qn0 p W.one (cen n w p);have lhs:su n (fun i=>(w i+t*((if i=k then 1 else 0)-w i))*d2 (cen n w p) (p i))=s+t*(D-s):=by
  have a:=qdZ (f:=fun i=>d2 (cen n w p) (p i)) g.1.one g.2;have c:su n (fun i=>(if i=k then 1 else 0)*d2 (cen n w p) (p i))=D:=by rw[q5N (k:=k) _ hk (fun i _ h=>by rw[if_neg h];grind),eD];simp
  rw[qj (g:=fun i=>w i*d2 (cen n w p) (p i)+t*((if i=k then 1 else 0)*d2 (cen n w p) (p i)-w i*d2 (cen n w p) (p i))) (fun i _=>by grind),q3G,wj,q5M,a,c]
 have cm:=qjB n w (fun i=>(if i=k then 1 else 0)-w i) t p;have cx:cen n (fun i=>(if i=k then 1 else 0)-w i) p=⟨(p k).x-(cen n w p).x,(p k).y-(cen n w p).y,(p k).z-(cen n w p).z⟩:=by have u:=qyX p hk;have ux:=congrArg V3.x u;have uy:=congrArg V3.y u;have uz:=congrArg V3.z u;rw[<-ux,<-uy,<-uz];unfold cen;simp only[V3.mk.injEq];refine⟨?_,?_,?_⟩<;>rw[<-q5M]<;>exact qj fun i _=>by grind
 have dd:d2 (cen n w p) (cen n (fun i=>w i+t*((if i=k then 1 else 0)-w i)) p)=t*t*D:=by rw[cm,cx,eD];unfold d2;grind
 rw[lhs,dd] at e1;obtain⟨w',s',g',h',_⟩:=qzT n p _ _ W (qEo _);obtain⟨b',hb',hp'⟩:=qnB n w';have:=hmax w' s' g' ⟨b',hb',hp'⟩;have gain:=qEP t0 (show 0<D-s by grind);have:t*t*D*2=t*(D-s):=by rw[<-tD];grind
 grind
def qBa(n:Nat)(p:Nat->V3)(w:Nat->Rat):Prop:=∀v:Nat->Rat,(∀i,i<n->w i=0->v i=0)->su n v=0->cen n v p=⟨0,0,0⟩->∀i,i<n->v i=0
theorem qs7{n:Nat}{p:Nat->V3}:∀(c:Nat) {w:Nat->Rat} {s:Rat},Least n p w s->cnt n w<=c->∃w',Least n p w' s/\qBa n p w':=by
 intro c;induction c with
 | zero=>
  intro w s hw hc;obtain⟨j,hj,hne⟩:=qmw (n:=n) (f:=w) (by rw[hw.good.1.one];decide);have:=qsK (n:=n) (w:=w) (v:=fun _=>0) (k:=j) (fun _ _ _=>rfl) hj hne rfl;omega
 | succ c ih=>
  intro w s hw hc;by_cases hi:qBa n p w
  ·exact⟨w,hw,hi⟩
  ·unfold qBa at hi;obtain⟨v,hv⟩:=qGt.1 hi;obtain⟨vz,hv⟩:=qGa.1 hv;obtain⟨v0,hv⟩:=qGa.1 hv;obtain⟨vc,hv⟩:=qGa.1 hv;have neg:∃k,k<n/\v k<0:=by apply qF5;intro hh;exact hv (qhP (fun i hi=>by apply qF5;intro h';exact hh ⟨i,hi,by grind⟩) v0)
   obtain⟨t,t0,a1,a2,a3⟩:=qvL hw.good.1 v0 vz neg;have cs:cen n (fun i=>w i+t*v i) p=cen n w p:=by rw[qjB,vc];rcases hcw:cen n w p with⟨x,y,z⟩;simp only[V3.mk.injEq];refine⟨?_,?_,?_⟩<;>grind
   refine ih (w:=fun i=>w i+t*v i) (s:=s) ⟨⟨a1,fun i hi hne=>?_⟩,fun i hi=>?_⟩ (by omega)
   ·rw[cs];exact hw.good.2 i hi fun e=>hne (a3 i hi e)
   ·rw[cs];exact hw.all i hi
variable {p:Nat->V3}
theorem kernel:∀(m n:Nat) (M:Nat->Nat->Rat),m<n->∃x:Nat->Rat,(∃j,j<n/\x j≠0)/\∀i,i<m->su n (fun j=>M i j*x j)=0
 | 0,n,_,h=>⟨fun _=>1,⟨0,h,by decide⟩,fun i hi=>by omega⟩
 | m+1,0,_,h=>by omega
 | m+1,n+1,M,h=>by
  by_cases hz:∀i,i<m+1->M i n=0
  ·refine⟨fun j=>if j=n then 1 else 0,⟨n,by omega,by simp⟩,fun i hi=>?_⟩;rw[q5N (k:=n) _ (by omega) (fun j _ hne=>by simp[hne])];simp[hz i hi]
  ·obtain⟨k,hk⟩:=qGt.1 hz;obtain⟨hk,ha⟩:=qGa.1 hk;have inv:M k n*(M k n)⁻¹=1:=qGk _ ha;obtain⟨x,⟨j,hj,hx⟩,he⟩:=kernel m n (fun i j=>M (if i=k then m else i) j-M (if i=k then m else i) n*(M k n)⁻¹*M k j) (by omega);refine⟨fun j=>if j=n then -((M k n)⁻¹*su n (fun j=>M k j*x j)) else x j,⟨j,by omega,by simpa[show j≠n by omega] using hx⟩,fun i hi=>?_⟩;simp only[su,if_true];rw[qj (g:=fun j=>M i j*x j) (fun j hj=>by rw[if_neg (by omega)])];by_cases hik:i=k
   ·subst hik;grind
   ·have e:∃i',i'<m/\(if i'=k then m else i')=i:=by
     by_cases him:i=m
     ·exact⟨k,by omega,by simp[him]⟩
     ·exact⟨i,by omega,by simp[hik]⟩
    obtain⟨i',hi',e⟩:=e;have q:=he i' hi';simp only[e] at q;rw[qj (g:=fun j=>M i j*x j-M i n*(M k n)⁻¹*(M k j*x j)) (fun j _=>by grind),q5M,wj] at q;grind
theorem qnk {n q:Nat}{L:Nat->Nat}(hL:∀j,j<q->L j<n)(u f:Nat->Rat):su n (fun i=>su q (fun j=>if L j=i then u j else 0)*f i)=su q (fun j=>u j*f (L j)):=by rw[qj (g:=fun i=>su q (fun j=>(if L j=i then u j else 0)*f i)) (fun i _=>by rw[show su q (fun j=>if L j=i then u j else 0)*f i=f i*su q (fun j=>if L j=i then u j else 0) from by grind,<-wj];exact qj fun j _=>by grind),qr3];refine qj fun j hj=>?_;rw[q5N (k:=L j) _ (hL j hj) (fun i _ hne=>by simp[show ¬L j=i from fun e=>hne e.symm])];simp
theorem qnp {n q:Nat}{L:Nat->Nat}(hL:∀j,j<q->L j<n)(u:Nat->Rat):su n (fun i=>su q (fun j=>if L j=i then u j else 0))=su q u:=by have:=qnk hL u (fun _=>1);rw[qj (g:=fun i=>su q (fun j=>if L j=i then u j else 0)) (fun i _=>by grind)] at this;rw[this];exact qj fun j _=>by grind
theorem qD9 {q:Nat}{L:Nat->Nat}(inj:∀j k,j<q->k<q->L j=L k->j=k)(u:Nat->Rat){k:Nat}(hk:k<q):su q (fun j=>if L j=L k then u j else 0)=u k:=by rw[q5N (k:=k) _ hk (fun j hj hne=>by rw[if_neg fun e=>hne (inj j k hj hk e)])];simp
theorem qju {n q:Nat}{L:Nat->Nat}(hL:∀j,j<q->L j<n)(u:Nat->Rat)(p:Nat->V3):cen n (fun i=>su q (fun j=>if L j=i then u j else 0)) p=cen q u (fun j=>p (L j)):=by unfold cen;rw[qnk hL,qnk hL,qnk hL]
def qDR(q:Nat)(p:Nat->V3)(L:Nat->Nat):Prop:=∀u:Nat->Rat,su q u=0->cen q u (fun j=>p (L j))=⟨0,0,0⟩->∀j,j<q->u j=0
theorem qza {q:Nat}{L:Nat->Nat}(h:qDR q p L):q<=4:=by
 apply qF5;intro hq;obtain⟨u,⟨j,hj,hne⟩,he⟩:=kernel 4 q (fun i j=>if i=0 then 1 else if i=1 then (p (L j)).x else if i=2 then (p (L j)).y else (p (L j)).z) (by omega);refine hne (h u ?_ ?_ j hj)
 ·have:=he 0 (by omega);simp only[if_true] at this;rw[<-this];exact qj fun i _=>by grind
 ·have e1:=he 1 (by omega);have e2:=he 2 (by omega);have e3:=he 3 (by omega);simp only[show ¬(1=0) by omega,show ¬(2=0) by omega,show ¬(3=0) by omega,show ¬(2=1) by omega,show ¬(3=1) by omega,show ¬(3=2) by omega,if_true,if_false] at e1 e2 e3;unfold cen;simp only[V3.mk.injEq];refine⟨?_,?_,?_⟩
  ·rw[<-e1];exact qj fun i _=>by grind
  ·rw[<-e2];exact qj fun i _=>by grind
  ·rw[<-e3];exact qj fun i _=>by grind
theorem qxR {q:Nat}{L:Nat->Nat}(h:qDR q p L)(hz:∀j,j<q->(p (L j)).z=0):q<=3:=by
 apply qF5;intro hq;obtain⟨u,⟨j,hj,hne⟩,he⟩:=kernel 3 q (fun i j=>if i=0 then 1 else if i=1 then (p (L j)).x else (p (L j)).y) (by omega);refine hne (h u ?_ ?_ j hj)
 ·have:=he 0 (by omega);simp only[if_true] at this;rw[<-this];exact qj fun i _=>by grind
 ·have e1:=he 1 (by omega);have e2:=he 2 (by omega);simp only[show ¬(1=0) by omega,show ¬(2=0) by omega,show ¬(2=1) by omega,if_true,if_false] at e1 e2;unfold cen;simp only[V3.mk.injEq];refine⟨?_,?_,?_⟩
  ·rw[<-e1];exact qj fun i _=>by grind
  ·rw[<-e2];exact qj fun i _=>by grind
  ·rw[qj (g:=fun _=>0) (fun i hi=>by rw[hz i hi];grind),q3P]
def Asc(q:Nat)(L:Nat->Nat):Prop:=∀j k,j<k->k<q->L j<L k
theorem Asc.inj {q:Nat}{L:Nat->Nat}(h:Asc q L):∀j k,j<q->k<q->L j=L k->j=k:=fun j k hj hk e=>by
 rcases Nat.lt_trichotomy j k with hh|hh|hh
 ·have:=h j k hh hk;omega
 ·exact hh
 ·have:=h k j hh hj;omega
theorem qiK:∀(n:Nat) (w:Nat->Rat),∃(q:Nat) (L:Nat->Nat),q<=n/\Asc q L/\(∀j,j<q->L j<n/\w (L j)≠0)/\∀i,i<n->w i≠0->∃j,j<q/\L j=i
 | 0,_=>⟨0,fun _=>0,by omega,fun j k _ hk=>by omega,fun j hj=>by omega,fun i hi=>by omega⟩
 | n+1,w=>by
  obtain⟨q,L,h0,h1,h2,h3⟩:=qiK n w;by_cases hw:w n=0
  ·refine⟨q,L,by omega,h1,fun j hj=>⟨by have:=(h2 j hj).1;omega,(h2 j hj).2⟩,fun i hi hne=>?_⟩;by_cases e:i=n
   ·subst e;exact absurd hw hne
   ·exact h3 i (by omega) hne
  ·refine⟨q+1,fun j=>if j=q then n else L j,by omega,fun j k hjk hk=>?_,fun j hj=>?_,fun i hi hne=>?_⟩
   ·simp only[show ¬j=q by omega,if_false];by_cases e:k=q
    ·simp only[e,if_true];exact(h2 j (by omega)).1
    ·simp only[e,if_false];exact h1 j k hjk (by omega)
   ·by_cases e:j=q
    ·simp only[e,if_true];exact⟨by omega,hw⟩
    ·simp only[e,if_false];have:=h2 j (by omega);exact⟨by omega,this.2⟩
   ·by_cases e:i=n
    ·exact⟨q,by omega,by simp[e]⟩
    ·obtain⟨j,hj,hL⟩:=h3 i (by omega) hne;exact⟨j,by omega,by simp only[show ¬j=q by omega,if_false];exact hL⟩
structure Sup (n:Nat) (p:Nat->V3) (q:Nat) (L:Nat->Nat) (u:Nat->Rat) (s:Rat):Prop where
 lt:∀j,j<q->L j<n
 asc:Asc q L
 ind:qDR q p L
 one:su q u=1
 eq:∀j,j<q->d2 (cen q u fun j=>p (L j)) (p (L j))=s
 nn:∀j,j<q->0<=u j
 all:∀i,i<n->d2 (cen q u fun j=>p (L j)) (p i)<=s
theorem Sup.least {n q:Nat}{L:Nat->Nat}{u:Nat->Rat}{s:Rat}(h:Sup n p q L u s):Least n p (fun i=>su q (fun j=>if L j=i then u j else 0)) s:=by
 have c:=qju h.lt u p;refine⟨⟨⟨fun i _=>qzk fun j hj=>?_,by rw[qnp h.lt];exact h.one⟩,fun i hi hne=>?_⟩,fun i hi=>by rw[c];exact h.all i hi⟩
 ·show (0:Rat)<=if L j=i then u j else 0
  split
  ·exact h.nn j hj
  ·exact qFw
 ·rw[c];obtain⟨j,hj,hz⟩:=qmw hne;by_cases e:L j=i
  ·rw[<-e];exact h.eq j hj
  ·exact absurd (if_neg e) hz
theorem qDp {n:Nat}(p:Nat->V3)(hn:0<n):∃q L u s,Sup n p q L u s/\0<q:=by
 obtain⟨w0,s,h0⟩:=qvf p hn;obtain⟨w,hw,hi⟩:=qs7 _ h0 (qEo _);obtain⟨q,L,_,h1,h2,h3⟩:=qiK n w;have e:∀i,i<n->su q (fun j=>if L j=i then w (L j) else 0)=w i:=fun i hi=>by
  by_cases hz:w i=0
  ·rw[qj (g:=fun _=>0) (fun j hj=>by
    by_cases e:L j=i
    ·rw[e,hz];simp
    ·rw[if_neg e]),q3P,hz]
  ·obtain⟨k,hk,hL⟩:=h3 i hi hz;rw[<-hL,qD9 h1.inj (fun j=>w (L j)) hk]
 have lt:∀j,j<q->L j<n:=fun j hj=>(h2 j hj).1;have c:cen q (fun j=>w (L j)) (fun j=>p (L j))=cen n w p:=by rw[<-qju lt (fun j=>w (L j)) p];unfold cen;simp only[V3.mk.injEq];refine⟨?_,?_,?_⟩<;>exact qj fun i hi=>by rw[e i hi]
 have one:su q (fun j=>w (L j))=1:=by rw[<-qnp lt (fun j=>w (L j)),qj e,hw.good.1.one]
 refine⟨q,L,fun j=>w (L j),s,⟨lt,h1,fun u hu hc j hj=>?_,one,fun j hj=>by rw[c];exact hw.good.2 _ (lt j hj) (h2 j hj).2,fun j hj=>hw.good.1.nn _ (lt j hj),fun i hi=>by rw[c];exact hw.all i hi⟩,?_⟩
 ·have:=hi (fun i=>su q (fun j=>if L j=i then u j else 0)) (fun i _ hz=>by rw[qj (g:=fun _=>0) (fun j hj=>by rw[if_neg (fun e:L j=_=>(h2 j hj).2 (by rw[e];exact hz))]),q3P]) (by rw[qnp lt,hu]) (by rw[qju lt,hc]) (L j) (lt j hj);rw[qD9 h1.inj u hj] at this;exact this
 ·apply Nat.pos_of_ne_zero;intro hq;subst hq;have z:(0:Rat)=1:=one;exact absurd z (by decide)
end Go.Eng

namespace Go.Eng
variable {n:Nat}{p:Nat->V3}
theorem Sup.cen_eq {q:Nat}{L:Nat->Nat}{u:Nat->Rat}{s:Rat}(h:Sup n p q L u s):cen n (fun i=>su q (fun j=>if L j=i then u j else 0)) p=cen q u fun j=>p (L j):=qju h.lt u p
theorem qyZ {q q':Nat}{L L':Nat->Nat}{u u':Nat->Rat}{s s':Rat}(h:Sup n p q L u s)(h':Sup n p q' L' u' s'):s=s'/\cen q u (fun j=>p (L j))=cen q' u' (fun j=>p (L' j)):=by have:=quB h.least h'.least;rw[h.cen_eq,h'.cen_eq] at this;exact this
theorem qCJ {q:Nat}{L:Nat->Nat}{u:Nat->Rat}{s:Rat}(h:Sup n p q L u s){c:V3}{r:Rat}(hc:∀i,i<n->d2 c (p i)<=r):s+d2 c (cen q u fun j=>p (L j))<=r:=by have:=qo2 h.least hc;rw[h.cen_eq] at this;exact this
theorem qCW {q:Nat}{L:Nat->Nat}{u:Nat->Rat}{s:Rat}(h:Sup n p q L u s)(hq:0<q):0<=s:=by rw[<-h.eq 0 hq];exact qr7 _ _
def wts(t:Nat->Rat)(k:Nat):Nat->Rat:=fun j=>if j=0 then 1-su k t else t (j-1)
theorem q8J:∀(k:Nat) (f:Nat->Rat),su (k+1) f=f 0+su k (fun j=>f (j+1))
 | 0,f=>by simp only[su];grind
 | k+1,f=>by
  rw[su,q8J k f];simp only[su];grind
theorem qCV (t:Nat->Rat)(k:Nat):su (k+1) (wts t k)=1:=by rw[q8J];unfold wts;rw[qj (g:=t) (fun j _=>by simp)];simp only[if_true];grind
def qoF(c:Nat->V3)(i k:Nat):Rat:=2*q8o ⟨(c (i+1)).x-(c 0).x,(c (i+1)).y-(c 0).y,(c (i+1)).z-(c 0).z⟩ ⟨(c (k+1)).x-(c 0).x,(c (k+1)).y-(c 0).y,(c (k+1)).z-(c 0).z⟩
theorem qAu (t:Nat->Rat)(k:Nat)(c:Nat->V3):cen (k+1) (wts t k) c=⟨(c 0).x+su k (fun j=>t j*((c (j+1)).x-(c 0).x)),(c 0).y+su k (fun j=>t j*((c (j+1)).y-(c 0).y)),(c 0).z+su k (fun j=>t j*((c (j+1)).z-(c 0).z))⟩:=by
 have key:∀f:Nat->Rat,su (k+1) (fun j=>wts t k j*f j)=f 0+su k (fun j=>t j*(f (j+1)-f 0)):=fun f=>by
  rw[q8J,qj (g:=fun j=>t j*f (j+1)) (fun j _=>by unfold wts;simp)];have e:su k (fun j=>t j*(f (j+1)-f 0))=su k (fun j=>t j*f (j+1))-f 0*su k t:=by rw[<-wj,<-q5M];exact qj fun j _=>by grind
  rw[e];unfold wts;simp only[if_true];grind
 unfold cen;rw[key fun j=>(c j).x,key fun j=>(c j).y,key fun j=>(c j).z]
theorem qtk (t:Nat->Rat)(k:Nat)(c:Nat->V3)(i:Nat):su k (fun j=>qoF c i j*t j)=d2 (c 0) (c (i+1))+d2 (cen (k+1) (wts t k) c) (c 0)-d2 (cen (k+1) (wts t k) c) (c (i+1)):=by
 rw[qAu];have e:su k (fun j=>qoF c i j*t j)=2*(((c (i+1)).x-(c 0).x)*su k (fun j=>t j*((c (j+1)).x-(c 0).x))+((c (i+1)).y-(c 0).y)*su k (fun j=>t j*((c (j+1)).y-(c 0).y))+((c (i+1)).z-(c 0).z)*su k (fun j=>t j*((c (j+1)).z-(c 0).z))):=by rw[<-wj,<-wj,<-wj,<-q3G,<-q3G,<-wj];exact qj fun j _=>by unfold qoF q8o;grind
 rw[e];unfold d2;simp only;grind
theorem qtb (t:Nat->Rat)(k:Nat)(c:Nat->V3):(∀i,i<k->su k (fun j=>qoF c i j*t j)=d2 (c 0) (c (i+1)))↔∀j,j<k+1->d2 (cen (k+1) (wts t k) c) (c j)=d2 (cen (k+1) (wts t k) c) (c 0):=by
 constructor
 ·intro h j hj;cases j with
  | zero=>rfl
  | succ i=>
   have:=h i (by omega);rw[qtk] at this;grind
 ·intro h i hi;have:=h (i+1) (by omega);rw[qtk,this];grind
end Go.Eng

namespace Go.Eng
def swI(a b i:Nat):Nat:=if i=a then b else if i=b then a else i
theorem qpv{a b i k:Nat}(ha:a<k)(hb:b<k)(hi:i<k):swI a b i<k:=by unfold swI;split<;>(try split)<;>omega
theorem qvB(a b i:Nat):swI a b (swI a b i)=i:=by
 unfold swI;by_cases h1:i=a
 ·subst h1;by_cases h2:b=i
  ·simp[h2]
  ·simp[h2]
 ·by_cases h2:i=b
  ·subst h2;simp[h1]
  ·simp[h1,h2]
def gs(c i0:Nat)(M:Nat->Nat->Rat):Nat->Nat->Rat:=fun i j=>if i=c then M i0 j*(M i0 c)⁻¹ else M (swI c i0 i) j-M (swI c i0 i) c*(M i0 j*(M i0 c)⁻¹)
def gsb(c i0:Nat)(M:Nat->Nat->Rat)(b:Nat->Rat):Nat->Rat:=fun i=>if i=c then b i0*(M i0 c)⁻¹ else b (swI c i0 i)-M (swI c i0 i) c*(b i0*(M i0 c)⁻¹)
theorem qwq(k c i0:Nat)(M:Nat->Nat->Rat)(x:Nat->Rat)(i:Nat):su k (fun j=>gs c i0 M i j*x j)=gsb c i0 M (fun i=>su k fun j=>M i j*x j) i:=by
 unfold gs gsb;by_cases h:i=c
 ·simp only[h,if_true];rw[qj (g:=fun j=>(M i0 c)⁻¹*(M i0 j*x j)) (fun j _=>by grind),wj];grind
 ·simp only[h,if_false];rw[qj (g:=fun j=>M (swI c i0 i) j*x j-(M (swI c i0 i) c*(M i0 c)⁻¹)*(M i0 j*x j)) (fun j _=>by grind),q5M,wj];grind
theorem qzx{k c i0:Nat}{M:Nat->Nat->Rat}{b x:Nat->Rat}(hc:c<k)(hi0:i0<k)(hp:M i0 c≠0):qiT k k (gs c i0 M) (gsb c i0 M b) x↔qiT k k M b x:=by
 have inv:M i0 c*(M i0 c)⁻¹=1:=qGk _ hp;constructor
 ·intro h;have h0:su k (fun j=>M i0 j*x j)=b i0:=by have:=h c hc;rw[qwq] at this;unfold gsb at this;simp only[if_true] at this;grind
  intro i hi;by_cases e:i=i0
  ·rw[e];exact h0
  ·have:=h (swI c i0 i) (qpv hc hi0 hi);rw[qwq] at this;unfold gsb at this;have ne:swI c i0 i≠c:=by intro z;have:=qvB c i0 i;rw[z] at this;unfold swI at this;simp at this;exact e this.symm
   simp only[ne,if_false,qvB] at this;rw[h0] at this;grind
 ·intro h i hi;rw[qwq];unfold gsb;have h0:=h i0 hi0;by_cases e:i=c
  ·simp only[e,if_true];rw[h0]
  ·simp only[e,if_false];rw[h0,h _ (qpv hc hi0 hi)]
def qmn(k c:Nat)(M:Nat->Nat->Rat):Prop:=∀i j,i<k->j<c->M i j=if i=j then 1 else 0
theorem qvH{k c i0:Nat}{M:Nat->Nat->Rat}(h:qmn k c M)(hc:c<k)(hci:c<=i0)(hi0:i0<k)(hp:M i0 c≠0):qmn k (c+1) (gs c i0 M):=by
 have inv:M i0 c*(M i0 c)⁻¹=1:=qGk _ hp;intro i j hi hj;unfold gs;by_cases e:j=c
 ·subst e;by_cases ei:i=j
  ·simp only[ei,if_true];exact inv
  ·simp only[ei,if_false];grind
 ·have hj':j<c:=by omega
  have z0:M i0 j=0:=by rw[h i0 j hi0 hj',if_neg (by omega)]
  by_cases ei:i=c
  ·simp only[ei,if_true];rw[z0,if_neg (by omega)];grind
  ·simp only[ei,if_false];rw[z0,h _ j (qpv hc hi0 hi) hj'];unfold swI;by_cases e0:i=i0
   ·subst e0;simp only[ei,if_false,if_true];rw[if_neg (show ¬c=j by omega),if_neg (show ¬i=j by omega)];grind
   ·simp only[ei,e0,if_false];grind
def qad(k:Nat)(pv:Nat->(Nat->Nat->Rat)->Option Nat):Nat->Nat->(Nat->Nat->Rat)->Option (Nat->Nat->Rat)
 | 0,_,M=>some M
 | m+1,c,M=>match pv c M with
  | none=>none
  | some i0=>qad k pv m (c+1) (gs c i0 M)
structure Pivots (k:Nat) (pv:Nat->(Nat->Nat->Rat)->Option Nat):Prop where
 some:∀c M i,c<k->pv c M=some i->c<=i/\i<k/\M i c≠0
 none:∀c M i,pv c M=none->c<=i->i<k->M i c=0
theorem qil{k:Nat}{pv:Nat->(Nat->Nat->Rat)->Option Nat}(hpv:Pivots k pv):∀(m c:Nat) (M N:Nat->Nat->Rat),c+m=k->qmn k c M->qad k pv m c M=some N ->
  qmn k k N/\∀r x,qiT k k N (fun i=>N i r) x↔qiT k k M (fun i=>M i r) x
 | 0,c,M,N,hc,hu,h=>by
  simp only[qad,qEm] at h;subst h;have:c=k:=by omega
  subst this;exact⟨hu,fun _ _=>Iff.rfl⟩
 | m+1,c,M,N,hc,hu,h=>by
  simp only[qad] at h;cases hp:pv c M with
  | none=>rw[hp] at h;cases h
  | some i0=>
   rw[hp] at h;obtain⟨p1,p2,p3⟩:=hpv.some c M i0 (by omega) hp;obtain⟨q1,q2⟩:=qil hpv m (c+1) _ N (by omega) (qvH hu (by omega) p1 p2 p3) h;refine⟨q1,fun r x=>(q2 r x).trans ?_⟩;exact qzx (b:=fun i=>M i r) (by omega) p2 p3
theorem qmO{k:Nat}{pv:Nat->(Nat->Nat->Rat)->Option Nat}(hpv:Pivots k pv):∀(m c:Nat) (M:Nat->Nat->Rat),c+m=k->qmn k c M->qad k pv m c M=none ->
  ∃x:Nat->Rat,(∃j,j<k/\x j≠0)/\qiT k k M (fun _=>0) x
 | 0,c,M,hc,hu,h=>by simp only[qad] at h;cases h
 | m+1,c,M,hc,hu,h=>by
  simp only[qad] at h;cases hp:pv c M with
  | none=>
   refine⟨fun j=>(if j<c then -(M j c) else 0)+(if j=c then 1 else 0),⟨c,by omega,by show (if c<c then -(M c c) else 0)+(if c=c then 1 else 0)≠(0:Rat);rw[if_neg (by omega),if_pos rfl];intro z;grind⟩,fun i hi=>?_⟩;show su k (fun j=>M i j*((if j<c then -(M j c) else 0)+(if j=c then 1 else 0)))=0;rw[qj (g:=fun j=>M i j*(if j<c then -(M j c) else 0)+M i j*(if j=c then 1 else 0)) (fun j _=>by grind),q3G];have e2:su k (fun j=>M i j*(if j=c then 1 else 0))=M i c:=by rw[q5N (k:=c) _ (by omega) (fun j _ hne=>by simp[hne])];simp
   rw[e2];by_cases h3:i<c
   ·rw[q5N (k:=i) _ hi (fun j hj hne=>by
     by_cases hj':j<c
     ·rw[hu i j hi hj',if_neg (fun z=>hne z.symm)];grind
     ·rw[if_neg hj'];grind),if_pos h3,hu i i hi h3,if_pos rfl];grind
   ·rw[qj (g:=fun _=>0) (fun j hj=>by
     by_cases hj':j<c
     ·rw[hu i j hi hj',if_neg (by omega)];grind
     ·rw[if_neg hj'];grind),q3P,hpv.none c M i hp (by omega) hi];grind
  | some i0=>
   rw[hp] at h;obtain⟨p1,p2,p3⟩:=hpv.some c M i0 (by omega) hp;obtain⟨x,hx,hs⟩:=qmO hpv m (c+1) _ (by omega) (qvH hu (by omega) p1 p2 p3) h;refine⟨x,hx,(qzx (b:=fun _=>0) (by omega) p2 p3).1 ?_⟩;intro i hi;rw[hs i hi];unfold gsb;split<;>grind
theorem qfe{k:Nat}{N:Nat->Nat->Rat}(h:qmn k k N)(b x:Nat->Rat):qiT k k N b x↔∀i,i<k->x i=b i:=by
 have e:∀i,i<k->su k (fun j=>N i j*x j)=x i:=fun i hi=>by rw[q5N (k:=i) _ hi (fun j hj hne=>by rw[h i j hi hj,if_neg (fun z=>hne z.symm)];grind),h i i hi hi,if_pos rfl];grind
 constructor
 ·intro hs i hi;rw[<-e i hi];exact hs i hi
 ·intro hs i hi;rw[e i hi];exact hs i hi
variable {k:Nat}
def Ind(q:Nat)(c:Nat->V3):Prop:=∀u:Nat->Rat,su q u=0->cen q u c=⟨0,0,0⟩->∀j,j<q->u j=0
def dif(c:Nat->V3)(t:Nat->Rat)(k:Nat):V3:=⟨su k fun j=>t j*((c (j+1)).x-(c 0).x),su k fun j=>t j*((c (j+1)).y-(c 0).y),su k fun j=>t j*((c (j+1)).z-(c 0).z)⟩
theorem qsb (c:Nat->V3)(t:Nat->Rat)(k i:Nat):su k (fun j=>qoF c i j*t j)=2*(((c (i+1)).x-(c 0).x)*(dif c t k).x+((c (i+1)).y-(c 0).y)*(dif c t k).y+((c (i+1)).z-(c 0).z)*(dif c t k).z):=by unfold dif;simp only;rw[<-wj,<-wj,<-wj,<-q3G,<-q3G,<-wj];exact qj fun j _=>by unfold qoF q8o;grind
theorem qve (c:Nat->V3)(u:Nat->Rat)(k:Nat)(h:su (k+1) u=0):cen (k+1) u c=dif c (fun j=>u (j+1)) k:=by
 have key:∀f:Nat->Rat,su (k+1) (fun j=>u j*f j)=su k (fun j=>u (j+1)*(f (j+1)-f 0)):=fun f=>by
  have e:su k (fun j=>u (j+1)*(f (j+1)-f 0))=su k (fun j=>u (j+1)*f (j+1))-f 0*su k (fun j=>u (j+1)):=by rw[<-wj,<-q5M];exact qj fun j _=>by grind
  rw[q8J] at h;rw[q8J,e];grind
 unfold cen dif;rw[key fun j=>(c j).x,key fun j=>(c j).y,key fun j=>(c j).z]
theorem qdW {c:Nat->V3}:Ind (k+1) c↔∀t:Nat->Rat,(∀i,i<k->su k (fun j=>qoF c i j*t j)=0)->∀j,j<k->t j=0:=by
 constructor
 ·intro h t ht j hj;obtain⟨u,hu⟩:∃u:Nat->Rat,u=fun j=>if j=0 then -(su k t) else t (j-1):=⟨_,rfl⟩
  have us:(fun j=>u (j+1))=t:=by funext j;rw[hu];simp
  have u0:su (k+1) u=0:=by rw[q8J,us,hu];simp;try grind
  have dz:dif c t k=⟨0,0,0⟩:=by
   have e:su k (fun i=>t i*su k (fun j=>qoF c i j*t j))=0:=by rw[qj (g:=fun _=>0) (fun i hi=>by rw[ht i hi];grind),q3P]
   have e2:su k (fun i=>t i*su k (fun j=>qoF c i j*t j))=2*q8o (dif c t k) (dif c t k):=by rw[qj (g:=fun i=>2*((dif c t k).x*(t i*((c (i+1)).x-(c 0).x))+(dif c t k).y*(t i*((c (i+1)).y-(c 0).y))+(dif c t k).z*(t i*((c (i+1)).z-(c 0).z)))) (fun i _=>by rw[qsb];grind),wj,q3G,q3G,wj,wj,wj];unfold q8o dif;grind
   rw[e2] at e;have:d2 (dif c t k) ⟨0,0,0⟩<=0:=by rw[qqe];unfold q8o at *;simp only at *;grind
   exact qrN this
  have:=h u u0 (by rw[qve c u k u0,us,dz]) (j+1) (by omega);rw[hu] at this;simpa using this
 ·intro h u u0 hc j hj;have d:dif c (fun j=>u (j+1)) k=⟨0,0,0⟩:=by rw[<-qve c u k u0,hc]
  have z:=h (fun j=>u (j+1)) fun i _=>by rw[qsb,d];grind
  cases j with
  | zero=>
   rw[q8J,qj (g:=fun _=>0) (fun j hj=>z j hj),q3P] at u0;grind
  | succ j=>exact z j (by omega)
structure Bl (k:Nat) (c:Nat->V3) (t:Nat->Rat):Prop where
 ind:Ind (k+1) c
 eq:∀i,i<k->su k (fun j=>qoF c i j*t j)=d2 (c 0) (c (i+1))
theorem qBf {c:Nat->V3}{t t':Nat->Rat}(h:Bl k c t)(h':Bl k c t'):∀j,j<k->t j=t' j:=fun j hj=>by have:=qdW.1 h.ind (fun j=>t j-t' j) (fun i hi=>by rw[qj (g:=fun j=>qoF c i j*t j-qoF c i j*t' j) (fun j _=>by grind),q5M,h.eq i hi,h'.eq i hi];grind) j hj;grind
theorem qyI {n:Nat}{p:Nat->V3}{L:Nat->Nat}{u:Nat->Rat}{s:Rat}(h:Sup n p (k+1) L u s):Bl k (fun j=>p (L j)) (fun j=>u (j+1))/\∀j,j<k+1->u j=wts (fun j=>u (j+1)) k j:=by
 have e:∀j,j<k+1->u j=wts (fun j=>u (j+1)) k j:=fun j hj=>by
  have:=h.one;rw[q8J] at this;unfold wts;cases j with
  | zero=>simp only[if_true];grind
  | succ j=>simp
 refine⟨⟨h.ind,(qtb _ k _).2 fun j hj=>?_⟩,e⟩;have c:cen (k+1) (wts (fun j=>u (j+1)) k) (fun j=>p (L j))=cen (k+1) u fun j=>p (L j):=by unfold cen;simp only[V3.mk.injEq];refine⟨?_,?_,?_⟩<;>exact qj fun i hi=>by rw[<-e i hi]
 rw[c,h.eq j hj,h.eq 0 (by omega)]
theorem qzi {n:Nat}{p:Nat->V3}{L:Nat->Nat}{t:Nat->Rat}(h:Bl k (fun j=>p (L j)) t)(lt:∀j,j<k+1->L j<n)(asc:Asc (k+1) L)(nn:∀j,j<k+1->0<=wts t k j)(all:∀i,i<n->d2 (cen (k+1) (wts t k) fun j=>p (L j)) (p i)<=d2 (cen (k+1) (wts t k) fun j=>p (L j)) (p (L 0))) :Sup n p (k+1) L (wts t k) (d2 (cen (k+1) (wts t k) fun j=>p (L j)) (p (L 0))):=⟨lt,asc,h.ind,qCV t k,(qtb t k _).1 h.eq,nn,all⟩
end Go.Eng

namespace Go.Eng
variable {n:Nat}
def nxL(l:List Nat):Nat:=match l.getLast? with
 | none=>0
 | some a=>a+1
def exL(n:Nat)(l:List Nat):List (List Nat):=(List.range' (nxL l) (n-nxL l)).map fun i=>l++[i]
def lsN(n:Nat):Nat->List (List Nat)
 | 0=>[[]]
 | k+1=>(lsN n k).flatMap (exL n)
theorem qxS (l:List Nat)(i:Nat):nxL (l++[i])=i+1:=by unfold nxL;rw[List.getLast?_concat]
theorem qzJ {l:List Nat}(h:∀a,a∈l->a<n):nxL l<=n:=by
 unfold nxL;cases e:l.getLast? with
 | none=>exact qFO _
 | some a=>exact h a (List.mem_of_getLast? e)
theorem qC7 {l:List Nat}(h:l.Pairwise (·<·)):∀a,a∈l->a<nxL l:=by
 intro a ha;rcases List.eq_nil_or_concat l with e|⟨l',b,e⟩
 ·subst e;cases ha
 ·rw[List.concat_eq_append] at e;subst e;rw[qxS];rcases qEN.1 ha with q|q
  ·have:=(List.pairwise_append.1 h).2.2 a q b (qET.2 rfl);omega
  ·rw[qET.1 q];omega
theorem qwY {l L:List Nat}:L∈exL n l↔∃i,nxL l<=i/\i<n/\L=l++[i]:=by
 unfold exL;rw[qF9];constructor
 ·rintro ⟨i,hi,e⟩;rw[List.mem_range'] at hi;obtain⟨j,h1,h2⟩:=hi;exact⟨i,by omega,by omega,e.symm⟩
 ·rintro ⟨i,h1,h2,e⟩;exact⟨i,by rw[List.mem_range'];exact⟨i-nxL l,by omega,by omega⟩,e.symm⟩
theorem qkx{n:Nat}:∀{k:Nat} {L:List Nat},L∈lsN n k↔L.length=k/\(∀a,a∈L->a<n)/\L.Pairwise (·<·)
 | 0,L=>by
  unfold lsN;rw[qET];constructor
  ·intro e;subst e;exact⟨rfl,(fun a h=>by cases h),List.Pairwise.nil⟩
  ·intro h;exact qFZ h.1
 | k+1,L=>by
  unfold lsN;rw[qGj];constructor
  ·rintro ⟨l,hl,hL⟩;obtain⟨h1,h2,h3⟩:=qkx.1 hl;obtain⟨i,i1,i2,e⟩:=qwY.1 hL;subst e;refine⟨by rw[qEL,h1];rfl,fun a ha=>?_,List.pairwise_append.2 ⟨h3,List.pairwise_singleton _ _,fun a ha b hb=>?_⟩⟩
   ·rcases qEN.1 ha with q|q
    ·exact h2 a q
    ·rw[qET.1 q];exact i2
   ·rw[qET.1 hb];have:=qC7 h3 a ha;omega
  ·rintro ⟨h1,h2,h3⟩;rcases List.eq_nil_or_concat L with e|⟨l,i,e⟩
   ·subst e;cases h1
   ·rw[List.concat_eq_append] at e;subst e;have hp:=List.pairwise_append.1 h3;refine⟨l,qkx.2 ⟨by rw[qEL] at h1;exact Nat.succ.inj h1,fun a ha=>h2 a (qFf _ ha),hp.1⟩,qwY.2 ⟨i,?_,h2 i (qF7 _ (qET.2 rfl)),rfl⟩⟩;refine qzJ fun a ha=>hp.2.2 a ha i (qET.2 rfl)
theorem qwd (n:Nat)(l:List Nat):(exL n l).length<=n:=by unfold exL;rw[qEA,List.length_range'];omega
theorem qon{α β:Type}(f:α->List β)(n:Nat)(h:∀a,(f a).length<=n):∀l:List α,(l.flatMap f).length<=l.length*n
 | []=>by simp
 | a::l=>by
  rw[List.flatMap_cons,qEL,qF3,Nat.succ_mul];have:=qon f n h l;have:=h a;omega
theorem qxc(n:Nat):∀k,(lsN n k).length<=n^k
 | 0=>by unfold lsN;simp
 | k+1=>by
  unfold lsN;refine qEr (qon _ n (qwd n) _) ?_;rw[qG1];exact qER _ (qxc n k)
def qdx(P:List Nat->Bool)(n:Nat):Nat->Nat->Option (List Nat)
 | _,0=>none
 | k,m+1=>match (lsN n k).find? P with
  | some L=>some L
  | none=>qdx P n (k+1) m
theorem qlx{P:List Nat->Bool}{n:Nat}:∀{m k:Nat} {L:List Nat},qdx P n k m=some L->P L=true/\∃j,k<=j/\j<k+m/\L∈lsN n j
 | 0,k,L,h=>by cases h
 | m+1,k,L,h=>by
  unfold qdx at h;split at h
  ·next L' e=>cases h;exact⟨qFx e,k,qEo _,by omega,qFc e⟩
  ·obtain⟨h1,j,h2,h3,h4⟩:=qlx h;exact⟨h1,j,by omega,by omega,h4⟩
theorem qkA{P:List Nat->Bool}{n:Nat}:∀{m k:Nat},qdx P n k m=none->∀j,k<=j->j<k+m->∀L,L∈lsN n j->P L=false
 | 0,k,_,j,h1,h2,_,_=>by omega
 | m+1,k,h,j,h1,h2,L,hL=>by
  unfold qdx at h;split at h
  ·cases h
  ·next e=>
   by_cases q:j=k
   ·subst q;exact(Bool.not_eq_true _).mp (List.find?_eq_none.1 e L hL)
   ·exact qkA h j (by omega) (by omega) L hL
theorem qy7 {q:Nat}{f:Nat->Nat}(h:Asc q f):((List.range q).map f).Pairwise (·<·):=by rw[List.pairwise_iff_getElem];intro i j hi hj hij;rw[qEA,qF4] at hi hj;rw[List.getElem_map,List.getElem_map,List.getElem_range,List.getElem_range];exact h i j hij hj
theorem qyH {L:List Nat}(h:L.Pairwise (·<·))(d:Nat):Asc L.length (fun j=>L.getD j d):=fun i j hij hj=>by show L.getD i d<L.getD j d;rw[qEn,qEn,qEv hj,qEv (by omega)];exact List.pairwise_iff_getElem.1 h i j (by omega) hj hij
theorem qub {q:Nat}{f:Nat->Nat}{d j:Nat}(h:j<q):((List.range q).map f).getD j d=f j:=by rw[qEn,qEy,qFe h];rfl
theorem qAx {q:Nat}{u:Nat->Rat}{c c':Nat->V3}(h:∀j,j<q->c j=c' j):cen q u c=cen q u c':=by unfold cen;simp only[V3.mk.injEq];refine⟨?_,?_,?_⟩<;>exact qj fun i hi=>by rw[h i hi]
theorem Sup.congr {p:Nat->V3}{q:Nat}{f g:Nat->Nat}{u:Nat->Rat}{s:Rat}(h:Sup n p q f u s)(e:∀j,j<q->f j=g j):Sup n p q g u s:=by
 have ec:∀v:Nat->Rat,(cen q v fun j=>p (g j))=cen q v fun j=>p (f j):=fun v=>qAx fun j hj=>by rw[e j hj]
 refine⟨fun j hj=>by rw[<-e j hj];exact h.lt j hj,fun j k hjk hk=>by rw[<-e j (by omega),<-e k hk];exact h.asc j k hjk hk,fun v h1 h2=>h.ind v h1 (by rw[<-ec];exact h2),h.one,fun j hj=>?_,h.nn,fun i hi=>?_⟩
 ·rw[ec,<-e j hj];exact h.eq j hj
 ·rw[ec];exact h.all i hi
theorem qzu (p:Nat->V3)(hn:0<n)(d:Nat):∃L:List Nat,∃u s,0<L.length/\L.length<=4/\((∀i,i<n->(p i).z=0)->L.length<=3)/\(∀a,a∈L->a<n)/\L.Pairwise (·<·)/\Sup n p L.length (fun j=>L.getD j d) u s:=by
 obtain⟨q,f,u,s,h,hq⟩:=qDp p hn;refine⟨(List.range q).map f,u,s,by rw[qEA,qF4];exact hq,by rw[qEA,qF4];exact qza h.ind,fun hz=>by rw[qEA,qF4];exact qxR h.ind fun j hj=>hz _ (h.lt j hj),fun a ha=>?_,qy7 h.asc,?_⟩
 ·obtain⟨j,hj,e⟩:=qF9.1 ha;rw[<-e];exact h.lt j (qFv.1 hj)
 ·rw[qEA,qF4];exact h.congr fun j hj=>(qub hj).symm
end Go.Eng

namespace Go.Eng
open Go.Shelf Go.RowKit Go.Proofs Go.Sort
variable {P:Program}{gl:List (Nat×AV)}
theorem qiX (w:World)(q:Nat)(os:Array Obj):Below w.heap.size w (grow (w.drewN q) os):=
 ⟨rfl,rfl,rfl,by simp[grow],fun i hi=>by show ((w.drewN q).heap++os)[i]?=_;rw[Array.getElem?_append_left (by show i<w.heap.size;omega)];rfl⟩
theorem qpy (w:World)(e:TypeId)(s:ByteArray):Below w.heap.size w (Lib.bytesWorld w e s):=⟨rfl,rfl,rfl,by rw[Lib.bytesWorld_size];omega,fun k hk=>Lib.bytesWorld_at_old w e s k (by omega)⟩
def qqr:List PV->TR
 | [.s s,.s [c]]=>.leaf (0,[.i (Lib.indexByte s c)])
 | _=>.fail
theorem qqE {ρ:Ren}(L:Lays.n219 P ρ)(he:q99 P (ρ.f 219)) :zb P gl (ρ.f 219) (q9 { args:=[.str,.str],h:=[] } [{ res:=.int .i64,h:=[] }] qqr):=
 qef he rfl fun B X ps j qs vargs hs hg hh ha hk hT=>by
  obtain⟨s,t,rfl⟩:=qoJ hk;unfold qqr at hT;split at hT
  ·rename_i s' c hps;simp only[qFL,PV.s.injEq,and_true] at hps;obtain⟨rfl,rfl⟩:=hps;cases hT;have:=qkI ha;subst this;refine⟨rfl,rfl,rfl,(Any.stringslite_Index_one L ⟨s.toArray⟩ c X.w).mono fun e w' ⟨h1,h2⟩=>?_⟩;subst h2;exact⟨_,h1,Below.refl _ _,.int _ _⟩
  ·cases hT
def qjD:List PV->TR
 | [.s s,.s t]=>.leaf (0,[.i (Lib.compareBytes s t)])
 | _=>.fail
theorem qoc {ρ:Ren}(L:Lays.n106 P ρ)(he:q99 P (ρ.f 106)) :zb P gl (ρ.f 106) (q9 { args:=[.str,.str],h:=[] } [{ res:=.int .i64,h:=[] }] qjD):=
 qef he rfl fun B X ps j qs vargs hs hg hh ha hk hT=>by obtain⟨s,t,rfl⟩:=qoJ hk;cases hT;have:=qkI ha;subst this;refine⟨rfl,rfl,rfl,(Any.strings_Compare L ⟨s.toArray⟩ ⟨t.toArray⟩ X.w).mono fun e w' ⟨h1,h2⟩=>?_⟩;subst h2;exact⟨_,h1,Below.refl _ _,.int _ _⟩
def qxF:List PV->TR
 | [.s s,.s t]=>if s.length<=9223372036854775807/\t.length<4294967281/\t.all (fun b=>decide (b.toNat<128))=true then .leaf (0,[.s (Lib.trimS s t)]) else .fail
 | _=>.fail
theorem quF {ρ:Ren}(L:Lays.n160 P ρ)(he:q99 P (ρ.f 160))(h116:(P.info? (ρ.t 116)).map (fun i=>(i.zero,i.size))=some (some (.agg (Array.replicate 256 (.bool false))),256)) :zb P gl (ρ.f 160) (q9 { args:=[.str,.str],h:=[] } [{ res:=.str,h:=[] }] qxF):=
 qef he rfl fun B X ps j qs vargs hs hg hh ha hk hT=>by
  obtain⟨s,t,rfl⟩:=qoJ hk;simp only[qxF] at hT;split at hT
  ·rename_i hc;cases hT;have:=qkI ha;subst this;refine⟨rfl,rfl,rfl,(Any.strings_Trim_laid L h116 ⟨s.toArray⟩ ⟨t.toArray⟩ X.w (by simpa[ByteArray.size] using hc.1) (by simpa[ByteArray.size] using hc.2.1) (fun j b hj=>?_)).mono fun e w' ⟨h1,h2⟩=>⟨_,h1,h2,.str _⟩⟩;have h3:=hc.2.2;rw[qEU] at h3;simpa using h3 b (qFt hj)
  ·cases hT
def qzM:R:=[Lib.pow10Tab.map U.i]
def qxj:List PV->TR
 | [.i n]=>if -9223372036854775808<=n/\n<=9223372036854775807 then .leaf (0,[.s (Lib.itoa n)]) else .fail
 | _=>.fail
theorem qky {X:Ctx}{g:Nat}{k:IntKind}{zs:List Int}{name:String}(hn:P.globalNamed name=some g)(hz:zs≠[])(h:qzg X (g,.eptr (zs.map fun _=>.int k) [zs.map U.i] 0 0)):Lib.TabIs P X.w name k zs:=by
 obtain⟨h1,h2,h3⟩:=h;simp only at h1 h2 h3;have hcell:∀j (hj:j<zs.length),X.w.cell? ⟨g,j,none⟩=some (.int k zs[j]):=by
  intro j hj;generalize hv:(Value.pointer (some ⟨g,0,none⟩))=vv at h1;cases h1 with
  | eptr _ _ _ _ a hsp h0 hl hr=>
   simp only[Value.pointer.injEq,qEm,Addr.mk.injEq] at hv;obtain⟨v1,v2,_⟩:=hv;obtain⟨hM,v,e1,e2⟩:=hr 0 j (by simpa using hj) (by simp);have ho:a.off=0:=by omega
   have e1':X.w.cell? ⟨g,j,none⟩=some v:=by rw[Nat.zero_mul,qFb,ho,qFs,<-v1] at e1;exact e1
   rw[e1'];have e2':RepU X.w X.M (.int k) (U.i zs[j]) v:=by simpa[zY,qEn,hj] using e2
   cases e2';rfl
 unfold Lib.TabIs World.var?;rw[hn];simp only[qEO];have h0:=hcell 0 (qFS.2 hz);unfold World.cell? at h0;simp only at h0;split at h0
 ·rename_i cs T fr hheap;rw[hheap];simp only;congr 1;have hsz:cs.size<=zs.length:=by
   have h4:X.w.cell? ⟨g,zs.length,none⟩=none:=by simpa[AV.span] using h3
   unfold World.cell? at h4;simp only[hheap] at h4;simpa using h4
  apply Array.ext
  ·simp;rcases qEu cs.size zs.length with hlt|hge
   ·have:=hcell cs.size hlt;unfold World.cell? at this;simp[hheap] at this
   ·omega
  ·intro j hj hj2;have hjz:j<zs.length:=by omega
   have:=hcell j hjz;unfold World.cell? at this;simp only[hheap] at this;simp[hj] at this;simp[this]
 ·cases h0
theorem qts {ρ:Ren}(L:LaysM.n171 P ρ)(he:q99 P (ρ.f 171)){g:Nat}(hn:P.globalNamed "internal/strconv.uint64pow10" = some g)(hg:(g,AV.eptr (Lib.pow10Tab.map fun _=>.int .u64) qzM 0 0)∈gl) :zb P gl (ρ.f 171) (q9 { args:=[.int .i64],h:=[] } [{ res:=.str,h:=[] }] qxj):=
 qef he rfl fun B X ps j qs vargs hs hgl hh ha hk hT=>by
  obtain⟨n,rfl⟩:=qAP hk;simp only[qxj] at hT;split at hT
  ·rename_i hc;cases hT;have:=qsU ha;subst this;refine⟨rfl,rfl,rfl,(Any.strconv_Itoa L n hc.1 hc.2 X.w (qky hn (by decide) (hgl _ hg).2)).mono fun e w' ⟨h1,k,os,h2⟩=>⟨_,h1,?_,.str _⟩⟩;subst h2;exact qiX _ _ _
  ·cases hT
def qx4:List PV->TR
 | [.s s]=>if s.length<=18 then (match Lib.atoi s with|some n=>.leaf (0,[.i n])|none=>.fail) else .fail
 | _=>.fail
theorem quh {ρ:Ren}(L:Lays.n172 P ρ)(he:q99 P (ρ.f 172)) :zb P gl (ρ.f 172) (q9 { args:=[.str],h:=[] } [{ res:=.tuple [.int .i64,.any],h:=[] }] qx4):=
 qef he rfl fun B X ps j qs vargs hs hg hh ha hk hT=>by
  obtain⟨s,rfl⟩:=qBn hk;simp only[qx4] at hT;split at hT
  ·rename_i hc;split at hT
   ·rename_i n hn;cases hT;have:=qsD ha;subst this;refine⟨rfl,rfl,rfl,(Any.strconv_Atoi L ⟨s.toArray⟩ n (by simpa[ByteArray.size] using hc) (by simpa using hn) X.w).mono fun e w' ⟨h1,t,h2⟩=>⟨_,h1,?_,.tuple _ _ (.cons (.int _ _) (.cons (.undef _) .nil))⟩⟩;subst h2;exact qpy _ _ _
   ·cases hT
  ·cases hT
def qvP(s:qEl):List UInt8:=qjo (qg1 [48,48,48,48,48,48,48,48,48] (zp s) 9) s
def qha(w:R):Nat->List UInt8
 | 0=>[]
 | i+1=>qvP (Lib.itoa (cI w i 0))++qha w i
def qwu(b:Bool)(n:Int)(w:R):List UInt8:=if n=0 then [48] else (if b then [45] else [])++Lib.itoa (cI w (n-1) 0)++qha w (n-1).toNat
def qoe(n:Int)(w:R):Bool:=decide (0<=n)&&decide (n<=232)&&(List.range n.toNat).all fun i=>decide (0<=cI w i 0/\cI w i 0<1000000000)
def qws:List PV->TR
 | [.b b,.i n,.r w]=>if qoe n w then .leaf (0,[.s (qwu b n w),.b b,.i n,.r w]) else .fail
 | _=>.fail
end Go.Eng

namespace Go.Proofs
open Go.Shelf
open Tryz
def lays219_ren:Go.Shelf.Ren:=⟨fun|219=>164|217=>201|225=>202|224=>203|267=>204|266=>225|314=>226|n=>n,fun|9=>9|3=>3|4=>4|5=>5|46=>249|146=>263|51=>262|n=>n,fun|1=>0|n=>n⟩
theorem lays219:Go.Proofs.Lays.n219 prog lays219_ren:={
 mixed:=by kernel_rfl
 f217:=func201.trans (congrArg some (by kernel_rfl))
 f219:=func164.trans (congrArg some (by kernel_rfl))
 f224:=func203.trans (congrArg some (by kernel_rfl))
 f225:=func202.trans (congrArg some (by kernel_rfl))
 f266:=func225.trans (congrArg some (by kernel_rfl))
 f267:=func204.trans (congrArg some (by kernel_rfl))
 f314:=func226.trans (congrArg some (by kernel_rfl))
 t3:=underlying3
 a3:=isAgg3
 z3:=sizeOf3
 v3:=zeroValue3
 t4:=underlying4
 a4:=isAgg4
 z4:=sizeOf4
 v4:=zeroValue4
 t5:=underlying5
 a5:=isAgg5
 z5:=sizeOf5
 v5:=zeroValue5
 t9:=underlying9
 a9:=isAgg9
 z9:=sizeOf9
 v9:=zeroValue9
 t46:=underlying249
 a46:=isAgg249
 z46:=sizeOf249
 v46:=zeroValue249
 t51:=underlying262
 a51:=isAgg262
 z51:=sizeOf262
 v51:=zeroValue262
 t146:=underlying263
 a146:=isAgg263
 z146:=sizeOf263
 v146:=zeroValue263
 g1:=by kernel_rfl }
def lays106_ren:Go.Shelf.Ren:=⟨fun|106=>121|213=>165|265=>205|n=>n,fun|9=>9|3=>3|n=>n,fun|n=>n⟩
theorem lays106:Go.Proofs.Lays.n106 prog lays106_ren:={
 mixed:=by kernel_rfl
 f106:=func121.trans (congrArg some (by kernel_rfl))
 f213:=func165.trans (congrArg some (by kernel_rfl))
 f265:=func205.trans (congrArg some (by kernel_rfl))
 t3:=underlying3
 a3:=isAgg3
 z3:=sizeOf3
 v3:=zeroValue3
 t9:=underlying9
 a9:=isAgg9
 z9:=sizeOf9
 v9:=zeroValue9 }
def lays160_ren:Go.Shelf.Ren:=⟨fun|160=>108|232=>145|231=>144|227=>146|234=>148|233=>147|236=>150|235=>149|228=>188|271=>191|151=>190|197=>189|120=>213|152=>212|260=>211|137=>231|119=>232|224=>203|225=>202|217=>201|266=>225|n=>n,fun|9=>9|4=>4|3=>3|5=>5|117=>195|116=>194|0=>0|124=>198|21=>21|105=>239|46=>249|119=>267|139=>270|138=>269|n=>n,fun|3=>1|4=>2|n=>n⟩
theorem lays160:Go.Proofs.Lays.n160 prog lays160_ren:={
 mixed:=by kernel_rfl
 f119:=func232.trans (congrArg some (by kernel_rfl))
 f120:=func213.trans (congrArg some (by kernel_rfl))
 f137:=func231.trans (congrArg some (by kernel_rfl))
 f151:=func190.trans (congrArg some (by kernel_rfl))
 f152:=func212.trans (congrArg some (by kernel_rfl))
 f160:=func108.trans (congrArg some (by kernel_rfl))
 f197:=func189.trans (congrArg some (by kernel_rfl))
 f217:=func201.trans (congrArg some (by kernel_rfl))
 f224:=func203.trans (congrArg some (by kernel_rfl))
 f225:=func202.trans (congrArg some (by kernel_rfl))
 f227:=func146.trans (congrArg some (by kernel_rfl))
 f228:=func188.trans (congrArg some (by kernel_rfl))
 f231:=func144.trans (congrArg some (by kernel_rfl))
 f232:=func145.trans (congrArg some (by kernel_rfl))
 f233:=func147.trans (congrArg some (by kernel_rfl))
 f234:=func148.trans (congrArg some (by kernel_rfl))
 f235:=func149.trans (congrArg some (by kernel_rfl))
 f236:=func150.trans (congrArg some (by kernel_rfl))
 f260:=func211.trans (congrArg some (by kernel_rfl))
 f266:=func225.trans (congrArg some (by kernel_rfl))
 f271:=func191.trans (congrArg some (by kernel_rfl))
 t0:=underlying0
 a0:=isAgg0
 z0:=sizeOf0
 v0:=zeroValue0
 t3:=underlying3
 a3:=isAgg3
 z3:=sizeOf3
 v3:=zeroValue3
 t4:=underlying4
 a4:=isAgg4
 z4:=sizeOf4
 v4:=zeroValue4
 t5:=underlying5
 a5:=isAgg5
 z5:=sizeOf5
 v5:=zeroValue5
 t9:=underlying9
 a9:=isAgg9
 z9:=sizeOf9
 v9:=zeroValue9
 t21:=underlying21
 a21:=isAgg21
 z21:=sizeOf21
 v21:=zeroValue21
 t46:=underlying249
 a46:=isAgg249
 z46:=sizeOf249
 v46:=zeroValue249
 t105:=underlying239
 a105:=isAgg239
 z105:=sizeOf239
 v105:=zeroValue239
 t116:=underlying194
 a116:=isAgg194
 z116:=sizeOf194
 t117:=underlying195
 a117:=isAgg195
 z117:=sizeOf195
 v117:=zeroValue195
 t119:=underlying267
 a119:=isAgg267
 z119:=sizeOf267
 t124:=underlying198
 a124:=isAgg198
 z124:=sizeOf198
 v124:=zeroValue198
 t138:=underlying269
 a138:=isAgg269
 z138:=sizeOf269
 v138:=zeroValue269
 t139:=underlying270
 a139:=isAgg270
 z139:=sizeOf270
 v139:=zeroValue270
 g3:=by kernel_rfl
 g4:=by kernel_rfl }
def lays172_ren:Go.Shelf.Ren:=⟨fun|172=>151|244=>192|245=>193|247=>214|279=>215|280=>216|281=>217|282=>218|287=>233|316=>234|171=>153|205=>235|321=>242|322=>243|243=>194|246=>219|283=>236|284=>237|285=>238|286=>239|129=>245|317=>244|318=>246|319=>247|320=>248|337=>249|338=>250|n=>n,fun|9=>9|3=>3|75=>200|76=>201|4=>4|5=>5|167=>253|37=>123|0=>0|85=>254|2=>2|168=>256|53=>272|175=>273|46=>249|210=>276|127=>244|145=>289|143=>287|21=>21|171=>278|173=>281|212=>291|51=>262|20=>20|213=>292|232=>295|233=>296|80=>212|n=>n,fun|15=>3|16=>4|17=>5|18=>6|19=>7|n=>n⟩
theorem lays172:Go.Proofs.Lays.n172 prog lays172_ren:={
 mixed:=by kernel_rfl
 f129:=func245.trans (congrArg some (by kernel_rfl))
 f171:=func153.trans (congrArg some (by kernel_rfl))
 f172:=func151.trans (congrArg some (by kernel_rfl))
 f205:=func235.trans (congrArg some (by kernel_rfl))
 f243:=func194.trans (congrArg some (by kernel_rfl))
 f244:=func192.trans (congrArg some (by kernel_rfl))
 f245:=func193.trans (congrArg some (by kernel_rfl))
 f246:=func219.trans (congrArg some (by kernel_rfl))
 f247:=func214.trans (congrArg some (by kernel_rfl))
 f279:=func215.trans (congrArg some (by kernel_rfl))
 f280:=func216.trans (congrArg some (by kernel_rfl))
 f281:=func217.trans (congrArg some (by kernel_rfl))
 f282:=func218.trans (congrArg some (by kernel_rfl))
 f283:=func236.trans (congrArg some (by kernel_rfl))
 f284:=func237.trans (congrArg some (by kernel_rfl))
 f285:=func238.trans (congrArg some (by kernel_rfl))
 f286:=func239.trans (congrArg some (by kernel_rfl))
 f287:=func233.trans (congrArg some (by kernel_rfl))
 f316:=func234.trans (congrArg some (by kernel_rfl))
 f317:=func244.trans (congrArg some (by kernel_rfl))
 f318:=func246.trans (congrArg some (by kernel_rfl))
 f319:=func247.trans (congrArg some (by kernel_rfl))
 f320:=func248.trans (congrArg some (by kernel_rfl))
 f321:=func242.trans (congrArg some (by kernel_rfl))
 f322:=func243.trans (congrArg some (by kernel_rfl))
 f337:=func249.trans (congrArg some (by kernel_rfl))
 f338:=func250.trans (congrArg some (by kernel_rfl))
 t0:=underlying0
 a0:=isAgg0
 z0:=sizeOf0
 v0:=zeroValue0
 t2:=underlying2
 a2:=isAgg2
 z2:=sizeOf2
 v2:=zeroValue2
 t3:=underlying3
 a3:=isAgg3
 z3:=sizeOf3
 v3:=zeroValue3
 t4:=underlying4
 a4:=isAgg4
 z4:=sizeOf4
 v4:=zeroValue4
 t5:=underlying5
 a5:=isAgg5
 z5:=sizeOf5
 v5:=zeroValue5
 t9:=underlying9
 a9:=isAgg9
 z9:=sizeOf9
 v9:=zeroValue9
 t20:=underlying20
 a20:=isAgg20
 z20:=sizeOf20
 v20:=zeroValue20
 t21:=underlying21
 a21:=isAgg21
 z21:=sizeOf21
 v21:=zeroValue21
 t37:=underlying123
 a37:=isAgg123
 z37:=sizeOf123
 v37:=zeroValue123
 t46:=underlying249
 a46:=isAgg249
 z46:=sizeOf249
 v46:=zeroValue249
 t51:=underlying262
 a51:=isAgg262
 z51:=sizeOf262
 v51:=zeroValue262
 t53:=underlying272
 a53:=isAgg272
 z53:=sizeOf272
 v53:=zeroValue272
 t75:=underlying200
 a75:=isAgg200
 z75:=sizeOf200
 v75:=zeroValue200
 t76:=underlying201
 a76:=isAgg201
 z76:=sizeOf201
 v76:=zeroValue201
 t85:=underlying254
 a85:=isAgg254
 z85:=sizeOf254
 v85:=zeroValue254
 t127:=underlying244
 a127:=isAgg244
 z127:=sizeOf244
 v127:=zeroValue244
 t143:=underlying287
 a143:=isAgg287
 z143:=sizeOf287
 v143:=zeroValue287
 t145:=underlying289
 a145:=isAgg289
 z145:=sizeOf289
 v145:=zeroValue289
 t167:=underlying253
 a167:=isAgg253
 z167:=sizeOf253
 v167:=zeroValue253
 t168:=underlying256
 a168:=isAgg256
 z168:=sizeOf256
 v168:=zeroValue256
 t171:=underlying278
 a171:=isAgg278
 z171:=sizeOf278
 v171:=zeroValue278
 t173:=underlying281
 a173:=isAgg281
 z173:=sizeOf281
 v173:=zeroValue281
 t175:=underlying273
 a175:=isAgg273
 z175:=sizeOf273
 v175:=zeroValue273
 t210:=underlying276
 a210:=isAgg276
 z210:=sizeOf276
 v210:=zeroValue276
 t212:=underlying291
 a212:=isAgg291
 z212:=sizeOf291
 v212:=zeroValue291
 t213:=underlying292
 a213:=isAgg292
 z213:=sizeOf292
 t232:=underlying295
 a232:=isAgg295
 z232:=sizeOf295
 v232:=zeroValue295
 t233:=underlying296
 a233:=isAgg296
 z233:=sizeOf296
 v233:=zeroValue296
 g15:=by kernel_rfl
 g16:=by kernel_rfl
 g17:=by kernel_rfl
 g18:=by kernel_rfl
 g19:=by kernel_rfl }
def lays169_ren:Go.Shelf.Ren:=⟨fun|169=>159|n=>n,fun|70=>208|9=>9|0=>0|72=>210|37=>123|127=>244|3=>3|5=>5|n=>n,fun|n=>n⟩
theorem lays169:Go.Proofs.Lays.n169 prog lays169_ren:={
 mixed:=by kernel_rfl
 f169:=func159.trans (congrArg some (by kernel_rfl))
 t0:=underlying0
 a0:=isAgg0
 z0:=sizeOf0
 v0:=zeroValue0
 t3:=underlying3
 a3:=isAgg3
 z3:=sizeOf3
 v3:=zeroValue3
 t9:=underlying9
 a9:=isAgg9
 z9:=sizeOf9
 v9:=zeroValue9
 t37:=underlying123
 a37:=isAgg123
 z37:=sizeOf123
 v37:=zeroValue123
 t70:=underlying208
 a70:=isAgg208
 z70:=sizeOf208
 v70:=zeroValue208
 t72:=underlying210
 a72:=isAgg210
 z72:=sizeOf210
 v72:=zeroValue210
 t127:=underlying244
 a127:=isAgg244
 z127:=sizeOf244
 v127:=zeroValue244 }
def laysM171_ren:Go.Shelf.Ren:=⟨fun|171=>153|243=>194|246=>219|283=>236|284=>237|285=>238|286=>239|129=>245|317=>244|318=>246|319=>247|320=>248|337=>249|338=>250|n=>n,fun|3=>3|9=>9|2=>2|4=>4|171=>278|0=>0|53=>272|37=>123|5=>5|173=>281|212=>291|51=>262|20=>20|213=>292|46=>249|232=>295|233=>296|n=>n,fun|17=>5|18=>6|19=>7|n=>n⟩
theorem laysM171:Go.Proofs.LaysM.n171 prog laysM171_ren:={
 mixed:=by kernel_rfl
 f129:=func245.trans (congrArg some (by kernel_rfl))
 f171:=func153.trans (congrArg some (by kernel_rfl))
 f243:=func194.trans (congrArg some (by kernel_rfl))
 f246:=func219.trans (congrArg some (by kernel_rfl))
 f283:=func236.trans (congrArg some (by kernel_rfl))
 f284:=func237.trans (congrArg some (by kernel_rfl))
 f285:=func238.trans (congrArg some (by kernel_rfl))
 f286:=func239.trans (congrArg some (by kernel_rfl))
 f317:=func244.trans (congrArg some (by kernel_rfl))
 f318:=func246.trans (congrArg some (by kernel_rfl))
 f319:=func247.trans (congrArg some (by kernel_rfl))
 f320:=func248.trans (congrArg some (by kernel_rfl))
 f337:=func249.trans (congrArg some (by kernel_rfl))
 f338:=func250.trans (congrArg some (by kernel_rfl))
 t0:=underlying0
 a0:=isAgg0
 z0:=sizeOf0
 v0:=zeroValue0
 t2:=underlying2
 a2:=isAgg2
 z2:=sizeOf2
 v2:=zeroValue2
 t3:=underlying3
 a3:=isAgg3
 z3:=sizeOf3
 v3:=zeroValue3
 t4:=underlying4
 a4:=isAgg4
 z4:=sizeOf4
 v4:=zeroValue4
 t5:=underlying5
 a5:=isAgg5
 z5:=sizeOf5
 v5:=zeroValue5
 t9:=underlying9
 a9:=isAgg9
 z9:=sizeOf9
 v9:=zeroValue9
 t20:=underlying20
 a20:=isAgg20
 z20:=sizeOf20
 v20:=zeroValue20
 t37:=underlying123
 a37:=isAgg123
 z37:=sizeOf123
 v37:=zeroValue123
 t46:=underlying249
 a46:=isAgg249
 z46:=sizeOf249
 v46:=zeroValue249
 t51:=underlying262
 a51:=isAgg262
 z51:=sizeOf262
 v51:=zeroValue262
 t53:=underlying272
 a53:=isAgg272
 z53:=sizeOf272
 v53:=zeroValue272
 t171:=underlying278
 a171:=isAgg278
 z171:=sizeOf278
 v171:=zeroValue278
 t173:=underlying281
 a173:=isAgg281
 z173:=sizeOf281
 v173:=zeroValue281
 t212:=underlying291
 a212:=isAgg291
 z212:=sizeOf291
 v212:=zeroValue291
 t213:=underlying292
 a213:=isAgg292
 z213:=sizeOf292
 t232:=underlying295
 a232:=isAgg295
 z232:=sizeOf295
 v232:=zeroValue295
 t233:=underlying296
 a233:=isAgg296
 z233:=sizeOf296
 v233:=zeroValue296
 g17:=by kernel_rfl
 g18:=by kernel_rfl
 g19:=by kernel_rfl
 i0:=by kernel_rfl
 i2:=by kernel_rfl
 i3:=by kernel_rfl
 i4:=by kernel_rfl
 i5:=by kernel_rfl
 i9:=by kernel_rfl
 i20:=by kernel_rfl
 i37:=by kernel_rfl
 i46:=by kernel_rfl
 i51:=by kernel_rfl
 i53:=by kernel_rfl
 i171:=by kernel_rfl
 i173:=by kernel_rfl
 i212:=by kernel_rfl
 i232:=by kernel_rfl
 i233:=by kernel_rfl
 m17:=by kernel_rfl
 m18:=by kernel_rfl
 m19:=by kernel_rfl }
end Go.Proofs

namespace Go.Eng
open Go.Shelf Go.RowKit Go.Proofs
open Tryz
set_option maxHeartbeats 2000000 in
set_option maxRecDepth 100000 in
theorem qz9(b:Nat)(w:World)(h0:w.cell? ⟨b,0,none⟩=some (.pointer (some ⟨b,0,none⟩))) :Calls prog 196 #[.pointer (some ⟨b,0,none⟩)] w fun e w'=>e=.returned (.tuple #[])/\w'=w:=by
 obtain⟨j,hj,_⟩:=qG2.1 (show (prog.info? 210).map (·.size)=some 2 by kernel_rfl)
 go_enter func196,ntmps196
 go_wp2
 rw[Lib.run_neq_ptr_same w ⟨b,0,none⟩ underlying208 hj]
 go_wp2
 go_end0
 exact⟨rfl,rfl⟩
set_option maxHeartbeats 2000000 in
set_option maxRecDepth 100000 in
theorem qvz(b:Nat)(w:World)(h0:w.cell? ⟨b,0,none⟩=some (.pointer none))(hsh:w.shape? b=some (210,2))(hfz:w.frozen? ⟨b,0,none⟩=false) :Calls prog 196 #[.pointer (some ⟨b,0,none⟩)] w fun e w'=>e=.returned (.tuple #[])/\w'=w.setCell ⟨b,0,none⟩ (.pointer (some ⟨b,0,none⟩)):=by
 obtain⟨j,hj,hjs⟩:=qG2.1 (show (prog.info? 210).map (·.size)=some 2 by kernel_rfl)
 go_enter func196,ntmps196
 go_wp2
 rw[Lib.run_to_unsafe w ⟨b,0,none⟩ underlying208 underlying260 hj (by rw[hjs];decide) hsh (Nat.zero_lt_succ 1)];simp only[Result.andThen];rw[Oper.upon_value]
 go_wp2
 rw[run_callFunc_extern func220 (by kernel_rfl) (by kernel_rfl) (by kernel_rfl) (e:=Extern.AbiNoEscape.same) (by kernel_rfl)];rw[Lib.run_noEscape];simp only[Result.andThen];rw[Oper.upon_value]
 go_wp2
 rw[Lib.run_from_unsafe w ⟨b,0,none⟩ underlying260 underlying208 hj hsh (by kernel_rfl)];simp only[Result.andThen];rw[Oper.upon_value]
 go_wp2
 go_end0
 exact⟨rfl,rfl⟩
abbrev BtB(B b:Nat)(bs:List Value)(w:World):Prop:=Lib.IsBuilder 210 5 B b bs w
set_option maxHeartbeats 2000000 in
set_option maxRecDepth 100000 in
theorem qoV(B b:Nat)(bs:List Value)(w:World)(h:BtB B b bs w) :Calls prog 196 #[.pointer (some ⟨b,0,none⟩)] w fun e w'=>e=.returned (.tuple #[])/\Lib.BuilderAt 210 5 B b (.pointer (some ⟨b,0,none⟩)) bs w'/\Below B w w':=by
 rcases h with h|h
 ·refine(qvz b w h.cell0 h.shape h.frozen0).mono ?_;rintro e w' ⟨rfl,rfl⟩;exact⟨rfl,h.used _,(Below.refl B w).setCell (p:=⟨b,0,none⟩) h.1 _⟩
 ·refine(qz9 b w h.cell0).mono ?_;rintro e w' ⟨rfl,rfl⟩;exact⟨rfl,h,Below.refl B _⟩
set_option maxHeartbeats 2000000 in
set_option maxRecDepth 100000 in
theorem qxY(B b:Nat)(bs:List Value)(c:Int)(w:World)(h:BtB B b bs w)(hlen:bs.length+1<=140737488355328)(hBw:B<=w.heap.size) :Calls prog 157 #[.pointer (some ⟨b,0,none⟩),.int .u8 c] w fun e w'=>e=.returned .nilIface/\BtB B b (bs++[.int .u8 c]) w'/\Below B w w':=by
 obtain⟨i0,hi,hz0,hz1,hz2⟩:=info_parts (show (prog.info? 5).map (fun i=>(i.zero,i.size,i.bytes))=some (some (.int .u8 0),1,1) by kernel_rfl)
 go_enter func157,ntmps157
 go_wp2_with (go_at_call 196;refine(qoV B b bs _ h).mono ?_)
 rintro e w1 ⟨rfl,h1,hb1⟩;obtain⟨hB,v,hbk,hown,hne⟩:=h1;have c0:w1.cell? ⟨b,0,none⟩=some (.pointer (some ⟨b,0,none⟩)):=by rw[Lib.cell_of_heap hbk];rfl
 have c1:w1.cell? ⟨b,1,none⟩=some v:=by rw[Lib.cell_of_heap hbk];rfl
 have hsz1:=hb1.size
 go_wp2_with (at_builtin;refine wpList_append_own _ rfl _ _ 123 rfl B 5 i0 (.int .u8 0) 1 1 underlying123 hi hz0 hz1 hz2 rfl (by decide) _ _ _ rfl (hown.alloc _) ⟨w1.heap.size,0,none⟩ 1 1 [.int .u8 c] rfl rfl ?c1 ?c2 ?c3 ?c4 ?c5 ?_)
 case c1=>
  intro j u hj
  match j,hj with
  | 0,hj=>simp at hj;subst hj;simp[Addr.add]
 case c2=>intro u hu;simp at hu;subst hu;rfl
 case c3=>unfold maxLen;omega
 case c4=>omega
 case c5=>simp;omega
 intro v' w2 hown' hgrow _;have hlt:b<w1.heap.size:=by
  rcases qEu b w1.heap.size with h'|h'
  ·exact h'
  ·simp[Array.getElem?_eq_none h'] at hbk
 have hb2:w2.heap[b]?=some (.cells #[.pointer (some ⟨b,0,none⟩),v] 210 (0,0)):=by rw[hgrow.block b (by simp;omega) (fun e=>hne e.symm),Lib.alloc_old w1 _ b hlt];exact hbk
 have d0:w2.cell? ⟨b,0,none⟩=some (.pointer (some ⟨b,0,none⟩)):=by rw[Lib.cell_of_heap hb2];rfl
 have d1:w2.cell? ⟨b,1,none⟩=some v:=by rw[Lib.cell_of_heap hb2];rfl
 have f1:w2.frozen? ⟨b,1,none⟩=false:=Lib.frozen_of_heap hb2 1;obtain⟨ao,n',cap,rfl⟩:∃ao n' cap,v'=.slice ao n' cap:=by
  rcases hown'.2 with⟨hv,_⟩|⟨g,cap,cur,hv,_⟩
  ·exact⟨_,_,_,hv⟩
  ·exact⟨_,_,_,hv⟩
 go_wp2
 go_ret
 refine⟨rfl,.inr ?_,?_⟩
 ·exact Lib.BuilderAt.put (T:=210) (e:=5) hB hb2 (bs':=bs++[.int .u8 c]) (by simpa using hown') (by decide)
 ·exact((hb1.alloc (by omega) _).grown hgrow (by simp;omega) (fun k hk=>(hown.lt k hk).1)).setCell (p:=⟨b,1,none⟩) hB _
set_option maxHeartbeats 2000000 in
set_option maxRecDepth 100000 in
theorem quX(B b:Nat)(bs:List Value)(s:ByteArray)(w:World)(h:BtB B b bs w)(hlen:bs.length+s.size<=140737488355328)(hBw:B<=w.heap.size) :Calls prog 158 #[.pointer (some ⟨b,0,none⟩),.string s] w fun e w'=>e=.returned (.tuple #[.int .i64 s.size,.nilIface])/\BtB B b (bs++Lib.strCells s) w'/\Below B w w':=by
 obtain⟨i0,hi,hz0,hz1,hz2⟩:=info_parts (show (prog.info? 5).map (fun i=>(i.zero,i.size,i.bytes))=some (some (.int .u8 0),1,1) by kernel_rfl)
 go_enter func158,ntmps158
 go_wp2_with (go_at_call 196;refine(qoV B b bs _ h).mono ?_)
 rintro e w1 ⟨rfl,h1,hb1⟩;obtain⟨hB,v,hbk,hown,hne⟩:=h1;have c0:w1.cell? ⟨b,0,none⟩=some (.pointer (some ⟨b,0,none⟩)):=by rw[Lib.cell_of_heap hbk];rfl
 have c1:w1.cell? ⟨b,1,none⟩=some v:=by rw[Lib.cell_of_heap hbk];rfl
 have hsz1:=hb1.size
 go_wp2_with (at_builtin;refine Lib.wpList_append_own_string _ rfl _ _ 123 9 rfl B 5 i0 underlying123 underlying9 hi hz0 hz1 hz2 _ _ _ rfl hown s rfl ?c3 ?c4 ?c5 ?_)
 case c3=>unfold maxLen;omega
 case c4=>omega
 case c5=>omega
 intro v' w2 hown' hgrow _;have hlt:b<w1.heap.size:=by
  rcases qEu b w1.heap.size with h'|h'
  ·exact h'
  ·simp[Array.getElem?_eq_none h'] at hbk
 have hb2:w2.heap[b]?=some (.cells #[.pointer (some ⟨b,0,none⟩),v] 210 (0,0)):=by rw[hgrow.block b hlt (fun e=>hne e.symm)];exact hbk
 have d0:w2.cell? ⟨b,0,none⟩=some (.pointer (some ⟨b,0,none⟩)):=by rw[Lib.cell_of_heap hb2];rfl
 have d1:w2.cell? ⟨b,1,none⟩=some v:=by rw[Lib.cell_of_heap hb2];rfl
 have f1:w2.frozen? ⟨b,1,none⟩=false:=Lib.frozen_of_heap hb2 1;obtain⟨ao,n',cap,rfl⟩:∃ao n' cap,v'=.slice ao n' cap:=by
  rcases hown'.2 with⟨hv,_⟩|⟨g,cap,cur,hv,_⟩
  ·exact⟨_,_,_,hv⟩
  ·exact⟨_,_,_,hv⟩
 go_wp2
 go_ret2
 refine⟨rfl,.inr ?_,?_⟩
 ·exact Lib.BuilderAt.put (T:=210) (e:=5) hB hb2 (bs':=bs++Lib.strCells s) (by simpa[Lib.strCells_length] using hown') (by decide)
 ·exact(hb1.grown hgrow (by omega) (fun k hk=>(hown.lt k hk).1)).setCell (p:=⟨b,1,none⟩) hB _
theorem qw1:Builder.Extra prog lays169_ren where
 sizeBuilder:=by kernel_rfl
 liesBuilder:=by kernel_rfl
 t5:=underlying5
 a5:=isAgg5
 z5:=sizeOf5
 v5:=zeroValue5
 infoByte:=by kernel_rfl
 cellsByte:=by kernel_rfl
 sizeByte:=by kernel_rfl
 neB5:=by decide
set_option maxHeartbeats 2000000 in
set_option maxRecDepth 100000 in
theorem qtN(B b:Nat)(l:qEl)(w:World)(h:BtB B b (Lib.byteCells l) w)(h0:l≠[]) :Calls prog 159 #[.pointer (some ⟨b,0,none⟩)] w fun e w'=>e=.returned (.string ⟨l.toArray⟩)/\Below B w w':=Any.Builder_String lays169 qw1 B b l w h h0
def qg6(f:Nat->Int):Nat->List UInt8
 | 0=>[]
 | i+1=>qvP (Lib.itoa (f i))++qg6 f i
def qsl(b:Bool)(n:Nat)(f:Nat->Int):List UInt8:=if n=0 then [48] else (if b then [45] else [])++Lib.itoa (f (n-1))++qg6 f (n-1)
theorem qt8 (n:Int)(h:-9223372036854775808<=n/\n<=9223372036854775807)(w:World)(ht:Lib.TabIs prog w "internal/strconv.uint64pow10" .u64 Lib.pow10Tab) :Calls prog 153 #[.int .i64 n] w fun e w'=>e=.returned (.string ⟨(Lib.itoa n).toArray⟩)/\Below w.heap.size w w':=(Any.strconv_Itoa laysM171 n h.1 h.2 w ht).mono fun e w' ⟨h1,k,os,h2⟩=>⟨h1,by subst h2;exact qiX _ _ _⟩
theorem qjY{P:Program}{w w':World}{name:String}{k:IntKind}{zs:List Int}(h:Lib.TabIs P w name k zs)(hb:Below w.heap.size w w'):Lib.TabIs P w' name k zs:=by
 unfold Lib.TabIs World.var? at *;cases hg:P.globalNamed name with
 | none=>rw[hg] at h;cases h
 | some g=>
  rw[hg] at h;simp only[qEO] at h ⊢;by_cases hlt:g<w.heap.size
  ·rw[hb.block g hlt];exact h
  ·rw[Array.getElem?_eq_none (by omega)] at h;cases h
theorem qe0{w w':World}(hb:Below w.heap.size w w'){n:Nat}(hn:n<w.heap.size)(o:Nat):w'.cell? ⟨n,o,none⟩=w.cell? ⟨n,o,none⟩:=qFj (hb.block n hn)
theorem qpS{B b:Nat}{bs:List Value}{w w':World}(h:BtB B b bs w)(hb:Below w.heap.size w w'):BtB B b bs w':=by
 have key:∀p,Lib.BuilderAt 210 5 B b p bs w->Lib.BuilderAt 210 5 B b p bs w':=by
  intro p h;have hlt:=h.lt;obtain⟨hB,v,hbk,⟨hl,hown⟩,hne⟩:=h;refine⟨hB,v,(hb.block b hlt).trans hbk,⟨hl,?_⟩,hne⟩;rcases hown with h|⟨g,cap,cur,h1,h2,h3,h4⟩
  ·exact .inl h
  ·exact .inr ⟨g,cap,cur,h1,h2,(hb.block g (qEs.1 h3).1).trans h3,h4⟩
 exact h.elim (fun x=>.inl (key _ x)) (fun x=>.inr (key _ x))
theorem qz0{B b:Nat}{bs:List Value}{w:World}(h:BtB B b bs w):BtB B b bs w.drew:=h.elim (fun x=>.inl x.drew) (fun x=>.inr x.drew)
theorem qwD:∀(k n:Nat),n<10^(k+1)->(Lib.decDigits n).length<=k+1
 | 0,n,h=>by rw[Lib.decDigits,dif_pos (by omega)];simp
 | k+1,n,h=>by
  rw[Lib.decDigits];split
  ·simp
  ·have:=qwD k (n/10) (by rw[qG1] at h;omega);simp;omega
theorem qyi{pre l:qEl}{k:Nat}(hp:pre.length<=k)(hl:l.length<=9)(hk:k<=100000:=by omega):(Lib.byteCells pre).length+(⟨l.toArray⟩:ByteArray).size<=140737488355328:=by
 rw[Lib.byteCells_length];have:(⟨l.toArray⟩:ByteArray).size=l.length:=by simp[ByteArray.size]
 omega
theorem qsp{x:Int}(h:0<=x/\x<1000000000):(Lib.itoa x).length<=9:=by unfold Lib.itoa;rw[if_neg (by omega)];exact qwD 8 _ (by omega)
theorem qsk{l:qEl}(h:l.length<=9):(qvP l).length=9:=by unfold qvP qjo qg1 zp;simp;omega
theorem qvb{l:qEl}(h:l.length<=9):(⟨#[48,48,48,48,48,48,48,48,48]⟩:ByteArray).extract l.length 9++⟨l.toArray⟩=⟨(qvP l).toArray⟩:=by
 have key:∀k:Nat,k<=9->(⟨#[48,48,48,48,48,48,48,48,48]⟩:ByteArray).extract k 9=⟨(qg1 [48,48,48,48,48,48,48,48,48] (k:Int) 9).toArray⟩:=by
  intro k hk;have:k=0\/k=1\/k=2\/k=3\/k=4\/k=5\/k=6\/k=7\/k=8\/k=9:=by omega
  rcases this with rfl|rfl|rfl|rfl|rfl|rfl|rfl|rfl|rfl|rfl<;>rfl
 rw[key _ h];unfold qvP qjo zp;apply ByteArray.ext;simp
theorem qvl(l:qEl):Lib.strCells ⟨l.toArray⟩=Lib.byteCells l:=rfl
theorem qyh(x:Int):0<(Lib.itoa x).length:=by
 unfold Lib.itoa;split
 ·simp
 ·rw[Lib.decDigits];split<;>simp
set_option maxHeartbeats 4000000 in
set_option maxRecDepth 1000000 in
theorem qzf(n0:Nat)(b:Bool)(n:Nat)(f:Nat->Int)(w:World)(hlt:n0<w.heap.size)(h0:w.cell? ⟨n0,0,none⟩=some (.bool b))(h1:w.cell? ⟨n0,1,none⟩=some (.int .i64 (n:Int)))(hw:∀i,i<232->w.cell? ⟨n0,2+i,none⟩=some (.int .i64 (f i)))(hn:n<=232) (hf:∀i,i<n->0<=f i/\f i<1000000000) (ht:Lib.TabIs prog w "internal/strconv.uint64pow10" .u64 Lib.pow10Tab) :Calls prog 112 #[.pointer (some ⟨n0,0,none⟩)] w fun e w'=>e=.returned (.string ⟨(qsl b n f).toArray⟩)/\Below w.heap.size w w':=by
 rcases qFG n with rfl|hpos
 ·go_enter func112,ntmps112
  go_wp2
  go_ret
  exact⟨rfl,Below.refl _ _⟩
 obtain⟨m,rfl⟩:∃m,n=m+1:=⟨n-1,by omega⟩;have hne:(((m+1:Nat):Int)==0)=false:=by simp;omega
 have w1:IntKind.i64.wrap (((m+1:Nat):Int)-1)=(m:Int):=by unfold IntKind.wrap;simp[IntKind.signed,IntKind.bits];omega
 have w1':IntKind.i64.wrap (m:Int)=(m:Int):=by unfold IntKind.wrap;simp[IntKind.signed,IntKind.bits];omega
 have hi:0<=(m:Int)/\(m:Int)<232:=by omega
 have hwm:=hw m (by omega);have w2:IntKind.i64.wrap (((m+1:Nat):Int)-2)=(m:Int)-1:=by unfold IntKind.wrap;simp[IntKind.signed,IntKind.bits];omega
 have hitm:=qsp (hf m (by omega));cases b
 case' false=>
  go_enter func112,ntmps112
  go_wp2
  have hB0:=Lib.fresh_isBuilder 210 5 w;have hb0:=(Below.refl w.heap.size w).alloc (qEo _) (.cells #[.pointer none,.slice none 0 0] 210);generalize w.alloc (.cells #[.pointer none,.slice none 0 0] 210)=W0 at *;obtain⟨pre,hpre⟩:∃pre:List UInt8,pre=if false=true then [45] else []:=⟨_,rfl⟩
  replace hB0:BtB w.heap.size w.heap.size (Lib.byteCells pre) W0:=by subst hpre;exact hB0
 case' true=>
  go_enter func112,ntmps112
  go_wp2_with (go_at_call 157;refine(qxY w.heap.size w.heap.size [] 45 _ (Lib.fresh_isBuilder 210 5 w) (by simp) (by simp)).mono ?_)
  rintro e W0 ⟨rfl,hB0,hb0⟩;replace hb0:=((Below.refl w.heap.size w).alloc (qEo _) (.cells #[.pointer none,.slice none 0 0] 210)).trans hb0;obtain⟨pre,hpre⟩:∃pre:List UInt8,pre=if true=true then [45] else []:=⟨_,rfl⟩
  replace hB0:BtB w.heap.size w.heap.size (Lib.byteCells pre) W0:=by subst hpre;exact hB0
  go_wp2
 all_goals
  have hp1:pre.length<=1:=by subst hpre;split<;>simp
  have hs0:=hb0.size;have d1:=(qe0 hb0 hlt 1).trans h1;have dm:=(qe0 hb0 hlt (2+m)).trans hwm
  go_region_with (first
   | (go_at_call 153;refine(qt8 (f m) (by have:=hf m (by omega);omega) _ (qjY ht hb0.drew)).mono ?_;rintro e W1 ⟨rfl,b1⟩)
   | (go_at_call 158;refine(quX w.heap.size w.heap.size _ _ _ (qpS (qz0 hB0) b1) (qyi hp1 hitm) (qEr hs0 b1.size)).mono ?_;rintro e W2 ⟨rfl,hB2,b2⟩))
  have b02:Below w.heap.size w W2:=(hb0.drew.trans (b1.mono hs0)).trans b2;have e1:=(qe0 b02 hlt 1).trans h1;replace hB2:BtB w.heap.size w.heap.size (Lib.byteCells (pre++Lib.itoa (f m))) W2:=by rw[Lib.byteCells_append];exact hB2
  go_wp2
  go_loopw [4] (fun vi wr=>∃(k:Nat) (acc:qEl),vi=.int .i64 ((k:Int)-1)/\k<=m/\BtB w.heap.size w.heap.size (Lib.byteCells acc) wr/\Below w.heap.size w wr/\acc++qg6 f k=pre++Lib.itoa (f m)++qg6 f m/\acc.length<=10+9*(m-k)) (fun vi _=>(intOf vi+1).toNat)
  case atStart=>exact⟨m,_,by congr 1<;>omega,qEo _,hB2,b02,rfl,by simp;omega⟩
  case round=>
   obtain⟨k,acc,rfl,hkm,hI,hbw,hacc,hal⟩:=hrel;have hbs:=hbw.size;rcases qFG k with rfl|hk0
   ·go_wp2_with (go_at_call 159;refine(qtN w.heap.size w.heap.size acc _ hI ?hne).mono ?_)
    case hne=>intro h0;subst h0;have:=congrArg List.length hacc;have h9:=qyh (f m);simp[qg6] at this;omega
    rintro e W3 ⟨rfl,b3⟩
    go_wp2
    go_ret
    refine⟨?_,hbw.trans b3⟩;simp only[qg6,qFC] at hacc;rw[hacc,hpre];simp[qsl]
   ·obtain⟨q,rfl⟩:∃q,k=q+1:=⟨k-1,by omega⟩;have x1:(((q+1:Nat):Int)-1)=(q:Int):=by omega
    have x2:(0:Int)<=(q:Int)/\(q:Int)<232:=by omega
    have x3:(q:Int).toNat=q:=qEK q;have dq:=(qe0 hbw hlt (2+q)).trans (hw q (by omega));have hq9:=qsp (hf q (by omega));rw[x1]
    go_wp2_with (go_at_call 153;refine(qt8 (f q) (by have:=hf q (by omega);omega) _ (qjY ht hbw)).mono ?_)
    rintro e W3 ⟨rfl,b3⟩;clear w1 w1' w2 hi hwm hne h1 hf hw ht;have hl9:((⟨(Lib.itoa (f q)).toArray⟩:ByteArray).size:Int)<=9:=by simp[ByteArray.size];omega
    go_wp2_with (go_at_call 158;refine(quX w.heap.size w.heap.size (Lib.byteCells acc) _ _ (qpS hI b3) ?hl (qEr hbs b3.size)).mono ?_)
    case hl=>rw[qvb hq9,Lib.byteCells_length];have:=qsk hq9;simp[ByteArray.size];omega
    rintro e W4 ⟨rfl,hB4,b4⟩;rw[qvb hq9,qvl,<-Lib.byteCells_append] at hB4
    go_wp2
    go_roundw
    case rel=>
     refine⟨q,_,by congr 1<;>omega,by omega,hB4,(hbw.trans (b3.mono hbs)).trans b4,?_,?_⟩
     ·rw[<-hacc];simp[qg6]
     ·have:=qsk hq9;simp;omega
    case measure=>simp[intOf]
theorem qsT(w:R):∀i,qha w i=qg6 (fun i=>cI w i 0) i
 | 0=>rfl
 | i+1=>by unfold qha qg6;rw[qsT w i]
theorem qzd(b:Bool)(n:Nat)(w:R):qwu b (n:Int) w=qsl b n (fun i=>cI w i 0):=by
 unfold qwu qsl;by_cases h:n=0
 ·subst h;rfl
 ·rw[if_neg (by omega),if_neg h,qsT];have e:((n:Int)-1)=((n-1:Nat):Int):=by omega
  rw[e,qEK]
theorem qxt{ps:List PV}(h:ps.map PV.kind=[.b,.i,.r]):∃b n w,ps=[.b b,.i n,.r w]:=by
 match ps,h with
 | [.b b,.i n,.r w],_=>exact⟨b,n,w,rfl⟩
theorem qtY{gl:List (Nat×AV)}(hg:(5,AV.eptr (Lib.pow10Tab.map fun _=>.int .u64) qzM 0 0)∈gl) :zb prog gl 112 (q9 { args:=[.ptr 0 0],h:=[.big [.bool,.int .i64] .i64 232] } [{ res:=.str,h:=[.big [.bool,.int .i64] .i64 232] }] qws):=
 qef (yj func112 (by kernel_rfl) (by kernel_rfl)) rfl fun B X ps j qs vargs hs hgl hh ha hk hT=>by
  obtain⟨b,n,r,rfl⟩:=qxt hk;simp only[qws] at hT;split at hT
  ·rename_i hc;cases hT;unfold qoe at hc;simp only[qED,decide_eq_true_eq,qEU,qFv] at hc;obtain⟨⟨c1,c2⟩,c3⟩:=hc;obtain⟨m,rfl⟩:∃m:Nat,n=(m:Int):=⟨n.toNat,by omega⟩;have hb0:X.h[0]?=some (.big [.bool b,.int .i64 (m:Int)] .i64 232 r):=by rw[hh];rfl
   obtain⟨n0,c,T,vs,hσ,hheap,hrep,hcl,hrl⟩:=hs.blk 0 _ hb0;have hvs:vs=[.bool b,.int .i64 (m:Int)]:=by
    cases hrep with
    | cons h t=>cases h;rw[qsU t]
   subst hvs;have hva:vargs=[.pointer (some ⟨n0,0,none⟩)]:=by
    cases ha with
    | cons h t=>
     cases t;cases h with
     | ptr _ _ n1 hb hσ2=>
      have:n1=n0:=qF6 (hσ2.symm.trans hσ);rw[this]
   subst hva;have hlt:n0<X.w.heap.size:=(qEs.1 hheap).1;have hcell:∀o,X.w.cell? ⟨n0,o,none⟩=c[o]?:=fun o=>by unfold World.cell?;simp only[hheap];rfl
   have g0:X.w.cell? ⟨n0,0,none⟩=some (.bool b):=by rw[hcell,<-qGm,hcl];rfl
   have g1:X.w.cell? ⟨n0,1,none⟩=some (.int .i64 (m:Int)):=by rw[hcell,<-qGm,hcl];rfl
   have gw:∀i,i<232->X.w.cell? ⟨n0,2+i,none⟩=some (.int .i64 (cI r (i:Int) 0)):=fun i hi=>by rw[hcell];exact qob (vs:=[.bool b,.int .i64 (m:Int)]) hcl (by omega)
   refine⟨rfl,rfl,rfl,?_⟩;have hT:=qky (k:=.u64) (zs:=Lib.pow10Tab) (show prog.globalNamed "internal/strconv.uint64pow10" = some 5 by kernel_rfl) (by decide) (hgl _ hg).2;refine(qzf n0 b m (fun i=>cI r (i:Int) 0) X.w hlt g0 g1 gw (by omega) (fun i hi=>c3 i (by omega)) hT).mono fun e w' ⟨k1,k2⟩=>⟨_,k1,k2,?_⟩;rw[<-qzd];exact .str _
  ·cases hT
end Go.Eng

namespace Go.Eng
open Go.Shelf Go.RowKit Go.Lib Go.Proofs
def qsS:FIn:=⟨[(.imm [(.int .i64)])],[]⟩
def qpr(e:TypeId):List FOut:=[⟨(.vec 0),[.vec e [(.int .i64)]],none⟩]
def qvK:List PV->TR
 | [.r x]=>.br (ile (qm x) 17592186044416) (.leaf (0,[.r x])) .fail
 | _=>.fail
theorem qua{args:List AV}{h:List Blk}{ps:List PV}(hp:qsS.take args h=some ps):∃l,(args=[.imm [.int .i64] l]\/(args=[.nils]/\l=[]))/\h=[]/\ps=[.r l]:=by
 unfold FIn.take qsS at hp;obtain⟨x,y,g1,g2,rfl⟩:=kK hp;have hh:h=[]/\y=[]:=by
  cases h with
  | nil=>simp only[BP.takeL] at g2;cases g2;exact⟨rfl,rfl⟩
  | cons b t=>simp only[BP.takeL] at g2;cases g2
 obtain⟨rfl,rfl⟩:=hh;cases args with
 | nil=>simp only[AP.takeL] at g1;cases g1
 | cons a t=>
  simp only[AP.takeL] at g1;obtain⟨x1,x2,q1,q2,rfl⟩:=kK g1;cases t with
  | cons b t=>simp only[AP.takeL] at q2;cases q2
  | nil=>
   simp only[AP.takeL] at q2;cases q2;cases a with
   | imm sh l=>
    simp only[AP.take] at q1;split at q1
    ·rename_i he;cases q1;obtain rfl:=Sh.beqL_eq _ _ he;exact⟨l,.inl rfl,rfl,rfl⟩
    ·cases q1
   | nils=>
    simp only[AP.take] at q1;cases q1;exact⟨[],.inr ⟨rfl,rfl⟩,rfl,rfl⟩
   | _=>exact absurd q1 (by simp[AP.take])
theorem qna(e:TypeId){T:List PV->TR}{x y:R}(h:(T [.r x]).run=some (0,[.r y])){r:AV×List Blk}:(quU (T [.r x]) (qpr e) 0).run=some r↔r=(.vec 0,[.vec e [.int .i64] y]):=by
 have h1:(quU (T [.r x]) (qpr e) 0).run=some ((.vec 0,[.vec e [.int .i64] (gR (T [.r x]) 0)]):AV×List Blk):=rfl;have h2:gR (T [.r x]) 0=y:=by unfold gR pR;rw[h];rfl
 rw[h1,h2];constructor
 ·intro q;cases q;rfl
 ·intro q;rw[q]
theorem qtO{P:Program}{ρ:Ren}(L:SlLaysN.n41 P ρ){gl:List (Nat×AV)}{T:List PV->TR}(h0:zb P gl (ρ.f 41) (q9 qsS (qpr (ρ.t 23)) T))(hT:∀x,0<qm x->qm x<=17592186044416->(T [.r x]).run=some (0,[.r x])):zb P gl (ρ.f 41) (q9 qsS (qpr (ρ.t 23)) qvK):=by
 refine⟨h0.1,fun B X args vargs r hs hen hgl ha hr=>?_⟩;obtain⟨ps,j,qs,h1,h2,h3⟩:=qgv hr;obtain⟨l,hargs,hX,rfl⟩:=qua h1;have h2':Tree.run (Tree.br (ile (qm l) 17592186044416) (.leaf ((0,[PV.r l]):Nat×List PV)) .fail)=some (j,qs):=h2;have g1:ile (qm l) 17592186044416=true:=by
  cases hb:ile (qm l) 17592186044416 with
  | true=>rfl
  | false=>rw[hb] at h2';cases h2'
 have hle:qm l<=17592186044416:=of_decide_eq_true g1;have hrr:=(qna (ρ.t 23) (T:=qvK) (x:=l) (y:=l) (by show Tree.run (.br (ile (qm l) 17592186044416) (.leaf (0,[PV.r l])) .fail)=_;rw[show ile (qm l) 17592186044416=true from g1];rfl)).1 h3;by_cases hpos:0<qm l
 ·refine h0.2 B X _ vargs r hs hen hgl ha ?_;have hrun:=hT l hpos hle;have hok:okR (T [.r l])=true:=by unfold okR;rw[hrun];rfl
  unfold q9;rw[h1];show Tree.run (.br (okR (T [.r l])) (quU (T [.r l]) (qpr (ρ.t 23)) 0) .fail)=_;rw[hok];exact(qna (ρ.t 23) hrun).2 hrr
 ·have hl:l=[]:=qFZ (by unfold qm at hpos;omega);subst hl;subst hrr;have hv:∃v,vargs=[v]/\qb5 X.w X.M [.int .i64] [] v:=by
   rcases hargs with rfl|⟨rfl,_⟩
   ·cases ha with
    | cons hv ht=>
     cases ht;cases hv with
     | imm _ _ v himm=>exact⟨_,rfl,himm⟩
   ·cases ha with
    | cons hv ht=>
     cases ht;cases hv;exact⟨_,rfl,.inl ⟨rfl,rfl⟩⟩
  obtain⟨v,rfl,himm⟩:=hv
  ·rcases himm with⟨rfl,_⟩|⟨a,cap,rfl,_⟩
   ·refine(AnyG.slices_Clone_int_nil L 0 0 X.w).mono fun x w' ⟨e1,e2⟩=>?_;subst e2;have hpw:=PushW.same X;refine⟨.slice none 0 0,X.pushW (.vec (ρ.t 23) [.int .i64] []) none X.w,e1,rfl,?_,by show X.h++_=_;rw[hX];rfl,hs.push hpw (.inl ⟨by simp[Ctx.pushW],rfl⟩),rfl⟩;have e0:(0:Nat)=X.h.length:=by rw[hX];rfl
    show Rep _ (.vec 0) _;rw[e0];exact .vec _ _ _ _ (by simp[Ctx.pushW]) fun sh' m' _=>by unfold qoO;simp[Ctx.pushW,hX]
   ·refine(AnyG.slices_Clone_int_zero L a cap X.w).mono fun x w' ⟨v,e1,e2,e3,e4⟩=>?_;rcases e2.2 with⟨q,_⟩|⟨g,c2,cur,q1,q2,q3,q4,q5,q6,q7⟩
    ·exact absurd q e3
    ·have hpw:PushW X (some g) w':=⟨fun m hm=>e4.block m hm,e4.size,e4.os,e4.tape,e4.output,fun m h=>by cases h;exact q2⟩;have hk:j7 (X.pushW (.vec (ρ.t 23) [.int .i64] []) (some g) w') X.h.length (.vec (ρ.t 23) [.int .i64] []):=
      .inr ⟨g,cur,by simp[Ctx.pushW],q3,fun r j hj hr=>absurd hr (qGg r)⟩
     refine⟨v,X.pushW (.vec (ρ.t 23) [.int .i64] []) (some g) w',e1,rfl,?_,by show X.h++_=_;rw[hX];rfl,hs.push hpw hk,rfl⟩;have e0:(0:Nat)=X.h.length:=by rw[hX];rfl
     show Rep _ (.vec 0) _;rw[e0,q1];exact qkv (l:=[]) (qFO _) q5 q3 (by rw[q6];rfl)
theorem qyN{T:List PV->TR}(h:∀x:R,T [.r x]=.br (ilt 0 (qm x)) (.br (ile ((qm [])+(qm x)) 17592186044416) (.leaf (0,[(.r (yE [] x))])) .fail) .fail)(x:R)(h1:0<qm x)(h2:qm x<=17592186044416) :(T [.r x]).run=some (0,[.r x]):=by have e1:ilt 0 (qm x)=true:=decide_eq_true h1;have e2:ile ((qm [])+(qm x)) 17592186044416=true:=decide_eq_true (by have:qm ([]:R)=0:=rfl;rw[this,Int.zero_add];exact h2);rw[h,e1,e2];rfl
end Go.Eng

namespace Go.Eng
open Go.RowKit
variable {P:Program}{a:Act}{o:Oper}{v:Value}{w:World}{w':World}
theorem qwO {K:Act->World->Prop}{Q:Exit->Act->World->Prop}{E:Prop}(hg:o.guard=none){y:Nat->Option Bool}(h:Oper.wp P o a w K Q) :if Region.wanted o y=true then Oper.wp P o a w K Q else E:=by
 have hw:Region.wanted o y=true:=by simp[Region.wanted,hg]
 rw[if_pos hw];exact h
theorem qkR {ops:Array Oper}{K:Act->World->Prop}{Q:Exit->Act->World->Prop}{E:Prop}(hg:o.guard=none) (s x:Operand) (t:TypeId) (ho:o.op=.call { callee:=.builtin .append,args:=#[s,x],argTypes:=#[t,t] })(base:Nat) (e:TypeId) (i:TypeInfo) (z:Value) (size bytes:Nat) (ht:P.underlying t=some (.slice e)) (hi:P.info? e=some i) (hz:i.zero=some z)(hsize:i.size=size) (hby:i.bytes=bytes) (hzs:z.cells.size=size) (hsz:0<size)(v:Value) (n:Nat) (xs:List Value) (hs:a.eval s=v) (hown:w.ownsRow base e size v n xs)(ad:Addr) (m c:Nat) (news:List Value) (hx:a.eval x=.slice (some ad) m c) (hl:news.length=m*size) (hnews:∀j u,news[j]?=some u->w.cell? (ad.add j)=some u) (h1:∀u∈news,u.oneCell'=true)(h63:n+m<=maxLen) (hbytes:(n+m)*bytes<=140737488355328) (hbase:base<=w.heap.size)(h:∀v' w',w'.ownsRow base e size v' (n+m) (xs++news)->w.grownBy w' v.ownBlock->(v'=.slice none 0 0↔v=.slice none 0 0/\m=0)->K (a.put o.dst v') w') :if Region.wanted o (yielded ops a.tmps)=true then Oper.wp P o a w K Q else E:=by
 have hw:Region.wanted o (yielded ops a.tmps)=true:=by simp[Region.wanted,hg]
 rw[if_pos hw];exact wp_append_own w s x t ho base e i z size bytes ht hi hz hsize hby hzs hsz v n xs hs hown ad m c news hx hl hnews h1 h63 hbytes hbase h
theorem qsf {K:Act->World->Prop}{Q:Exit->Act->World->Prop}(f:FuncId)(caps:Array Value)(hen:q99 P f)(x:Operand)(az:Array Operand)(ts:Array TypeId)(ho:o.op=.call { callee:=.value x,args:=az,argTypes:=ts }) (hx:a.eval x=.func (.func f) #[] caps) (args:Array Value) (has:az.map a.eval++caps=args) {R:Ending->World->Prop} (hc:Calls P f args w R)(h:∀e w',R e w'->∃v,e=.returned v/\K (a.put o.dst v) w'):Oper.wp P o a w K Q:=by
 have hr:(execOp a.eval o).run P w=.ok (.enter f args) w:=by subst has;unfold execOp;simp only[ho,resolve,Deferred.ofValue,invoke,qEq,qEV,qEw,hx,Array.empty_append];exact hen _ _
 unfold Oper.wp;rw[hr,Oper.upon_enter];exact hc.mono fun e w' hR=>by obtain⟨v,rfl,hK⟩:=h e w' hR;exact hK
theorem qvh {ops:Array Oper}{K:Act->World->Prop}{Q:Exit->Act->World->Prop}{E:Prop}(hg:o.guard=none)(f:FuncId)(caps:Array Value)(hen:q99 P f)(x:Operand)(az:Array Operand)(ts:Array TypeId)(ho:o.op=.call { callee:=.value x,args:=az,argTypes:=ts }) (hx:a.eval x=.func (.func f) #[] caps) (args:Array Value) (has:az.map a.eval++caps=args) {R:Ending->World->Prop} (hc:Calls P f args w R)(h:∀e w',R e w'->∃v,e=.returned v/\K (a.put o.dst v) w'):if Region.wanted o (yielded ops a.tmps)=true then Oper.wp P o a w K Q else E:=by
 have hw:Region.wanted o (yielded ops a.tmps)=true:=by simp[Region.wanted,hg]
 rw[if_pos hw];exact qsf f caps hen x az ts ho hx args has hc h
theorem qx6 {ad:Addr}{u:Value}(h:w'.cell? ad=some u):∀(j:Nat) (v:Value),[u][j]?=some v->w'.cell? (ad.add j)=some v:=by
 intro j v hj
 match j,hj with
 | 0,hj=>simp at hj;subst hj;simpa[Addr.add] using h
theorem qnq (w:World)(u:Value)(e:TypeId):(w.alloc (.cells #[u] e)).cell? ⟨w.heap.size,0,none⟩=some u:=by rw[cell_of_row (w.alloc (.cells #[u] e)) w.heap.size 0 #[u] e (0,0) (heap_alloc_new w _)];rfl
theorem q4J {B:Nat}{e:TypeId}{z n:Nat}{xs:List Value}(h:w.ownsRow B e z v n xs):∃ao n' cap,v=.slice ao n' cap:=by
 rcases h.2 with⟨hv,_⟩|⟨g,cap,cur,hv,_⟩
 ·exact⟨_,_,_,hv⟩
 ·exact⟨_,_,_,hv⟩
theorem qs9 {l:List Bs}:∀u∈l.map kq,u.oneCell'=true:=fun u hu=>by obtain⟨x,_,rfl⟩:=qF9.1 hu;rfl
structure MSt (B m q:Nat) (tM tE:TypeId) (w0 w:World) (r c:Nat) (v:Value) (xs:List Bs):Prop where
 bm:B<=m
 st:w.heap[m]?=some (.cells #[qgC r,qgC c,v] tM (0,0))
 res:w.heap[q]?=some (.cells #[qgC 0,qgC 0,.slice none 0 0] tM (0,0))
 mq:m≠q
 own:w.ownsRow B tE 1 v xs.length (xs.map kq)
 ne:tM≠tE
 below:Below B w0 w
section
variable {B m q:Nat} {tM tE:TypeId} {w0 w:World} {r c:Nat} {v:Value} {xs:List Bs}
theorem MSt.lt (h:MSt B m q tM tE w0 w r c v xs):m<w.heap.size:=(qEs.1 h.st).1
theorem MSt.cell (h:MSt B m q tM tE w0 w r c v xs):w.cell? ⟨m,0,none⟩=some (qgC r)/\w.cell? ⟨m,1,none⟩=some (qgC c)/\w.cell? ⟨m,2,none⟩=some v:=by refine⟨?_,?_,?_⟩<;>rw[cell_of_row w m _ _ tM (0,0) h.st]<;>rfl
theorem MSt.cellq (h:MSt B m q tM tE w0 w r c v xs):w.cell? ⟨q,0,none⟩=some (qgC 0)/\w.cell? ⟨q,1,none⟩=some (qgC 0)/\w.cell? ⟨q,2,none⟩=some (.slice none 0 0):=by refine⟨?_,?_,?_⟩<;>rw[cell_of_row w q _ _ tM (0,0) h.res]<;>rfl
theorem MSt.free (h:MSt B m q tM tE w0 w r c v xs)(o:Nat):w.frozen? ⟨m,o,none⟩=false:=frozen_of_row w m o _ tM h.st
theorem MSt.freeq (h:MSt B m q tM tE w0 w r c v xs)(o:Nat):w.frozen? ⟨q,o,none⟩=false:=frozen_of_row w q o _ tM h.res
theorem MSt.grow (h:MSt B m q tM tE w0 w r c v xs)(hb:Below w.heap.size w w')(hB:B<=w.heap.size):MSt B m q tM tE w0 w' r c v xs:=⟨h.bm,by rw[hb.block m h.lt];exact h.st,by rw[hb.block q (qEs.1 h.res).1];exact h.res,h.mq,kW h.own hb,h.ne,h.below.trans (hb.mono hB)⟩
theorem MSt.hB (h:MSt B m q tM tE w0 w r c v xs)(h0:B<=w0.heap.size):B<=w.heap.size:=qEr h0 h.below.size
theorem MSt.keep (h:MSt B m q tM tE w0 w r c v xs)(hg:w.grownBy w' v.ownBlock):w'.heap[m]?=some (.cells #[qgC r,qgC c,v] tM (0,0))/\w'.heap[q]?=some (.cells #[qgC 0,qgC 0,.slice none 0 0] tM (0,0)):=by
 have key:∀(b:Nat) (cs:Array Value),w.heap[b]?=some (Obj.cells cs tM (0,0))->w'.heap[b]?=some (Obj.cells cs tM (0,0)):=fun b cs hb=>by rw[hg.block b (qEs.1 hb).1 (fun hv=>by obtain⟨c2,hc2⟩:=zl h.own hv.symm;exact q8w hb hc2 h.ne rfl)];exact hb
 exact⟨key _ _ h.st,key _ _ h.res⟩
theorem MSt.keepCell (h:MSt B m q tM tE w0 w r c v xs)(hg:w.grownBy w' v.ownBlock):w'.cell? ⟨m,2,none⟩=some v/\w'.frozen? ⟨m,2,none⟩=false:=⟨by rw[cell_of_row w' m _ _ tM (0,0) (h.keep hg).1];rfl,frozen_of_row w' m _ _ tM (h.keep hg).1⟩
theorem MSt.app (h:MSt B m q tM tE w0 w r c v xs){v':Value}{ys:List Bs}(hg:w.grownBy w' v.ownBlock)(hB:B<=w.heap.size)(ho:w'.ownsRow B tE 1 v' ys.length (ys.map kq)) :MSt B m q tM tE w0 (w'.setCell ⟨m,2,none⟩ v') r c v' ys:=by obtain⟨hm,hq⟩:=h.keep hg;refine⟨h.bm,by rw[heap_setCell_same w' m 2 _ tM _ hm];rfl,by rw[heap_setCell_other w' ⟨m,2,none⟩ q _ h.mq.symm];exact hq,h.mq,qC ho (fun hv=>?_) _,h.ne,(h.below.grown hg hB (fun k hk=>(h.own.lt k hk).1)).setCell h.bm v'⟩;obtain⟨c1,hc1⟩:=zl ho hv;exact q8w hm hc1 h.ne rfl
end
theorem MSt.fin {B m q:Nat}{tM tE:TypeId}{w0 w:World}{r c:Nat}{xs:List Bs}(h:MSt B m q tM tE w0 w r c v xs)(hq:B<=q)(x y z:Value) :Below B w0 (((w.setCell ⟨q,0,none⟩ x).setCell ⟨q,1,none⟩ y).setCell ⟨q,2,none⟩ z)/\(((w.setCell ⟨q,0,none⟩ x).setCell ⟨q,1,none⟩ y).setCell ⟨q,2,none⟩ z).ownsRow B tE 1 v xs.length (xs.map kq):=by
 have hn:v.ownBlock≠some q:=fun hv=>by obtain⟨c1,hc1⟩:=zl h.own hv;exact q8w h.res hc1 h.ne rfl
 exact⟨((h.below.setCell hq x).setCell hq y).setCell hq z,qC (qC (qC h.own hn x) hn y) hn z⟩
theorem vZ (w:World)(o:Obj):(w.alloc o).heap.size=w.heap.size+1:=by show (w.heap.push o).size=_;rw[Array.size_push]
theorem qeP (w:World)(o o':Obj):((w.alloc o).alloc o').heap[w.heap.size]?=some o:=by show ((w.alloc o).heap.push o')[w.heap.size]?=_;rw[Array.getElem?_push_lt (by rw[vZ];omega)];have:=heap_alloc_new w o;rw[qG0 (by rw[vZ];omega)] at this;exact this
theorem MSt.start (w:World)(tM tE:TypeId)(hne:tM≠tE)(r c:Nat)(o:Obj)(ho:o=.cells #[qgC 0,qgC 0,.slice none 0 0] tM)(o':Obj)(ho':o'=.cells #[qgC r,qgC c,.slice none 0 0] tM) :MSt w.heap.size (w.heap.size+1) w.heap.size tM tE w ((w.alloc o).alloc o') r c (.slice none 0 0) []:=by
 subst ho;subst ho';have h1:(w.alloc (.cells #[qgC 0,qgC 0,.slice none 0 0] tM)).heap.size=w.heap.size+1:=vZ _ _;refine⟨by omega,?_,?_,by omega,World.ownsRow_nil _ _ _ _,hne,((Below.refl w.heap.size w).alloc (qEo _) _).alloc (by omega) _⟩
 ·rw[<-h1];exact heap_alloc_new _ _
 ·show ((w.alloc _).heap.push _)[w.heap.size]?=_;rw[Array.getElem?_push_lt (by omega)];have:=heap_alloc_new w (.cells #[qgC 0,qgC 0,.slice none 0 0] tM);rw[qG0 (by omega)] at this;exact this
def mkL(F:Nat->Nat->Bs)(c:Nat):Nat->List Bs
 | 0=>[]
 | i+1=>mkL F c i++(List.range c).map (F i)
theorem qde(F:Nat->Nat->Bs)(c:Nat):∀i,(mkL F c i).length=i*c
 | 0=>by simp[mkL]
 | i+1=>by rw[mkL,qEL,qde F c i];simp[qEJ]
theorem qrQ(F:Nat->Nat->Bs)(c:Nat):∀(n i k:Nat),i<n->k<c->(mkL F c n)[i*c+k]?=some (F i k)
 | 0,i,k,h,_=>by omega
 | n+1,i,k,h,hk=>by
  rw[mkL];by_cases hi:i<n
  ·have:i*c+k<n*c:=by have:=qER c (show i+1<=n by omega);rw[qEJ] at this;omega
   rw[qEx (by rw[qde];exact this)];exact qrQ F c n i k hi hk
  ·have:i=n:=by omega
   subst this;rw[qEH (by rw[qde];omega),qde,show i*c+k-i*c=k by omega];simp[hk]
theorem Sch.addRow {B S:Nat}{tS tR tE tI:TypeId}{N C:Nat}{ek K vR vL:Value}{H:List Value}{Z:Mx}{det:Bs}{lead:List Nat}(h:Sch B S tS tR tE tI N C ek K w vR vL H Z det lead){w':World} {vR' hd:Value} {row:List Bs} (hr:w.ownsRow B tE 1 hd C (row.map kq)) (hnew:∀(j:Nat) (a:Value) (b:Nat),H[j]?=some a->a.ownBlock=some b->hd.ownBlock≠some b) (hg:w.grownBy w' vR.ownBlock) (ho:w'.ownsRow B tR 1 vR' (N+1) (H++[hd])) :Sch B S tS tR tE tI (N+1) C ek K (w'.setCell ⟨S,1,none⟩ vR') vR' vL (H++[hd]) (Z++[row]) det lead:=by
 have hrl:row.length=C:=by have:=hr.1;rw[qEA] at this;omega
 have hb:∀b,(∃(cur:Array Value) (e:TypeId),w.heap[b]?=some (Obj.cells cur e (0,0))/\e≠tR)->w'.heap[b]?=w.heap[b]?:=fun b ⟨cur,e,hc,hne⟩=>hg.block b (qEs.1 hc).1 (fun hv=>by obtain⟨c2,hc2⟩:=zl h.outer hv.symm;exact q8w hc hc2 hne rfl);have hS:w'.heap[S]?=some (.cells #[ek,vR,K,vL,kq det] tS (0,0)):=by rw[hb S ⟨_,_,h.st,h.ne.1⟩];exact h.st
 have keep:∀{e:TypeId} {n:Nat} {a:Value} {xs:List Value},e≠tR->tS≠e->w.ownsRow B e 1 a n xs->(w'.setCell ⟨S,1,none⟩ vR').ownsRow B e 1 a n xs:=by
  intro e n a xs hne hSe hr;have h1:w'.ownsRow B e 1 a n xs:=hr.kept hg (by
   cases hv:a.ownBlock with
   | none=>exact .inl rfl
   | some b=>
    right;intro he;obtain⟨c1,hc1⟩:=zl hr hv;obtain⟨c2,hc2⟩:=zl h.outer he.symm;exact q8w hc1 hc2 hne rfl)
  refine qC h1 (fun hv=>?_) _;obtain⟨c1,hc1⟩:=zl h1 hv;exact q8w hS hc1 hSe rfl
 have hl:=h.hlen;have hz:=h.dim.n;have key:∀j a,(H++[hd])[j]?=some a->(j<N/\H[j]?=some a/\(Z++[row])[j]?=Z[j]?)\/(j=N/\a=hd/\(Z++[row])[j]?=some row):=by
  intro j a hj;by_cases hjn:j<N
  ·rw[qEx (by omega)] at hj;exact .inl ⟨hjn,hj,qEx (by omega)⟩
  ·have:j<(H++[hd]).length:=(qFX.1 hj).1;rw[qEL,List.length_singleton] at this;have:j=N:=by omega
   subst this;rw[qEH (by omega),show j-H.length=0 by omega] at hj;simp at hj;exact .inr ⟨rfl,hj.symm,by rw[qEH (by omega),show j-Z.length=0 by omega];rfl⟩
 refine⟨h.bs,by rw[heap_setCell_same w' S 1 _ tS _ hS];rfl,⟨by simp[hz],fun r hr'=>?_⟩,qC ho (fun hv=>?_) _,fun j a r e1 e2=>?_,keep h.ne.2.2.2.2.1.symm h.ne.2.2.1 h.own,fun i j a a' b hij e1 e2 e3=>?_,h.ne⟩
 ·rcases qEN.1 hr' with hr'|hr'
  ·exact h.dim.c r hr'
  ·rw[qET.1 hr'];exact hrl
 ·obtain⟨c1,hc1⟩:=zl ho hv;exact q8w hS hc1 h.ne.1 rfl
 ·rcases key j a e1 with⟨q1,q2,q3⟩|⟨_,q2,q3⟩
  ·rw[q3] at e2;exact keep h.ne.2.2.2.1.symm h.ne.2.1 (h.inner j a r q2 e2)
  ·rw[q3] at e2;cases e2;subst q2;exact keep h.ne.2.2.2.1.symm h.ne.2.1 hr
 ·rcases key i a e1 with⟨q1,q2,_⟩|⟨q1,q2,_⟩
  ·rcases key j a' e2 with⟨p1,p2,_⟩|⟨p1,p2,_⟩
   ·exact h.ap i j a a' b hij q2 p2 e3
   ·subst p2;exact hnew i a b q2 e3
  ·rcases key j a' e2 with⟨p1,p2,_⟩|⟨p1,p2,_⟩
   ·subst q2;intro hb';exact hnew j a' b p2 hb' e3
   ·omega
theorem q3u {B B':Nat}{e:TypeId}{z n:Nat}{xs:List Value}(h:w.ownsRow B e z v n xs)(hB:B'<=B):w.ownsRow B' e z v n xs:=by
 refine⟨h.1,?_⟩;rcases h.2 with h|⟨g,c,cur,a1,a2,a3⟩
 ·exact .inl h
 ·exact .inr ⟨g,c,cur,a1,by omega,a3⟩
theorem Sch.start {B S:Nat}{tS tR tE tI:TypeId}{C:Nat}{ek K:Value}{det:Bs}(bs:B<=S)(st:w.heap[S]?=some (.cells #[ek,.slice none 0 0,K,.slice none 0 0,kq det] tS (0,0)))(ne:tS≠tR/\tS≠tE/\tS≠tI/\tR≠tE/\tR≠tI/\tE≠tI):Sch B S tS tR tE tI 0 C ek K w (.slice none 0 0) (.slice none 0 0) [] [] det []:=⟨bs,st,⟨rfl,fun r hr=>(by cases hr)⟩,World.ownsRow_nil _ _ _ _,fun j h r e1 _=>(by simp at e1),World.ownsRow_nil _ _ _ _,fun i j h h' b _ e1 _ _=>(by simp at e1),ne⟩
theorem Sch.heads {B S:Nat}{tS tR tE tI:TypeId}{N C:Nat}{ek K vR vL:Value}{H:List Value}{Z:Mx}{det:Bs}{lead:List Nat}(h:Sch B S tS tR tE tI N C ek K w vR vL H Z det lead){w':World} {e:TypeId} {z n:Nat} {hd:Value} {xs:List Value} (ho:w'.ownsRow w.heap.size e z hd n xs):∀(j:Nat) (a:Value) (b:Nat),H[j]?=some a->a.ownBlock=some b->hd.ownBlock≠some b:=by
 intro j a b hj ha hb;have hjN:j<N:=by have:=(qFX.1 hj).1;rw[h.hlen] at this;exact this
 obtain⟨hd',r,e1,_,e3⟩:=h.hrow hjN;rw[hj] at e1;cases e1;have:=e3.lt b ha;have:=ho.lt b hb;omega
theorem qsm {w w':World}{B:Nat}{t tR:TypeId}{z n b:Nat}{xs:List Value}{cs:Array Value}(ho:w.ownsRow B tR z v n xs)(hb:w.heap[b]?=some (.cells cs t (0,0)))(hne:t≠tR)(hg:w.grownBy w' v.ownBlock):w'.heap[b]?=some (.cells cs t (0,0)):=by rw[hg.block b (qEs.1 hb).1 (fun hv=>by obtain⟨c2,hc2⟩:=zl ho hv.symm;exact q8w hb hc2 hne rfl)];exact hb
theorem q4v {b:Nat}{x y z:Value}{t:TypeId}(h:w.heap[b]?=some (.cells #[x,y,z] t (0,0))):w.cell? ⟨b,0,none⟩=some x/\w.cell? ⟨b,1,none⟩=some y/\w.cell? ⟨b,2,none⟩=some z:=by refine⟨?_,?_,?_⟩<;>rw[cell_of_row w b _ _ t (0,0) h]<;>rfl
theorem Sch.rowCell {B S:Nat}{tS tR tE tI:TypeId}{N C:Nat}{ek K vR vL:Value}{H:List Value}{Z:Mx}{det:Bs}{lead:List Nat}(h:Sch B S tS tR tE tI N C ek K w vR vL H Z det lead)(hg:w.grownBy w' vR.ownBlock) :w'.cell? ⟨S,1,none⟩=some vR/\w'.frozen? ⟨S,1,none⟩=false:=by have hS:=qsm h.outer h.st h.ne.1 hg;exact⟨by rw[cell_of_row w' S 1 _ tS (0,0) hS];rfl,frozen_of_row w' S 1 _ tS hS⟩
end Go.Eng

namespace Go.Eng
open Go.RowKit Go.Proofs
open Tryz
theorem qgx{n:Int}(h:-9223372036854775808<=n/\n<=9223372036854775807):wrap64 n=n:=by unfold wrap64;omega
set_option maxHeartbeats 2000000 in
set_option maxRecDepth 100000 in
theorem qDU(i k:Nat)(_:i<=1000)(hk:k<=1000)(w:World) :Calls prog 207 #[.int .i64 i,.int .i64 k] w fun e w'=>e=.returned (kq (if i=k then [49] else [48]))/\w'=w:=by
 have hs:kq (if i=k then [49] else [48])=if i=k then .string ⟨#[49]⟩ else .string ⟨#[48]⟩:=by split<;>rfl
 rw[hs]
 go_enter func207,ntmps207
 by_cases h:i=k
 ·subst h
  go_wp2
  go_ret
  exact⟨rfl,rfl⟩
 ·have hb:((i:Int)==(k:Int))=false:=by simp;omega
  go_wp2
  go_ret
  exact⟨rfl,rfl⟩
set_option maxHeartbeats 2000000 in
set_option maxRecDepth 100000 in
theorem qDN(b5 b1 g L cap i n:Nat)(w:World)(h5:w.cell? ⟨b5,2,none⟩=some (.slice (some ⟨g,0,none⟩) L cap))(h1:w.cell? ⟨b1,0,none⟩=some (qgC n))(hi:i<=1000)(hn:0<n)(hn2:n<=1000)(hL:(i+1)*n<=L)(hc:L<=cap) :Calls prog 176 #[.int .i64 i,.pointer (some ⟨b5,0,none⟩),.pointer (some ⟨b1,0,none⟩)] w fun e w'=>e=.returned (.slice (some ⟨g,i*n,none⟩) n (cap-i*n))/\w'=w:=by
 unfold qgC at h1;obtain⟨lo,hlo⟩:∃lo,lo=i*n:=⟨_,rfl⟩;have hm:i*n<=1000*1000:=qFi hi hn2;have hhi:(i+1)*n=lo+n:=by rw[hlo,qEJ,qG6]
 have e1:wrap64 ((i:Int)*(n:Int))=(lo:Int):=by rw[hlo,qgx (by rw[<-qFT];omega)];simp
 have e2:wrap64 (((i:Int)+1)*(n:Int))=((lo+n:Nat):Int):=by
  have:((i:Int)+1)*(n:Int)=((lo+n:Nat):Int):=by rw[<-hhi];simp
  rw[this,qgx (by omega)]
 rw[hhi] at hL;rw[<-hlo];have g1:¬cap=lo:=by omega
 clear hm hhi hlo
 go_enter func176,ntmps176
 go_wp2
 go_ret
 rw[Nat.add_sub_cancel_left];exact⟨rfl,rfl⟩
set_option maxHeartbeats 4000000 in
set_option maxRecDepth 1000000 in
theorem qxr(g:Nat)(hen:q99 prog g)(caps:Array Value)(r c:Nat)(hr:r<=16)(hc:c<=16)(F:Nat->Nat->Bs)(w:World)(hF:∀i k w',i<r->k<c->Below w.heap.size w w'->Calls prog g (#[.int .i64 i,.int .i64 k]++caps) w' fun e w''=>e=.returned (kq (F i k))/\Below w'.heap.size w' w'') :Calls prog 171 #[.int .i64 r,.int .i64 c,.func (.func g) #[] caps] w fun e w'=>∃v,e=.returned (.agg #[.int .i64 r,.int .i64 c,v])/\Below w.heap.size w w'/\w'.ownsRow w.heap.size 30 1 v (r*c) ((mkL F c r).map kq):=by
 obtain⟨i0,hi,hz0,hz1,hz2⟩:=info_parts (show (prog.info? 30).map (fun i=>(i.zero,i.size,i.bytes))=some (some (.string ⟨#[]⟩),1,16) by kernel_rfl);obtain⟨B,hB⟩:∃B,B=w.heap.size:=⟨_,rfl⟩;have HF:=Lib.hid hF;clear hF
 go_enter func171,ntmps171
 go_wp2
 go_loopg [14] r (fun g i wr=>∃(ii:Nat) (v:Value),ii<=r/\g=r-ii/\i=.int .i64 ii/\MSt w.heap.size (w.heap.size+1) w.heap.size 174 30 w wr r c v (mkL F c ii))
 case atStart=>exact⟨0,.slice none 0 0,by omega,by omega,rfl,MSt.start w 174 30 (by decide) r c _ rfl _ rfl⟩
 case round=>
  obtain⟨ii,v,hii,rfl,rfl,hM⟩:=hrel;by_cases hlt:ii<r
  ·have HM:=Lib.hid hM;clear hM
   go_wp2
   go_loopg [18] c (fun g k wx=>∃(kk:Nat) (v:Value),kk<=c/\g=c-kk/\k=.int .i64 kk/\MSt w.heap.size (w.heap.size+1) w.heap.size 174 30 w wx r c v (mkL F c ii++(List.range kk).map (F ii)))
   case atStart=>exact⟨0,v,by omega,rfl,rfl,by simpa using HM.out⟩
   case round=>
    clear HM;obtain⟨kk,v,hkk,rfl,rfl,hM⟩:=hrel;have HM:=Lib.hid hM;by_cases hk:kk<c
    ·have c2:=hM.cell.2.2;have hW:Below w.heap.size w wr.drew:=hM.below.drew;have key:=Lib.hid (HF.out ii kk wr.drew hlt hk hW);have own:=Lib.hid hM.own;have hsz:w.heap.size<=wr.heap.size:=hM.below.size;have hl:(mkL F c ii++(List.range kk).map (F ii)).length<=1000:=by rw[qEL,qde,qEA,qF4];have:=qFi (show ii<=16 by omega) hc;omega
     have key2:=key.out;unfold kq at key2;clear hM HF
     go_wp2_with fail
     go_region_law (first
      | (refine qvh rfl g caps hen (.tmp 23) #[.tmp 24,.tmp 25] #[3,3] rfl (by simp[Act.eval,Act.put]) (#[.int .i64 ii,.int .i64 kk]++caps) (by simp[Act.eval,Act.put]) (by exact key2) ?_;rintro e w2 ⟨rfl,hb2⟩;have B2:Below wr.heap.size wr w2:=(Below.refl _ wr).drew.trans hb2;have BA:Below wr.heap.size wr (w2.alloc (.cells #[.string ⟨(F ii kk).toArray⟩] 30)):=B2.alloc B2.size _;have k1:=(HM.out.grow B2 hsz).cell.2.2;have k2:=(HM.out.grow BA hsz).cell.2.2;refine⟨_,rfl,?_⟩)
      | (refine qkR rfl (.tmp 22) (.tmp 27) 68 rfl w.heap.size 30 i0 (.string ⟨#[]⟩) 1 16 underlying68 hi hz0 hz1 hz2 rfl (by decide) v _ _ (by simp[Act.eval]) (kW own.out BA) ⟨w2.heap.size,0,none⟩ 1 1 [.string ⟨(F ii kk).toArray⟩] (by simp[Act.eval]) rfl (qx6 (qnq w2 _ _)) (fun u hu=>by rw[qET.1 hu];rfl) (by unfold maxLen;omega) (by omega) (qEr hsz BA.size) ?_;intro v' w3 hown' hgrow _;obtain⟨ao,n',cap',rfl⟩:=q4J hown';obtain⟨k3,k4⟩:=(HM.out.grow BA hsz).keepCell hgrow))
     all_goals
      have MA:=Lib.hid ((HM.out.grow BA hsz).app (ys:=mkL F c ii++(List.range (kk+1)).map (F ii)) hgrow (qEr hsz BA.size) (by rw[qFU,qEX,<-qF0,qEL,qEX];exact hown'));clear k1 k2 k3 k4 c2 hown' hgrow key2
      go_wp2
      go_roundg (c-(kk+1))
      case measure=>go_light;omega
      case rel=>
       go_light
       exact⟨kk+1,_,by omega,rfl,by go_num,MA.out⟩
    ·have hkE:kk=c:=by omega
     subst kk;clear hM
     go_wp2
     go_roundg (r-(ii+1))
     case measure=>go_light;omega
     case rel=>
      go_light
      exact⟨ii+1,v,by omega,rfl,by go_num,HM.out⟩
  ·have hiE:ii=r:=by omega
   subst ii;obtain⟨ao,n',cap',rfl⟩:=q4J hM.own;have c1:=hM.cell;have c2:=hM.cellq;have f20:=hM.freeq 0;have f21:=hM.freeq 1;have f22:=hM.freeq 2;have HM:=Lib.hid hM;clear hM;unfold qgC at c1 c2;obtain⟨c11,c12,c13⟩:=c1;obtain⟨c21,c22,c23⟩:=c2
   go_wp2
   refine bodyPost_ret (by simp[results,results171,go_sem, *];try rfl) rfl ?_;obtain⟨q1,q2⟩:=HM.out.fin (qEo _) (.int .i64 r) (.int .i64 c) (.slice ao n' cap');rw[qde] at q2;exact⟨_,rfl,q1,q2⟩
end Go.Eng

namespace Go.Eng
open Go.RowKit Go.Proofs
open Tryz
set_option maxHeartbeats 2000000 in
set_option maxRecDepth 100000 in
theorem qyP(ab ao n c:Nat)(hn:0<n)(hn2:n<=1000)(row:List Bs)(hl:row.length=n)(w:World)(hc:∀(j:Nat) x,row[j]?=some x->w.cell? ⟨ab,ao+j,none⟩=some (kq x)) :Calls prog 228 #[.slice (some ⟨ab,ao,none⟩) n c] w fun e w'=>∃v,e=.returned v/\w'.ownsRow w.heap.size 30 1 v n (row.map kq)/\Below w.heap.size w w':=by
 obtain⟨i0,hi,hz0,hz1,hz2⟩:=info_parts (show (prog.info? 30).map (fun i=>(i.zero,i.size,i.bytes))=some (some (.string ⟨#[]⟩),1,16) by kernel_rfl);have hnil:=Lib.run_eql_slice_nil (P:=prog)
 go_enter func228,ntmps228
 have hnews:∀(j:Nat) (u:Value),(row.map kq)[j]?=some u->(w.alloc (.cells #[] 30)).cell? ((⟨ab,ao,none⟩:Addr).add j)=some u:=fun j u hu=>by
  rw[qEy] at hu;obtain⟨x,hx,rfl⟩:=qG2.1 hu;have h1:=hc j x hx;have h2:(⟨ab,ao,none⟩:Addr).add j=⟨ab,ao+j,none⟩:=by
   unfold Addr.add;split
   ·rename_i h;subst h;rfl
   ·rfl
  rw[h2,World.cell?_alloc_lt _ _ _ (qFm w _ h1)];exact h1
 clear hc
 go_wp2_with (at_builtin;refine wpList_append_own _ rfl _ _ 68 rfl w.heap.size 30 i0 (.string ⟨#[]⟩) 1 16 underlying68 hi hz0 hz1 hz2 rfl (by decide) _ 0 [] rfl (World.ownsRow_made w #[] 0 (qEo _) (by decide) rfl) ⟨ab,ao,none⟩ n c (row.map kq) rfl (by rw[qEA,hl,qFY]) hnews qs9 (by unfold maxLen;omega) (by omega) (by rw[vZ];omega) ?_)
 intro v' w2 hown' hgrow _;obtain⟨ao',n',cap',rfl⟩:=q4J hown'
 go_wp2
 go_ret
 refine⟨_,rfl,hown',((Below.refl w.heap.size w).alloc (qEo _) (.cells #[] 30)).grown hgrow (by rw[vZ];omega) (fun k hk=>?_)⟩;cases hk;exact qEo _
theorem qBu(i n:Nat)(hi:i<=1000)(hn:n<=1000):wrap64 ((i:Int)*(n:Int))=((i*n:Nat):Int):=by have:=qFi hi hn;rw[<-qFT];exact qgx ⟨by omega,by omega⟩
theorem qB4(i n:Nat)(hi:i<=1000)(hn:n<=1000):wrap64 (((i:Int)+1)*(n:Int))=((i*n+n:Nat):Int):=by
 have:=qFi hi hn;have h:((i:Int)+1)*(n:Int)=((i*n+n:Nat):Int):=by rw[Int.add_mul,qF1,<-qFT,<-Int.natCast_add]
 rw[h];exact qgx ⟨by omega,by omega⟩
def row0(F G:Nat->Nat->Bs)(n i:Nat):List Bs:=(List.range n).map (F i)++(List.range n).map (G i)
def qE2(B S b2 n:Nat)(vs:Value)(F G:Nat->Nat->Bs)(w0 w:World)(ii:Nat):Prop:=∃vR H,Sch B S 227 68 30 3 ii (2*n) (.int .i64 0) (.int .i64 n) w vR (.slice none 0 0) H ((List.range ii).map (row0 F G n)) [49] []/\Below B w0 w /\
 w.heap[b2]?=some (.cells #[.int .i64 n,.int .i64 n,vs] 174 (0,0))
set_option maxHeartbeats 4000000 in
set_option maxRecDepth 1000000 in
theorem qyr(n:Nat)(hn:n<=16)(F G:Nat->Nat->Bs)(vs:Value)(b5 b1:Nat)(w:World)(hv:0<n->∃ab ao cap,vs=.slice (some ⟨ab,ao,none⟩) (n*n) cap/\n*n<=cap/\∀i k,i<n->k<n->w.cell? ⟨ab,ao+(i*n+k),none⟩=some (kq (F i k)))(ho:0<n->∃g cap,w.cell? ⟨b5,2,none⟩=some (.slice (some ⟨g,0,none⟩) (n*n) cap)/\n*n<=cap/\∀i k,i<n->k<n->w.cell? ⟨g,i*n+k,none⟩=some (kq (G i k)))(h1:w.cell? ⟨b1,0,none⟩=some (qgC n)) :Calls prog 208 #[.agg #[.int .i64 n,.int .i64 n,vs],.func (.func 176) #[] #[.pointer (some ⟨b5,0,none⟩),.pointer (some ⟨b1,0,none⟩)]] w fun e w' => e=.returned (.pointer (some ⟨w.heap.size+1,0,none⟩))/\qE2 w.heap.size (w.heap.size+1) w.heap.size n vs F G w w' n:=by
  obtain⟨i0,hi,hz0,hz1,hz2⟩:=info_parts (show (prog.info? 30).map (fun i=>(i.zero,i.size,i.bytes))=some (some (.string ⟨#[]⟩),1,16) by kernel_rfl);obtain⟨i1,hi',hy0,hy1,hy2⟩:=info_parts (show (prog.info? 68).map (fun i=>(i.zero,i.size,i.bytes))=some (some (.slice none 0 0),1,24) by kernel_rfl);have HV:=Lib.hid hv;have HO:=Lib.hid ho;clear hv ho
  go_enter func208,ntmps208
  go_wp2
  go_loopg [14] n (fun g i wr=>∃ii:Nat,ii<=n/\g=n-ii/\i=.int .i64 ii/\qE2 w.heap.size (w.heap.size+1) w.heap.size n vs F G w wr ii)
  case atStart =>
    refine⟨0,by omega,by omega,rfl,.slice none 0 0,[],?_,?_,?_⟩
    · refine Sch.start (by omega) ?_ (by decide)
      rw[<-vZ w (.cells #[.int .i64 n,.int .i64 n,vs] 174)];exact heap_alloc_new _ _
    · exact((Below.refl w.heap.size w).alloc (qEo _) _).alloc (by rw[vZ];omega) _
    · exact qeP w _ _
  case round =>
    obtain⟨ii,hii,rfl,rfl,hI⟩:=hrel;by_cases hlt:ii<n
    · obtain⟨vR,H,hS,hB,h2⟩:=hI
      obtain⟨ab,ao,cap,rfl,hcap,hcell⟩:=HV.out (by omega);obtain⟨lo,hlo⟩:∃lo,lo=ii*n:=⟨_,rfl⟩;have hm:ii*n<=16*16:=qFi (by omega) hn;have hhi:(ii+1)*n=lo+n:=by rw[hlo,qEJ,qG6]
      have hle:lo+n<=n*n:=by rw[<-hhi];exact qER n hlt
      have g1:¬cap=lo:=by omega
      have g2:lo+n<=cap:=by omega
      have q1:ii<=1000:=by omega
      have q2:n<=1000:=by omega
      clear hm hhi hle;have e1:True->wrap64 ((ii:Int)*(n:Int))=(lo:Int):=fun _=>by rw[hlo];exact qBu ii n q1 q2
      have e2:True->wrap64 (((ii:Int)+1)*(n:Int))=((lo+n:Nat):Int):=fun _=>by rw[hlo];exact qB4 ii n q1 q2
      have HLO:=Lib.hid hlo;clear hlo;have c2:=q4v h2;obtain⟨c20,c21,c22⟩:=c2;have keyC:=qyP ab (ao+lo) n (cap-lo) (by omega) q2 ((List.range n).map (F ii)) (by simp) wr (fun j x hx=>by
        rw[qEy] at hx;obtain⟨y,hy,rfl⟩:=qG2.1 hx;have hjn:j<n:=by have:=(qFX.1 hy).1;simpa using this
        rw[qFe hjn] at hy;cases hy;rw[qFV,HLO.out,hB.cell (p:=⟨ab,ao+(ii*n+j),none⟩) (qFm w _ (hcell ii j hlt hjn))];exact hcell ii j hlt hjn)
      obtain⟨g,capo,ho5,hcapo,hoc⟩:=HO.out (by omega);have keyI:=Lib.hid fun (W:World) (hW:Below w.heap.size w W)=>qDN b5 b1 g (n*n) capo ii n W (by rw[hW.cell (qFm w _ ho5)];exact ho5) (by rw[hW.cell (qFm w _ h1)];exact h1) q1 (by omega) q2 (qER n hlt) hcapo;have HC:=Lib.hid hoc;have HH:=Lib.hid (And.intro hS (And.intro hB h2));clear hcell hoc ho5 hcapo hcap hS hB h2
      go_wp2_with (go_at_call 228;refine keyC.mono ?_;rintro e w1 ⟨v1,rfl,hv1,hb1⟩;obtain⟨a1,n1,cap1,rfl⟩:=q4J hv1)
      clear keyC e1 e2 g1 g2 c20 c21 c22;have hsz:=HH.out.2.1.size;have B1:Below wr.heap.size wr w1.drew:=hb1.drew;have k1:=(HH.out.1.grow B1).cell.2.1;have BW:Below w.heap.size w w1.drew:=HH.out.2.1.trans (B1.mono hsz);have key2:=keyI.out w1.drew BW;have own1:=Lib.hid (kW hv1 (Below.refl _ w1).drew);have LT1:=Lib.hid hv1;have NEW:∀(j:Nat) (u:Value),(((List.range n).map (G ii)).map kq)[j]?=some u->w1.drew.cell? ((⟨g,ii*n,none⟩:Addr).add j)=some u:=fun j u hu=>by
        rw[qEy] at hu;obtain⟨x,hx,rfl⟩:=qG2.1 hu;rw[qEy] at hx;obtain⟨y,hy,rfl⟩:=qG2.1 hx;have hjn:j<n:=by have:=(qFX.1 hy).1;simpa using this
        rw[qFe hjn] at hy;cases hy;have h2:(⟨g,ii*n,none⟩:Addr).add j=⟨g,ii*n+j,none⟩:=by
          unfold Addr.add;split
          · rename_i h;subst h;rfl
          · rfl
        have h3:=HC.out ii j hlt hjn;rw[h2,BW.cell (qFm w _ h3)];exact h3
      clear hv1;have henI:q99 prog 176:=yj func176 (by kernel_rfl) (by kernel_rfl);have stepI:∀(o:Oper) (a:Act) (K:Act->World->Prop) (Q:Exit->Act->World->Prop),o.op=.call { callee:=.value (.tmp 36),args:=#[.tmp 37],argTypes:=#[3] } ->
          a.eval (.tmp 36)=.func (.func 176) #[] #[.pointer (some ⟨b5,0,none⟩),.pointer (some ⟨b1,0,none⟩)]->a.eval (.tmp 37)=.int .i64 ii->K (a.put o.dst (.slice (some ⟨g,ii*n,none⟩) n (capo-ii*n))) w1.drew->Oper.wp prog o a w1.drew K Q :=
        fun o a K Q q1 q2 q3 q4=>qsf 176 _ henI (.tmp 36) _ _ q1 q2 (#[.int .i64 ii,.pointer (some ⟨b5,0,none⟩),.pointer (some ⟨b1,0,none⟩)]) (by simp[q3]) key2 (fun e w' h=>⟨_,h.1,by rw[h.2];exact q4⟩)
      have stepA:∀(o:Oper) (a:Act) (K:Act->World->Prop) (Q:Exit->Act->World->Prop),o.op=.call { callee:=.builtin .append,args:=#[.tmp 35,.tmp 38],argTypes:=#[68,68] } ->
          a.eval (.tmp 35)=.slice a1 n1 cap1->a.eval (.tmp 38)=.slice (some ⟨g,ii*n,none⟩) n (capo-ii*n) ->
          (∀a2 n2 cap2 w2,w2.ownsRow wr.heap.size 30 1 (.slice a2 n2 cap2) (2*n) ((row0 F G n ii).map kq)->Below wr.heap.size wr w2->K (a.put o.dst (.slice a2 n2 cap2)) w2)->Oper.wp prog o a w1.drew K Q :=
        fun o a K Q q1 q2 q3 q4=>wp_append_own w1.drew _ _ 68 q1 wr.heap.size 30 i0 (.string ⟨#[]⟩) 1 16 underlying68 hi hz0 hz1 hz2 rfl (by decide) _ n _ q2 own1.out ⟨g,ii*n,none⟩ n _ (((List.range n).map (G ii)).map kq) q3 (by simp) NEW qs9 (by unfold maxLen;omega) (by omega) B1.size
          (fun v2 w2 h1 h2 _=>by obtain⟨a2,n2,cap2,rfl⟩:=q4J h1;refine q4 _ _ _ _ ?_ (B1.grown h2 B1.size (fun k hk=>(LT1.out.lt k hk).1));rw[Nat.two_mul];unfold row0;rw[qEX];exact h1)
      have stepB:∀(w2:World) (a2:Option Addr) (n2 cap2:Nat) (o:Oper) (a:Act) (K:Act->World->Prop) (Q:Exit->Act->World->Prop),Below wr.heap.size wr w2->o.op=.call { callee:=.builtin .append,args:=#[.tmp 34,.tmp 40],argTypes:=#[225,225] } ->
          a.eval (.tmp 34)=vR->a.eval (.tmp 40)=.slice (some ⟨w2.heap.size,0,none⟩) 1 1 ->
          (∀a3 n3 cap3 w3,w3.ownsRow w.heap.size 68 1 (.slice a3 n3 cap3) (ii+1) (H++[.slice a2 n2 cap2])->(w2.alloc (.cells #[.slice a2 n2 cap2] 68)).grownBy w3 vR.ownBlock->K (a.put o.dst (.slice a3 n3 cap3)) w3)->Oper.wp prog o a (w2.alloc (.cells #[.slice a2 n2 cap2] 68)) K Q :=
        fun w2 a2 n2 cap2 o a K Q hb q1 q2 q3 q4=>by
          have B3:Below wr.heap.size wr (w2.alloc (.cells #[.slice a2 n2 cap2] 68)):=hb.alloc hb.size _;exact wp_append_own _ _ _ 225 q1 w.heap.size 68 i1 (.slice none 0 0) 1 24 underlying225 hi' hy0 hy1 hy2 rfl (by decide) _ ii _ q2 (HH.out.1.grow B3).outer ⟨w2.heap.size,0,none⟩ 1 1 [.slice a2 n2 cap2] q3 rfl (qx6 (qnq w2 _ _)) (fun u hu=>by rw[qET.1 hu];rfl) (by unfold maxLen;omega) (by omega) (qEr hsz B3.size)
            (fun v3 w3 h1 h2 _=>by obtain⟨a3,n3,cap3,rfl⟩:=q4J h1;exact q4 _ _ _ _ h1 h2)
      clear key2 NEW
      go_region_law ((try simp only[Act.put,List.setIfInBounds_toArray,qEF,qEG]);(with_reducible refine qwO rfl ?_);first
        | (with_reducible refine stepI _ _ _ _ ?_ ?_ ?_ ?_
           · with_reducible rfl
           · (first|with_reducible rfl|(simp[Act.eval];done))
           · (first|with_reducible rfl|(simp[Act.eval];done)))
        | (with_reducible refine stepA _ _ _ _ ?_ ?_ ?_ ?_
           · with_reducible rfl
           · (first|with_reducible rfl|(simp[Act.eval];done))
           · (first|with_reducible rfl|(simp[Act.eval];done))
           intro a2 n2 cap2 w2 hown2 B2;have B3:Below wr.heap.size wr (w2.alloc (.cells #[.slice a2 n2 cap2] 68)):=B2.alloc B2.size _;have k2:=(HH.out.1.grow B2).cell.2.1;have k3:=(HH.out.1.grow B3).cell.2.1)
        | (with_reducible refine stepB w2 a2 n2 cap2 _ _ _ _ B2 ?_ ?_ ?_ ?_
           · with_reducible rfl
           · (first|with_reducible rfl|(simp[Act.eval];done))
           · (first|with_reducible rfl|(simp[Act.eval];done))
           intro a3 n3 cap3 w3 hown3 hgrow3;obtain⟨k4,k5⟩:=(HH.out.1.grow B3).rowCell hgrow3)
        | fail "NONE")
      all_goals
        have SR:=(HH.out.1.grow B3).addRow (row:=row0 F G n ii) (q3u (kW hown2 ((Below.refl _ w2).alloc (qEo _) (.cells #[.slice a2 n2 cap2] 68))) hsz) (HH.out.1.heads hown2) hgrow3 hown3;have BL:=((HH.out.2.1.trans (B3.mono hsz)).grown hgrow3 (qEr hsz B3.size) (fun k hk=>((HH.out.1.grow B3).outer.lt k hk).1)).setCell (p:=⟨w.heap.size+1,1,none⟩) (by show w.heap.size<=w.heap.size+1;omega) (.slice a3 n3 cap3);have MK:=qsm (HH.out.1.grow B3).outer (show (w2.alloc (.cells #[.slice a2 n2 cap2] 68)).heap[w.heap.size]?=_ by rw[B3.block _ (qEs.1 HH.out.2.2).1];exact HH.out.2.2) (by decide) hgrow3;have FIN:qE2 w.heap.size (w.heap.size+1) w.heap.size n (.slice (some ⟨ab,ao,none⟩) (n*n) cap) F G w (w3.setCell ⟨w.heap.size+1,1,none⟩ (.slice a3 n3 cap3)) (ii+1) :=
          ⟨_,_,by rw[qFU,qEX];exact SR,BL,by rw[heap_setCell_other w3 ⟨w.heap.size+1,1,none⟩ w.heap.size _ (by show w.heap.size≠w.heap.size+1;omega)];exact MK⟩
        have FIN:=Lib.hid FIN;clear SR BL MK k1 k2 k3 k4 k5 hown2 hown3 hgrow3 B2 B3 stepI stepA stepB
        go_wp2
        go_roundg (n-(ii+1))
        case measure=>go_light;omega
        case rel =>
          go_light
          exact⟨ii+1,by omega,rfl,by go_num,FIN.out⟩
    · have hiE:ii=n:=by omega
      subst ii;have HI:=Lib.hid hI;clear hI
      go_wp2
      go_ret
      exact⟨rfl,HI.out⟩
end Go.Eng

namespace Go.Eng
open Go.RowKit Go.Proofs
open Tryz
theorem Sch.base{B B' S:Nat}{tS tR tE tI:TypeId}{N C:Nat}{ek K:Value}{w:World}{vR vL:Value}{H:List Value}{Z:Mx}{det:Bs}{lead:List Nat}(h:Sch B S tS tR tE tI N C ek K w vR vL H Z det lead)(hB:B'<=B) :Sch B' S tS tR tE tI N C ek K w vR vL H Z det lead:=⟨qEr hB h.bs,h.st,h.dim,q3u h.outer hB,fun j a r e1 e2=>q3u (h.inner j a r e1 e2) hB,q3u h.own hB,h.ap,h.ne⟩
set_option maxHeartbeats 4000000 in
set_option maxRecDepth 1000000 in
theorem qBZ(ml dv sb:Op2)(gl:World->Prop)(n:Nat)(hn:n<=16)(F G:Nat->Nat->Bs)(vs:Value)(b5 b1:Nat)(w:World)(hgl:∀w',Below w.heap.size w w'->gl w')(hml:qtQ prog gl 124 ml) (hdv:qtQ prog gl 142 dv) (hsb:qtQ prog gl 115 sb)(hv:0<n->∃ab ao cap,vs=.slice (some ⟨ab,ao,none⟩) (n*n) cap/\n*n<=cap/\∀i k,i<n->k<n->w.cell? ⟨ab,ao+(i*n+k),none⟩=some (kq (F i k)))(ho:0<n->∃g cap,w.cell? ⟨b5,2,none⟩=some (.slice (some ⟨g,0,none⟩) (n*n) cap)/\n*n<=cap/\∀i k,i<n->k<n->w.cell? ⟨g,i*n+k,none⟩=some (kq (G i k)))(h1:w.cell? ⟨b1,0,none⟩=some (qgC n)) (fin:RS) (hf:qoP ml dv sb n n (2*n) n ⟨(List.range n).map (row0 F G n),[49],[],0⟩=some fin) :Calls prog 175 #[.agg #[.int .i64 n,.int .i64 n,vs],.func (.func 176) #[] #[.pointer (some ⟨b5,0,none⟩),.pointer (some ⟨b1,0,none⟩)]] w fun e w'=> ∃S,e=.returned (.tuple #[.pointer (some ⟨S,0,none⟩),.int .i64 0])/\(∃vR vL H,Sch w.heap.size S 227 68 30 3 n (2*n) (.int .i64 0) (.int .i64 n) w' vR vL H fin.Z fin.det fin.lead)/\Below w.heap.size w w':=by
 have hB1:Below w.heap.size w (w.alloc (.cells #[.int .i64 n,.int .i64 n,vs] 174)):=(Below.refl w.heap.size w).alloc (qEo _) _;have keyB:=qyr n hn F G vs b5 b1 (w.alloc (.cells #[.int .i64 n,.int .i64 n,vs] 174))
  (fun h=>by obtain⟨ab,ao,cap,q1,q2,q3⟩:=hv h;exact⟨ab,ao,cap,q1,q2,fun i k hi hk=>by rw[hB1.cell (qFm w _ (q3 i k hi hk))];exact q3 i k hi hk⟩)
  (fun h=>by obtain⟨g,cap,q1,q2,q3⟩:=ho h;exact⟨g,cap,by rw[hB1.cell (qFm w _ q1)];exact q1,q2,fun i k hi hk=>by rw[hB1.cell (qFm w _ (q3 i k hi hk))];exact q3 i k hi hk⟩)
  (by rw[hB1.cell (qFm w _ h1)];exact h1)
 have HG:=Lib.hid hgl;have HF:=Lib.hid hf;clear hv ho hf hgl
 go_enter func175,ntmps175
 go_wp2_with (go_at_call 208;refine keyB.mono ?_;rintro e w1 ⟨rfl,hI⟩)
 have hs1:w.heap.size<=w.heap.size+1:=by omega
 rw[vZ] at hI;obtain⟨vR,H,hS,hB,_⟩:=hI;have hB2:Below w.heap.size w w1:=hB1.trans (hB.mono hs1);have keyR:=qCo w.heap.size _ n n (2*n) w1 ml dv sb gl (fun w' hw'=>HG.out w' (hB2.trans hw')) hml hdv hsb hB2.size (qEo _) (by omega) (by omega) (by omega) _ fin ⟨_,_,_,hS.base hs1,Below.refl _ _⟩ rfl rfl HF.out;refine keyR.mono ?_;rintro e w2 ⟨rfl,hR⟩;obtain⟨vR2,vL2,H2,hS2,hB3⟩:=hR;have k0:=hS2.cell.1;clear keyR keyB
 go_wp2_with fail
 go_region_with (fail)
 all_goals
  go_wp2
  refine bodyPost_ret (results_tmp2 rfl _ _ _) rfl ?_;exact⟨_,rfl,⟨_,_,_,hS2.grow (Below.refl _ _).drew⟩,hB2.trans hB3.drew⟩
def qfd(i k:Nat):Bs:=if i=k then [49] else [48]
set_option maxHeartbeats 4000000 in
set_option maxRecDepth 1000000 in
theorem qAK(n:Nat)(hn:n<=16)(w:World) :Calls prog 174 #[.int .i64 n] w fun e w'=>∃v,e=.returned (.agg #[.int .i64 n,.int .i64 n,v])/\Below w.heap.size w w'/\w'.ownsRow w.heap.size 30 1 v (n*n) ((mkL qfd n n).map kq):=by
 have hB1:Below w.heap.size w (w.alloc (.cells #[.int .i64 0,.int .i64 0,.slice none 0 0] 174)):=(Below.refl w.heap.size w).alloc (qEo _) _;have key:=qxr 207 (yj func207 (by kernel_rfl) (by kernel_rfl)) #[] n n hn hn qfd (w.alloc (.cells #[.int .i64 0,.int .i64 0,.slice none 0 0] 174)) (fun i k w' hi hk _=>(qDU i k (by omega) (by omega) w').mono fun e w'' h=>⟨h.1,by rw[h.2];exact Below.refl _ _⟩);have hq:=heap_alloc_new w (.cells #[.int .i64 0,.int .i64 0,.slice none 0 0] 174);rw[vZ] at key
 go_enter func174,ntmps174
 go_wp2_with (go_at_call 171;refine key.mono ?_;rintro e w1 ⟨v,rfl,hb,ho⟩;obtain⟨ao,n1,cap,rfl⟩:=q4J ho;have hq2:w1.heap[w.heap.size]?=some (.cells #[.int .i64 0,.int .i64 0,.slice none 0 0] 174 (0,0)):=(hb.block _ (by omega)).trans hq;obtain⟨c0,c1,c2⟩:=q4v hq2;have f0:=frozen_of_row w1 w.heap.size 0 _ 174 hq2;have f1:=frozen_of_row w1 w.heap.size 1 _ 174 hq2;have f2:=frozen_of_row w1 w.heap.size 2 _ 174 hq2)
 refine bodyPost_ret (by simp[results,results174,go_sem, *];try rfl) rfl ?_;have hn0:(Value.slice ao n1 cap).ownBlock≠some w.heap.size:=fun hv=>by obtain⟨c',hc'⟩:=zl ho hv;exact q8w hq2 hc' (by decide) rfl
 have hle:w.heap.size<=w.heap.size:=qEo _;exact⟨_,rfl,(((hB1.trans (hb.mono (by omega))).setCell (p:=⟨w.heap.size,0,none⟩) hle _).setCell (p:=⟨w.heap.size,1,none⟩) hle _).setCell (p:=⟨w.heap.size,2,none⟩) hle _,
  qC (qC (qC (q3u ho (by omega)) hn0 _) hn0 _) hn0 _⟩
end Go.Eng

namespace Go.Eng
open Go.RowKit Go.Proofs
open Tryz
theorem quj{w:World}{B:Nat}{e:TypeId}{z n:Nat}{v:Value}{xs:List Value}(h:w.ownsRow B e z v n xs):∃ao cap,v=.slice ao n cap:=by
 rcases h.2 with⟨hv,h0⟩|⟨g,cap,cur,hv,_⟩
 ·exact⟨none,0,by rw[hv,h0]⟩
 ·exact⟨_,_,hv⟩
set_option maxHeartbeats 4000000 in
set_option maxRecDepth 1000000 in
theorem qDB(b6 b1 S n:Nat)(w:World){B:Nat}{vR vL:Value}{H:List Value}{Z:Mx}{det:Bs}{lead:List Nat}{ek K:Value}(h6:w.cell? ⟨b6,0,none⟩=some (.pointer (some ⟨S,0,none⟩)))(h1:w.cell? ⟨b1,1,none⟩=some (qgC n))(hS:Sch B S 227 68 30 3 n (2*n) ek K w vR vL H Z det lead) (hn:n<=16) (i k:Nat) (hi:i<n) (hk:k<n) :Calls prog 177 #[.int .i64 i,.int .i64 k,.pointer (some ⟨b6,0,none⟩),.pointer (some ⟨b1,0,none⟩)] w fun e w'=>e=.returned (kq (q5B Z i (n+k)))/\w'=w.drew:=by
 obtain⟨O,cO,rfl,bO,ltO,rO,fO,tO⟩:=hS.rows (by omega);obtain⟨G,cG,eH,bG,ltG,zG,fG,tG⟩:=hS.head hi (by omega);have c1:=hS.cell.2.1;have c2:=rO i _ eH;have c3:=zG (n+k) (by omega);have hlt:n+k<2*n:=by omega
 generalize 2*n=C at *;have hlt2:(n:Int)+(k:Int)<(C:Int):=by omega
 have hlt3:((n:Int)+(k:Int)).toNat=n+k:=by omega
 unfold qgC at h1;unfold kq at c3 ⊢;clear rO zG fO fG tO tG eH
 go_enter func177,ntmps177
 go_wp2_with fail
 go_big_region
 go_wp2
 go_ret
 exact⟨rfl,rfl⟩
set_option maxHeartbeats 4000000 in
set_option maxRecDepth 1000000 in
theorem qCl(ml dv sb:Op2)(gl:World->Prop)(n:Nat)(hn:n<=16)(F:Nat->Nat->Bs)(vs:Value)(w:World)(hgl:∀w',Below w.heap.size w w'->gl w')(hml:qtQ prog gl 124 ml) (hdv:qtQ prog gl 142 dv) (hsb:qtQ prog gl 115 sb)(hck:∀w',Below w.heap.size w w'->Calls prog 173 #[.agg #[.int .i64 n,.int .i64 n,vs]] w' fun e w''=>e=.returned (.int .i64 0)/\Below w'.heap.size w' w'')(hv:0<n->∃ab ao cap,vs=.slice (some ⟨ab,ao,none⟩) (n*n) cap/\n*n<=cap/\∀i k,i<n->k<n->w.cell? ⟨ab,ao+(i*n+k),none⟩=some (kq (F i k)))(fin:RS) (hf:qoP ml dv sb n n (2*n) n ⟨(List.range n).map (row0 F qfd n),[49],[],0⟩=some fin) (hvs:∃a l c,vs=.slice a l c) :Calls prog 130 #[.agg #[.int .i64 n,.int .i64 n,vs]] w fun e w'=>Below w.heap.size w w' /\((fin.lead.length < n /\ e = .returned (.tuple #[.agg #[.int .i64 0, .int .i64 0, .slice none 0 0], .int .i64 14])) \/(n<=fin.lead.length/\∃v,e=.returned (.tuple #[.agg #[.int .i64 n,.int .i64 n,v],.int .i64 0])/\w'.ownsRow w.heap.size 30 1 v (n*n) ((mkL (fun i k=>q5B fin.Z i (n+k)) n n).map kq))):=by
  obtain⟨a0,l0,c0,rfl⟩:=hvs;obtain⟨W0,hW0⟩:∃W0,W0=(w.alloc (.cells #[.int .i64 n,.int .i64 n,.slice a0 l0 c0] 174)).alloc (.cells #[.int .i64 0,.int .i64 0,.slice none 0 0] 174):=⟨_,rfl⟩;have hb0:Below w.heap.size w W0:=by rw[hW0];exact((Below.refl w.heap.size w).alloc (qEo _) _).alloc (by rw[vZ];omega) _
  have h1:W0.heap[w.heap.size]?=some (.cells #[.int .i64 n,.int .i64 n,.slice a0 l0 c0] 174 (0,0)):=by rw[hW0];exact qeP w _ _
  have h2:W0.heap[w.heap.size+1]?=some (.cells #[.int .i64 0,.int .i64 0,.slice none 0 0] 174 (0,0)):=by rw[hW0,<-vZ w (.cells #[.int .i64 n,.int .i64 n,.slice a0 l0 c0] 174)];exact heap_alloc_new _ _
  have hs0:W0.heap.size=w.heap.size+1+1:=by rw[hW0,vZ,vZ]
  have keyC:=hck W0 hb0;obtain⟨c10,c11,c12⟩:=q4v h1;have HV:=Lib.hid hv;have HF:=Lib.hid hf;have HG:=Lib.hid hgl;clear hv hf hgl hck
  go_enter func130,ntmps130
  go_wp2_with fail
  rw[<-hW0];refine keyC.mono ?_;rintro e w1 ⟨rfl,hb1⟩;have B1:Below w.heap.size w w1:=hb0.trans (hb1.mono hb0.size);have g1:=(hb1.block _ (qEs.1 h1).1).trans h1;have g2:=(hb1.block _ (qEs.1 h2).1).trans h2;have hs1:w.heap.size+1+1<=w1.heap.size:=by have:=hb1.size;omega
  clear keyC h1 h2 c10 c11 c12 hW0 hb0 hb1 hs0;clear W0;obtain⟨c10,c11,c12⟩:=q4v g1
  go_wp2_with fail
  refine(qAK n hn w1).mono ?_;rintro e w2 ⟨vo,rfl,hb2,hou⟩;obtain⟨ao,no,co,rfl⟩:=q4J hou;have B2:Below w.heap.size w w2:=B1.trans (hb2.mono B1.size);have k1:=(hb2.block _ (qEs.1 g1).1).trans g1;have k2:=(hb2.block _ (qEs.1 g2).1).trans g2;have hs2:w.heap.size+1+1<=w2.heap.size:=by have:=hb2.size;omega
  clear g1 g2 c10 c11 c12;obtain⟨c10,c11,c12⟩:=q4v k1;have HU:=Lib.hid hou;clear hou hb2;have B3:Below w2.heap.size w2 (w2.alloc (.cells #[.int .i64 n,.int .i64 n,.slice ao no co] 174)):=(Below.refl _ w2).alloc (qEo _) _;have l1:=(B3.block _ (qEs.1 k1).1).trans k1;have l2:=(B3.block _ (qEs.1 k2).1).trans k2;obtain⟨d10,d11,d12⟩:=q4v l1
  go_wp2_with fail
  obtain⟨W3,hW3⟩:∃W3,W3=w2.alloc (.cells #[.int .i64 n,.int .i64 n,.slice ao no co] 174):=⟨_,rfl⟩;have m5:W3.heap[w2.heap.size]?=some (.cells #[.int .i64 n,.int .i64 n,.slice ao no co] 174 (0,0)):=by rw[hW3];exact heap_alloc_new _ _
  have hs3:W3.heap.size=w2.heap.size+1:=by rw[hW3,vZ]
  rw[<-hW3] at B3 l1 l2 d10 d11 d12 ⊢;clear hW3 c10 c11 c12;have B13:Below w.heap.size w W3:=B2.trans (B3.mono B2.size);have keyE:=qBZ ml dv sb gl n hn F qfd (.slice a0 l0 c0) w2.heap.size w.heap.size W3 (fun w' hw'=>HG.out w' (B13.trans (hw'.mono B13.size))) hml hdv hsb
    (fun h=>by obtain⟨ab,ao,cap,q1,q2,q3⟩:=HV.out h;exact⟨ab,ao,cap,q1,q2,fun i k hi hk=>by rw[B13.cell (qFm w _ (q3 i k hi hk))];exact q3 i k hi hk⟩)
    (fun h=>by
      have ho3:=kW HU.out B3;obtain⟨g,c,q1,_,_,_⟩:=qaW ho3 (Nat.mul_pos h h);have hcap:n*n<=c:=by
        rcases ho3.2 with⟨z,_⟩|⟨g',cap',cur,z,_,_,z2,_⟩
        · rw[q1] at z;cases z
        · rw[q1] at z;cases z;exact z2
      refine⟨g,c,by rw[<-q1];exact(q4v m5).2.2,hcap,fun i k hi hk=>?_⟩;rw[q1] at ho3;have hik:i*n+k<n*n:=by have:=qER n (show i+1<=n by omega);rw[qEJ] at this;omega
      rw[ho3.cellAt (i*n+k) (by omega),qEy,qrQ qfd n n i k hi hk];rfl)
    d10 fin HF.out
  refine keyE.mono ?_;rintro e w4 ⟨S,rfl,⟨vR,vL,H,hS⟩,hb4⟩;have B4:Below w.heap.size w w4:=B13.trans (hb4.mono B13.size);have k1:=(hb4.block _ (qEs.1 l1).1).trans l1;have k2:=(hb4.block _ (qEs.1 l2).1).trans l2;have hs4:w2.heap.size+1<=w4.heap.size:=by have:=hb4.size;omega
  have B5:Below w4.heap.size w4 (w4.alloc (.cells #[.pointer (some ⟨S,0,none⟩)] 219)):=(Below.refl _ w4).alloc (qEo _) _;have HS:=Lib.hid (hS.grow B5);have l1:=(B5.block _ (qEs.1 k1).1).trans k1;have l2:=(B5.block _ (qEs.1 k2).1).trans k2;clear keyE HU HV HF HG hS k1 k2 d10 d11 d12 m5;obtain⟨vl0,vlc,rfl⟩:=quj HS.out.own;obtain⟨d10,d11,d12⟩:=q4v l1;have s3:=HS.out.cell.2.2.2.1
  go_wp2_with fail
  go_big_region
  have B6:Below w4.heap.size w4 (w4.alloc (.cells #[.pointer (some ⟨S,0,none⟩)] 219)).drew:=B5.drew;have n6:=qnq w4 (.pointer (some ⟨S,0,none⟩)) 219;have SZ:(w4.alloc (.cells #[.pointer (some ⟨S,0,none⟩)] 219)).heap.size=w4.heap.size+1:=vZ _ _;obtain⟨W6,hW6⟩:∃W6,W6=(w4.alloc (.cells #[.pointer (some ⟨S,0,none⟩)] 219)).drew:=⟨_,rfl⟩;have l1:W6.heap[w.heap.size]?=some (.cells #[.int .i64 n,.int .i64 n,.slice a0 l0 c0] 174 (0,0)):=by rw[hW6];exact l1
  have l2:W6.heap[w.heap.size+1]?=some (.cells #[.int .i64 0,.int .i64 0,.slice none 0 0] 174 (0,0)):=by rw[hW6];exact l2
  have n6:W6.cell? ⟨w4.heap.size,0,none⟩=some (.pointer (some ⟨S,0,none⟩)):=by rw[hW6];exact n6
  have SZ:W6.heap.size=w4.heap.size+1:=by rw[hW6];exact SZ
  have HS:=Lib.hid (HS.out.grow (Below.refl _ _).drew);rw[<-hW6] at B6 HS ⊢;clear hW6 B5 d10 d11 d12 s3;have B7:Below w.heap.size w W6:=B4.trans (B6.mono B4.size);obtain⟨d10,d11,d12⟩:=q4v l1;obtain⟨d20,d21,d22⟩:=q4v l2;have f20:=frozen_of_row W6 (w.heap.size+1) 0 _ 174 l2;have f21:=frozen_of_row W6 (w.heap.size+1) 1 _ 174 l2;have f22:=frozen_of_row W6 (w.heap.size+1) 2 _ 174 l2;have hle:w.heap.size<=w.heap.size+1:=by omega
  by_cases hl:fin.lead.length<n
  · have hl2:((fin.lead.length:Int)<(n:Int)):=by omega
    go_wp2_with fail
    refine bodyPost_ret (by simp[results,results130,go_sem, *];try rfl) rfl ?_;exact⟨((B7.setCell (p:=⟨w.heap.size+1,0,none⟩) hle _).setCell (p:=⟨w.heap.size+1,1,none⟩) hle _).setCell (p:=⟨w.heap.size+1,2,none⟩) hle _,.inl ⟨hl,rfl⟩⟩
  · have hl2:¬((fin.lead.length:Int)<(n:Int)):=by omega
    have keyM:=qxr 177 (yj func177 (by kernel_rfl) (by kernel_rfl)) #[.pointer (some ⟨w4.heap.size,0,none⟩),.pointer (some ⟨w.heap.size,0,none⟩)] n n hn hn (fun i k=>q5B fin.Z i (n+k)) W6 (fun i k w' hi hk hb =>
      (qDB w4.heap.size w.heap.size S n w' (by rw[hb.cell (qFm W6 _ n6)];exact n6) (by rw[hb.cell (qFm W6 _ d11)];exact d11) (HS.out.grow hb) hn i k hi hk).mono
        fun e w'' h=>⟨h.1,by rw[h.2];exact(Below.refl _ _).drew⟩)
    go_wp2_with fail
    refine keyM.mono ?_;rintro e w7 ⟨v,rfl,hb7,ho7⟩;obtain⟨a7,n7,c7,rfl⟩:=q4J ho7;have q2:=(hb7.block _ (qEs.1 l2).1).trans l2;obtain⟨e20,e21,e22⟩:=q4v q2;have f20:=frozen_of_row w7 (w.heap.size+1) 0 _ 174 q2;have f21:=frozen_of_row w7 (w.heap.size+1) 1 _ 174 q2;have f22:=frozen_of_row w7 (w.heap.size+1) 2 _ 174 q2;clear keyM d10 d11 d12 d20 d21 d22
    go_wp2_with fail
    refine bodyPost_ret (by simp[results,results130,go_sem, *];try rfl) rfl ?_;have hn0:(Value.slice a7 n7 c7).ownBlock≠some (w.heap.size+1):=fun hv=>by obtain⟨c',hc'⟩:=zl ho7 hv;exact q8w q2 hc' (by decide) rfl
    exact⟨(((B7.trans (hb7.mono B7.size)).setCell (p:=⟨w.heap.size+1,0,none⟩) hle _).setCell (p:=⟨w.heap.size+1,1,none⟩) hle _).setCell (p:=⟨w.heap.size+1,2,none⟩) hle _,
      .inr ⟨by omega,_,rfl,qC (qC (qC (q3u ho7 B7.size) hn0 _) hn0 _) hn0 _⟩⟩
end Go.Eng

namespace Go.Eng
open Go.RowKit Go.Proofs
open Tryz
def qBQ(t:TR):Bool:=match t.run with
 | some (0,[.i e])=>decide (e=0)
 | _=>false
theorem qy3{t:TR}(h:qBQ t=true):t.run=some (0,[.i 0]):=by
 unfold qBQ at h;split at h
 ·rename_i e he;have:e=0:=by simpa using h
  subst this;exact he
 ·cases h
def qBM(ck ml dv sb:List PV->TR):List PV->TR
 | [.i r,.i c,.r l]=>if r=c/\0<=r/\r<=16/\l.length=r.toNat*r.toNat/\qBQ (ck [.i r,.i c,.r l])=true then
   (match qoP (opF ml) (opF dv) (opF sb) r.toNat r.toNat (2*r.toNat) r.toNat ⟨(List.range r.toNat).map (row0 (fun i k=>cS l ((i*r.toNat+k:Nat):Int) 0) qfd r.toNat),[49],[],0⟩ with
   | some fin=>if fin.lead.length<r.toNat then .leaf (0,[.i 0,.i 0,.r [],.i 14]) else .leaf (0,[.i r,.i r,.r ((mkL (fun i k=>q5B fin.Z i (r.toNat+k)) r.toNat r.toNat).map fun x=>[.s x]),.i 0])
   | none=>.fail) else .fail
 | _=>.fail
theorem qvj{ps:List PV}(h:ps.map PV.kind=[.i,.i,.r]):∃a b c,ps=[.i a,.i b,.r c]:=by
 match ps,h with
 | [.i a,.i b,.r c],_=>exact⟨a,b,c,rfl⟩
theorem qyQ{T:List PV->TR}{a b:Int}{l:R}(h:(T [.i a,.i b,.r l]).run=some (0,[.i 0])) :(q9 ⟨[.agg [.int .i64,.int .i64,.imm [.str]]],[]⟩ [⟨.int .i64,[],none⟩] T [.agg [.int .i64 a,.int .i64 b,.imm [.str] l]] []).run=some (.int .i64 0,[]):=by unfold q9;have ht:(FIn.mk [.agg [.int .i64,.int .i64,.imm [.str]]] []).take [.agg [.int .i64 a,.int .i64 b,.imm [.str] l]] []=some [.i a,.i b,.r l]:=rfl;rw[ht];simp only[Tree.run,okR,h,qGs];simp[quU,FOut.kinds,AP.kinds,BP.kindsL,qg7,gI,pR,h,PV.toI,FOut.make,AP.make,BP.makeL,Tree.run]
theorem quL{w:World}{B:Nat}{e:TypeId}{M:Nat->Prop}{v:Value}{n:Nat}{xs:List Bs}(h:w.ownsRow B e 1 v n (xs.map kq))(hM:∀b,v.ownBlock=some b->M b):qb5 w M [.str] (xs.map fun x=>[U.s x]) v:=by
 have hl:xs.length=n:=by have:=h.1;rw[qEA] at this;omega
 rcases h.2 with⟨rfl,h0⟩|⟨g,cap,cur,rfl,_,_,hc,_⟩
 ·exact .inl ⟨rfl,qFZ (by rw[qEA];omega)⟩
 ·refine .inr ⟨⟨g,0,none⟩,cap,by rw[qEA,hl],fun _=>rfl,by rw[qEA,hl];exact hc,fun r j hj hr=>?_⟩;have hj0:j=0:=by simp at hj;exact hj
  subst hj0;rw[qEA] at hr;refine⟨hM g rfl,kq xs[r],?_,?_⟩
  ·have:=h.cellAt r (by omega);rw[qEy,qEv hr] at this;simpa using this
  ·have:RepU w M .str (U.s xs[r]) (kq xs[r]):=.str (U.s xs[r]);have e:zY (xs.map fun x=>[U.s x]) (r:Int) 0=U.s xs[r]:=by simp[zY,hr]
   rw[e];exact this
theorem qyy{X:Ctx}{a b:Int}{l:R}{vargs:List Value}(h:RepL X [.agg [.int .i64 a,.int .i64 b,.imm [.str] l]] vargs):∃v,vargs=[.agg #[.int .i64 a,.int .i64 b,v]]/\qb5 X.w X.M [.str] l v:=by
 cases h with
 | cons h1 t=>
  cases t;cases h1 with
  | agg _ vs h2=>
   cases h2 with
   | cons q1 t1=>
    cases q1;cases t1 with
    | cons q2 t2=>
     cases q2;cases t2 with
     | cons q3 t3=>
      cases t3;cases q3 with
      | imm _ _ _ hv=>exact⟨_,rfl,hv⟩
theorem qxA{gl:List (Nat×AV)}{ck ml dv sb:List PV->TR}(hck:zb prog gl 173 (q9 ⟨[.agg [.int .i64,.int .i64,.imm [.str]]],[]⟩ [⟨.int .i64,[],none⟩] ck))(hml:zb prog gl 124 (q9 ⟨[.str,.str],[]⟩ [⟨.tuple [.str,.int .i64],[],none⟩] ml)) (hdv:zb prog gl 142 (q9 ⟨[.str,.str],[]⟩ [⟨.tuple [.str,.int .i64],[],none⟩] dv))(hsb:zb prog gl 115 (q9 ⟨[.str,.str],[]⟩ [⟨.tuple [.str,.int .i64],[],none⟩] sb)) :zb prog gl 130 (q9 ⟨[.agg [.int .i64,.int .i64,.imm [.str]]],[]⟩ [⟨.tuple [.agg [.int .i64,.int .i64,.imm [.str]],.int .i64],[],none⟩] (qBM ck ml dv sb)):=by
 refine qxn (yj func130 (by kernel_rfl) (by kernel_rfl)) rfl fun B X ps j qs vargs hs hgl hX ha hk hT=>?_;obtain⟨r,c,l,rfl⟩:=qvj hk;have ha:RepL X [.agg [.int .i64 r,.int .i64 c,.imm [.str] l]] vargs:=ha;simp only[qBM] at hT;split at hT
 ·rename_i hc;obtain⟨rfl,hr0,hr16,hl,hok⟩:=hc;obtain⟨n,rfl⟩:∃n:Nat,r=(n:Int):=⟨r.toNat,by omega⟩;rw[qEK] at hT hl;split at hT
  ·rename_i fin hf;obtain⟨v,rfl,hv⟩:=qyy ha;have hgY:∀w',Below X.w.heap.size X.w w'->q3z gl (qyx w' X.y):=fun w' hb=>qE5 hs hX hgl hb;have op:∀{f:FuncId} {T:List PV->TR},zb prog gl f (q9 ⟨[.str,.str],[]⟩ [⟨.tuple [.str,.int .i64],[],none⟩] T)->qtQ prog (fun w'=>Below X.w.heap.size X.w w') f (opF T):=
    fun hT w' hb a b r h=>qxL hT (hgY w' hb) h
   have key:=qCl (opF ml) (opF dv) (opF sb) (fun w'=>Below X.w.heap.size X.w w') n (by omega) (fun i k=>cS l ((i*n+k:Nat):Int) 0) v X.w (fun _ h=>h) (op hml) (op hdv) (op hsb)
    (fun w' hb=>by
     have m:=qDb hs hX hb;refine(qoQ hck (hgY w' hb) (args:=[.agg [.int .i64 n,.int .i64 n,.imm [.str] l]]) (vargs:=[.agg #[.int .i64 n,.int .i64 n,v]]) ?_ (qyQ (qy3 hok))).mono ?_
     ·exact ha.ext0 m
     ·rintro e w'' ⟨u,X',rfl,rfl,hu,_,_,hb'⟩;cases hu;exact⟨rfl,hb'⟩)
    (fun hn=>by
     rcases hv with⟨_,h0⟩|⟨a,cap,rfl,hsp,hcap,hrows⟩
     ·rw[h0] at hl;have:=Nat.mul_pos hn hn;simp at hl;omega
     ·have hpos:0<l.length:=by rw[hl];exact Nat.mul_pos hn hn
      obtain⟨ab,ao,sp⟩:=a;have:sp=none:=hsp hpos;subst this;refine⟨ab,ao,cap,by rw[hl],by omega,fun i k hi hk=>?_⟩;have hik:i*n+k<l.length:=by have:=qER n (show i+1<=n by omega);rw[qEJ] at this;omega
      obtain⟨_,u,q1,q2⟩:=hrows (i*n+k) 0 (by simp) hik;cases q2;simp only[List.length_singleton,qFY,qFb] at q1;rw[q1];rfl)
    fin hf (by
     rcases hv with⟨rfl,_⟩|⟨a,cap,rfl,_⟩
     ·exact⟨_,_,_,rfl⟩
     ·exact⟨_,_,_,rfl⟩)
   split at hT
   ·rename_i hlt;cases hT;refine⟨rfl,rfl,key.mono ?_⟩;rintro e w' ⟨hb,⟨_,rfl⟩|⟨h,_⟩⟩
    ·refine⟨_,X.M,rfl,hb,fun _ h=>h,fun _ h=>.inl h,?_⟩;exact .tuple _ [_,_] (.cons (.agg _ [_,_,_] (.cons (.int _ _) (.cons (.int _ _) (.cons (.imm _ _ _ (.inl ⟨rfl,rfl⟩)) .nil)))) (.cons (.int _ _) .nil))
    ·omega
   ·rename_i hge;cases hT;refine⟨rfl,rfl,key.mono ?_⟩;rintro e w' ⟨hb,⟨h,_⟩|⟨_,u,rfl,ho⟩⟩
    ·exact absurd h hge
    ·refine⟨_,fun m=>X.M m\/u.ownBlock=some m,rfl,hb,fun _ h=>.inl h,fun m h=>?_,?_⟩
     ·rcases h with h|h
      ·exact .inl h
      ·exact .inr (ho.lt m h)
     ·exact .tuple _ [_,_] (.cons (.agg _ [_,_,_] (.cons (.int _ _) (.cons (.int _ _) (.cons (.imm _ _ _ (quL ho fun b hb=>.inr hb)) .nil)))) (.cons (.int _ _) .nil))
  ·cases hT
 ·cases hT
end Go.Eng

namespace Go.Eng
open Go.Proofs
open Tryz
noncomputable def q25:List (TypeId×TI):=[(1,(.mk .func 1 [.nilFunc] 8 false false)),(2,(.mk (.int .i64) 1 [(.int .i64 0)] 8 false false)),(3,(.mk (.int .i64) 1 [(.int .i64 0)] 8 false false)),(4,(.mk .bool 1 [(.bool false)] 1 false false)),(5,(.mk (.int .u8) 1 [(.int .u8 0)] 1 false false)),(6,(.mk (.int .u8) 1 [(.int .u8 0)] 1 false false)),(8,(.mk (.struct [(0,(2,1)),(1,(3,1)),(2,(4,1)),(3,(6,1))]) 4 [(.int .i64 0),(.int .i64 0),(.bool false),(.int .u8 0)] 24 true true)),(9,(.mk .str 1 [(.string (.mk (.mk [])))] 16 false false)),(10,(.mk .str 1 [(.string (.mk (.mk [])))] 16 false false)),(11,(.mk .str 1 [(.string (.mk (.mk [])))] 16 false false)),(12,(.mk (.int .u64) 1 [(.int .u64 0)] 8 false false)),(13,(.mk (.struct [(0,(9,1)),(1,(12,1))]) 2 [(.string (.mk (.mk []))),(.int .u64 0)] 24 false true)),(14,(.mk (.struct [(0,(9,1)),(1,(12,1))]) 2 [(.string (.mk (.mk []))),(.int .u64 0)] 24 false true)),(16,(.mk (.ptr 301) 1 [(.pointer .none)] 8 false false)),(17,(.mk (.ptr 309) 1 [(.pointer .none)] 8 false false)),(18,(.mk (.struct [(0,(17,1))]) 1 [(.pointer .none)] 8 false true)),(22,(.mk (.slice 26 2) 1 [(.slice .none 0 0)] 24 false false)),(26,(.mk (.struct [(0,(3,1)),(1,(3,1))]) 2 [(.int .i64 0),(.int .i64 0)] 16 true true)),(28,(.mk .func 1 [.nilFunc] 8 false false)),(30,(.mk .str 1 [(.string (.mk (.mk [])))] 16 false false)),(32,(.mk (.struct [(0,(30,1)),(1,(30,1))]) 2 [(.string (.mk (.mk []))),(.string (.mk (.mk [])))] 32 true true)),(33,(.mk (.slice 3 1) 1 [(.slice .none 0 0)] 24 false false)),(34,(.mk (.int .i64) 1 [(.int .i64 0)] 8 false false)),(39,(.mk .func 1 [.nilFunc] 8 false false)),(40,(.mk (.slice 43 3) 1 [(.slice .none 0 0)] 24 false false)),(43,(.mk (.struct [(0,(32,2)),(2,(30,1))]) 3 [(.string (.mk (.mk []))),(.string (.mk (.mk []))),(.string (.mk (.mk [])))] 48 true true)),(45,(.mk (.struct [(0,(3,1)),(1,(3,1)),(2,(3,1))]) 3 [(.int .i64 0),(.int .i64 0),(.int .i64 0)] 24 true true)),(46,(.mk (.struct [(0,(3,1)),(1,(3,1)),(2,(3,1))]) 3 [(.int .i64 0),(.int .i64 0),(.int .i64 0)] 24 true true)),(48,(.mk .func 1 [.nilFunc] 8 false false)),(50,(.mk .func 1 [.nilFunc] 8 false false)),(51,(.mk .func 1 [.nilFunc] 8 false false)),(52,(.mk .func 1 [.nilFunc] 8 false false)),(53,(.mk .func 1 [.nilFunc] 8 false false)),(54,(.mk .func 1 [.nilFunc] 8 false false)),(55,(.mk (.int .u16) 1 [(.int .u16 0)] 2 false false)),(57,(.mk .func 1 [.nilFunc] 8 false false)),(64,(.mk .func 1 [.nilFunc] 8 false false)),(67,(.mk (.array 3 30 1) 3 [(.string (.mk (.mk []))),(.string (.mk (.mk []))),(.string (.mk (.mk [])))] 48 false false)),(68,(.mk (.slice 30 1) 1 [(.slice .none 0 0)] 24 false false)),(70,(.mk (.struct [(0,(67,3)),(3,(30,1)),(4,(68,1))]) 5 [(.string (.mk (.mk []))),(.string (.mk (.mk []))),(.string (.mk (.mk []))),(.string (.mk (.mk []))),(.slice .none 0 0)] 88 true true)),(73,(.mk (.slice 115 3) 1 [(.slice .none 0 0)] 24 false false)),(76,(.mk .str 1 [(.string (.mk (.mk [])))] 16 false false)),(82,(.mk (.slice 76 1) 1 [(.slice .none 0 0)] 24 false false)),(87,(.mk (.ptr 89) 1 [(.pointer .none)] 8 false false)),(89,(.mk (.struct [(0,(34,1))]) 1 [(.int .i64 0)] 8 true true)),(96,(.mk .func 1 [.nilFunc] 8 false false)),(97,(.mk .func 1 [.nilFunc] 8 false false)),(99,(.mk .func 1 [.nilFunc] 8 false false)),(100,(.mk (.ptr 102) 1 [(.pointer .none)] 8 false false)),(101,(.mk (.struct [(0,(34,1))]) 1 [(.int .i64 0)] 8 true true)),(102,(.mk (.struct [(0,(34,1))]) 1 [(.int .i64 0)] 8 true true)),(105,(.mk .func 1 [.nilFunc] 8 false false)),(108,(.mk .func 1 [.nilFunc] 8 false false)),(109,(.mk .func 1 [.nilFunc] 8 false false)),(110,(.mk .func 1 [.nilFunc] 8 false false)),(115,(.mk (.struct [(0,(3,1)),(1,(3,1)),(2,(3,1))]) 3 [(.int .i64 0),(.int .i64 0),(.int .i64 0)] 24 true true)),(116,(.mk .func 1 [.nilFunc] 8 false false)),(120,(.mk .func 1 [.nilFunc] 8 false false)),(121,(.mk .func 1 [.nilFunc] 8 false false)),(123,(.mk (.slice 5 1) 1 [(.slice .none 0 0)] 24 false false)),(124,(.mk .func 1 [.nilFunc] 8 false false)),(125,(.mk .func 1 [.nilFunc] 8 false false)),(130,(.mk .func 1 [.nilFunc] 8 false false)),(135,(.mk .func 1 [.nilFunc] 8 false false)),(140,(.mk .func 1 [.nilFunc] 8 false false)),(141,(.mk (.slice 33 1) 1 [(.slice .none 0 0)] 24 false false)),(148,(.mk .func 1 [.nilFunc] 8 false false)),(150,(.mk (.struct [(0,(32,2)),(2,(32,2)),(4,(30,1))]) 5 [(.string (.mk (.mk []))),(.string (.mk (.mk []))),(.string (.mk (.mk []))),(.string (.mk (.mk []))),(.string (.mk (.mk [])))] 80 true true)),(154,(.mk .func 1 [.nilFunc] 8 false false)),(156,(.mk (.ptr 161) 1 [(.pointer .none)] 8 false false)),(159,(.mk (.array 232 3 1) 232 (List.replicate 232 (.int .i64 0)) 1856 false false)),(161,(.mk (.struct [(0,(4,1)),(1,(3,1)),(2,(159,232))]) 234 (List.append [(.bool false)] (List.replicate 233 (.int .i64 0))) 1872 true true)),(167,(.mk .func 1 [.nilFunc] 8 false false)),(174,(.mk (.struct [(0,(3,1)),(1,(3,1)),(2,(68,1))]) 3 [(.int .i64 0),(.int .i64 0),(.slice .none 0 0)] 40 true true)),(182,(.mk (.array 3 3 1) 3 [(.int .i64 0),(.int .i64 0),(.int .i64 0)] 24 false false)),(188,(.mk .func 1 [.nilFunc] 8 false false)),(224,(.mk (.struct [(0,(34,1))]) 1 [(.int .i64 0)] 8 true true)),(229,(.mk (.ptr 224) 1 [(.pointer .none)] 8 false false)),(243,(.mk .func 1 [.nilFunc] 8 false false)),(244,(.mk (.ptr 5) 1 [(.pointer .none)] 8 false false)),(246,(.mk .func 1 [.nilFunc] 8 false false)),(262,(.mk (.int .u32) 1 [(.int .u32 0)] 4 false false)),(272,(.mk (.int .u64) 1 [(.int .u64 0)] 8 false false)),(291,(.mk (.array 20 272 1) 20 [(.int .u64 0),(.int .u64 0),(.int .u64 0),(.int .u64 0),(.int .u64 0),(.int .u64 0),(.int .u64 0),(.int .u64 0),(.int .u64 0),(.int .u64 0),(.int .u64 0),(.int .u64 0),(.int .u64 0),(.int .u64 0),(.int .u64 0),(.int .u64 0),(.int .u64 0),(.int .u64 0),(.int .u64 0),(.int .u64 0)] 160 false false)),(299,(.mk (.array 0 16 1) 0 [] 0 false false)),(301,(.mk (.struct [(0,(299,0))]) 0 [] 0 false true)),(303,(.mk (.int .u8) 1 [(.int .u8 0)] 1 false false)),(304,(.mk (.int .u8) 1 [(.int .u8 0)] 1 false false)),(305,(.mk .func 1 [.nilFunc] 8 false false)),(306,(.mk (.int .i32) 1 [(.int .i32 0)] 4 false false)),(307,(.mk (.int .i32) 1 [(.int .i32 0)] 4 false false)),(309,(.mk (.struct [(0,(12,1)),(1,(12,1)),(2,(262,1)),(3,(303,1)),(4,(5,1)),(5,(5,1)),(6,(304,1)),(7,(305,1)),(8,(244,1)),(9,(306,1)),(10,(307,1))]) 11 [(.int .u64 0),(.int .u64 0),(.int .u32 0),(.int .u8 0),(.int .u8 0),(.int .u8 0),(.int .u8 0),.nilFunc,(.pointer .none),(.int .i32 0),(.int .i32 0)] 48 false true))]
noncomputable def qa:List (Nat×AV):=[(5,(.eptr [.int .u64,.int .u64,.int .u64,.int .u64,.int .u64,.int .u64,.int .u64,.int .u64,.int .u64,.int .u64,.int .u64,.int .u64,.int .u64,.int .u64,.int .u64,.int .u64,.int .u64,.int .u64,.int .u64,.int .u64] [[.i 1,.i 10,.i 100,.i 1000,.i 10000,.i 100000,.i 1000000,.i 10000000,.i 100000000,.i 1000000000,.i 10000000000,.i 100000000000,.i 1000000000000,.i 10000000000000,.i 100000000000000,.i 1000000000000000,.i 10000000000000000,.i 100000000000000000,.i 1000000000000000000,.i 10000000000000000000]] 0 0))]
theorem q8:q25.map (fun x=>qq9 prog x.1)=q25.map (·.2):=by kernel_rfl
theorem qc:prog.follows .mixedOrders=true:=by kernel_rfl
noncomputable def qe(s:List (FuncId×(List AV->List Blk->Tree (AV×List Blk))))(b:List (FuncId×Func))(l:List ((FuncId×Nat)×(St->Tree (Ex×St))))(n:Nat):Env:=⟨q25,qa,s,b,l,n,[],[],[]⟩
def q11:FIn:=⟨[.str,.str],[]⟩
def q1a:List FOut:=[⟨(.int .i64),[],none⟩]
noncomputable def v7:List PV->TR:=qqr
set_option maxRecDepth 100000 in
theorem q5h:zb prog qa 164 (q9 q11 q1a v7):=qqE lays219 (yj func164 (by kernel_rfl) (by kernel_rfl))
def yL:FIn:=⟨[.str,.str],[]⟩
def yP:List FOut:=[⟨(.tuple [.str,.str,.bool]),[],none⟩]
noncomputable def q22:=qe [(164,q9 q11 q1a v7)] [(116,f116)] [] 0
noncomputable def w8:=qw q22 116 f116 true yL yP
theorem q5X:zb prog qa 116 (q9 yL yP w8):=sk q22 qc q8 (alc q5h aln) aln (b1 func116) func116
def qaY:FIn:=⟨[.str,.str],[]⟩
def qbL:List FOut:=[⟨(.tuple [.str,.str,.bool]),[],none⟩]
noncomputable def qge:=qe [(116,q9 yL yP w8)] [(81,f81)] [] 0
noncomputable def q4t:=qw qge 81 f81 true qaY qbL
theorem qj7:zb prog qa 81 (q9 qaY qbL q4t):=sk qge qc q8 (alc q5X aln) aln (b1 func81) func81
def uQ:FIn:=⟨[.str],[]⟩
def uK:List FOut:=[⟨(.tuple [.str,.str,.bool]),[],none⟩]
noncomputable def qkW:=qe [(81,q9 qaY qbL q4t)] [(55,f55)] [] 0
noncomputable def qE:=qw qkW 55 f55 true uQ uK
theorem ya:zb prog qa 55 (q9 uQ uK qE):=sk qkW qc q8 (alc qj7 aln) aln (b1 func55) func55
def zL:FIn:=⟨[.str,.str],[]⟩
def zK:List FOut:=[⟨.bool,[],none⟩]
noncomputable def kd:=qe [] [(166,f166)] [] 0
noncomputable def qI:=qw kd 166 f166 true zL zK
theorem yp:zb prog qa 166 (q9 zL zK qI):=sk kd qc q8 aln aln (b1 func166) func166
def vl:FIn:=⟨[.str,.str],[]⟩
def vt:List FOut:=[⟨.str,[],none⟩]
noncomputable def ue:=qe [(166,q9 zL zK qI)] [(122,f122)] [] 0
noncomputable def ze:=qw ue 122 f122 true vl vt
theorem q2H:zb prog qa 122 (q9 vl vt ze):=sk ue qc q8 (alc yp aln) aln (b1 func122) func122
def jN:FIn:=⟨[.str,.str],[]⟩
def jK:List FOut:=[⟨.str,[],none⟩]
noncomputable def q6C:=qe [(122,q9 vl vt ze)] [(87,f87)] [] 0
noncomputable def z8:=qw q6C 87 f87 true jN jK
theorem q0j:zb prog qa 87 (q9 jN jK z8):=sk q6C qc q8 (alc q2H aln) aln (b1 func87) func87
def qf3:FIn:=⟨[.str,.str],[]⟩
def qeV:List FOut:=[⟨.str,[],none⟩]
noncomputable def q5q:List PV->TR:=qxF
set_option maxRecDepth 100000 in
theorem qhA:zb prog qa 108 (q9 qf3 qeV q5q):=quF lays160 (yj func108 (by kernel_rfl) (by kernel_rfl)) (by kernel_rfl)
def ub:FIn:=⟨[.str],[]⟩
def uf:List FOut:=[⟨(.int .i64),[],none⟩]
noncomputable def qhn:=qe [(87,q9 jN jK z8),(108,q9 qf3 qeV q5q)] [(75,f75)] [] 0
noncomputable def z7:=qw qhn 75 f75 true ub uf
theorem u5:zb prog qa 75 (q9 ub uf z7):=sk qhn qc q8 (alc q0j (alc qhA aln)) aln (b1 func75) func75
def q1m:FIn:=⟨[(.imm [.str])],[]⟩
def q1u:List FOut:=[⟨(.int .i64),[],none⟩]
def qbx:Tmpl:={ t:=(qP 6 ((.imm [.str])::(.int .i64)::(.int .i64)::qP 9 [])),h:=[] }
def qbw:List Out:=[⟨(.exit 0),{ t:=(qP 18 []),h:=[] }⟩,⟨.ret,{ t:=(.any::.any::(.int .i64)::qP 15 []),h:=[] }⟩]
noncomputable def q6L:=qe [(75,q9 ub uf z7)] [(84,f84)] [] 0
noncomputable def q48:=ke q6L 84 f84 3 qbx qbw
theorem qjc:qu prog qa q6L.nimp (qL prog q6L.iter 84) (zR f84 3) (qt qbx qbw (qh q48)):=gk q6L qc q8 (alc u5 aln) aln (b1 func84) func84
noncomputable def ql5:=qe [(75,q9 ub uf z7)] [(84,f84)] [((84,3),qt qbx qbw (qh q48))] 0
noncomputable def wd:=qw ql5 84 f84 true q1m q1u
theorem q0E:zb prog qa 84 (q9 q1m q1u wd):=sk ql5 qc q8 (alc u5 aln) (alc (lk func84 qjc) aln) (b1 func84) func84
def q5O:FIn:=⟨[.str],[]⟩
def q5E:List FOut:=[⟨(.int .i64),[],none⟩]
noncomputable def qiP:=qe [] [(85,f85)] [] 0
noncomputable def jZ:=qw qiP 85 f85 true q5O q5E
theorem q7C:zb prog qa 85 (q9 q5O q5E jZ):=sk qiP qc q8 aln aln (b1 func85) func85
def qav:FIn:=⟨[.str,.str],[]⟩
def qan:List FOut:=[⟨(.int .i64),[],none⟩]
noncomputable def q1F:List PV->TR:=qjD
set_option maxRecDepth 100000 in
theorem qep:zb prog qa 121 (q9 qav qan q1F):=qoc lays106 (yj func121 (by kernel_rfl) (by kernel_rfl))
def qba:FIn:=⟨[.str,.str],[]⟩
def qbF:List FOut:=[⟨(.int .i64),[],none⟩]
noncomputable def qgB:=qe [(121,q9 qav qan q1F)] [(86,f86)] [] 0
noncomputable def q4H:=qw qgB 86 f86 true qba qbF
theorem qji:zb prog qa 86 (q9 qba qbF q4H):=sk qgB qc q8 (alc qep aln) aln (b1 func86) func86
def q4o:FIn:=⟨[.str,.str],[]⟩
def q4u:List FOut:=[⟨(.tuple [(.int .i64),(.int .i64)]),[],none⟩]
noncomputable def qcS:=qe [(84,q9 q1m q1u wd),(85,q9 q5O q5E jZ),(86,q9 qba qbF q4H),(87,q9 jN jK z8)] [(57,f57)] [] 0
noncomputable def yk:=qw qcS 57 f57 true q4o q4u
theorem q8V:zb prog qa 57 (q9 q4o q4u yk):=sk qcS qc q8 (alc q0E (alc q7C (alc qji (alc q0j aln)))) aln (b1 func57) func57
def q9u:FIn:=⟨[.str],[]⟩
def q9K:List FOut:=[⟨(.tuple [(.int .i64),.any]),[],none⟩]
noncomputable def jj:List PV->TR:=qx4
set_option maxRecDepth 100000 in
theorem qaC:zb prog qa 151 (q9 q9u q9K jj):=quh lays172 (yj func151 (by kernel_rfl) (by kernel_rfl))
def vG:FIn:=⟨[(.ptr 0 0)],[.big [.bool,(.int .i64)] .i64 232]⟩
def vH:List FOut:=[⟨(.ptr 0 0),[.big [.bool,(.int .i64)] .i64 232],none⟩]
def q0X:Tmpl:={ t:=((.ptr 0 0)::qP 28 []),h:=[.big [.bool,(.int .i64)] .i64 232] }
def q0O:List Out:=[⟨(.exit 0),{ t:=((.ptr 0 0)::qP 28 []),h:=[.big [.bool,(.int .i64)] .i64 232] }⟩]
noncomputable def yB:=qe [] [(152,f152)] [] 1
noncomputable def vU:=ke yB 152 f152 2 q0X q0O
theorem q9U:qu prog qa yB.nimp (qL prog yB.iter 152) (zR f152 2) (qt q0X q0O (qh vU)):=gk yB qc q8 aln aln (b1 func152) func152
noncomputable def q6A:=qe [] [(152,f152)] [((152,2),qt q0X q0O (qh vU))] 1
noncomputable def qU:=qw q6A 152 f152 false vG vH
theorem jY:zb prog qa 152 (q9 vG vH qU):=qff (E:=q6A) qc ⟨q4R q8,⟨aln,aln⟩,(alc (lk func152 q9U) aln),(b1 func152)⟩ func152 (by kernel_rfl) (by kernel_rfl) (fun _=>rfl)
def q3x:FIn:=⟨[.str],[]⟩
def q3w:List FOut:=[⟨(.ptr 0 0),[.big [.bool,(.int .i64)] .i64 232],none⟩]
def q9J:Tmpl:={ t:=(.any::.any::.any::.str::(.ptr 0 0)::qP 43 []),h:=[.big [.bool,(.int .i64)] .i64 232] }
def q9q:List Out:=[⟨(.exit 0),{ t:=(qP 4 ((.ptr 0 0)::qP 43 [])),h:=[.big [.bool,(.int .i64)] .i64 232] }⟩]
noncomputable def qbi:List (FuncId×zV):=[(87,q9 jN jK z8),(151,q9 q9u q9K jj),(152,q9 vG vH qU)]
theorem qf1:∀x,x∈qbi->zb prog qa x.1 x.2:=(alc q0j (alc qaC (alc jY aln)))
noncomputable def q5x:=qe qbi [(109,f109)] [] 0
noncomputable def q2r:=ke q5x 109 f109 5 q9J q9q
theorem qip:qu prog qa q5x.nimp (qL prog q5x.iter 109) (zR f109 5) (qt q9J q9q (qh q2r)):=gk q5x qc q8 qf1 aln (b1 func109) func109
noncomputable def qiF:=qe qbi [(109,f109)] [((109,5),qt q9J q9q (qh q2r))] 0
noncomputable def wk:=qw qiF 109 f109 false q3x q3w
theorem q4z:zb prog qa 109 (q9 q3x q3w wk):=qff (E:=qiF) qc ⟨q4R q8,⟨qf1,aln⟩,(alc (lk func109 qip) aln),(b1 func109)⟩ func109 (by kernel_rfl) (by kernel_rfl) (fun _=>rfl)
def qeK:FIn:=⟨[(.int .i64)],[]⟩
def qf7:List FOut:=[⟨.str,[],none⟩]
noncomputable def q2J:List PV->TR:=qxj
set_option maxRecDepth 100000 in
theorem qhR:zb prog qa 153 (q9 qeK qf7 q2J):=qts laysM171 (yj func153 (by kernel_rfl) (by kernel_rfl)) (by kernel_rfl) (by unfold qa;exact qEz)
def q7n:FIn:=⟨[(.int .i64)],[]⟩
def q7p:List FOut:=[⟨.str,[],none⟩]
noncomputable def qmL:=qe [(153,q9 qeK qf7 q2J)] [(110,f110)] [] 0
noncomputable def wn:=qw qmL 110 f110 true q7n q7p
theorem q7l:zb prog qa 110 (q9 q7n q7p wn):=sk qmL qc q8 (alc qhR aln) aln (b1 func110) func110
def q0k:FIn:=⟨[(.ptr 0 0),(.ptr 1 0)],[.big [.bool,(.int .i64)] .i64 232,.big [.bool,(.int .i64)] .i64 232]⟩
def q0c:List FOut:=[⟨(.int .i64),[.big [.bool,(.int .i64)] .i64 232,.big [.bool,(.int .i64)] .i64 232],none⟩]
def q1d:Tmpl:={ t:=((.ptr 0 0)::(.ptr 1 0)::.any::.any::.any::(.int .i64)::qP 53 []),h:=[.big [.bool,(.int .i64)] .i64 232,.big [.bool,(.int .i64)] .i64 232] }
def q1o:List Out:=[⟨(.exit 0),{ t:=(qP 59 []),h:=[.big [.bool,(.int .i64)] .i64 232,.big [.bool,(.int .i64)] .i64 232] }⟩,⟨.ret,{ t:=(qP 4 ((.int .i64)::qP 54 [])),h:=[.big [.bool,(.int .i64)] .i64 232,.big [.bool,(.int .i64)] .i64 232] }⟩]
noncomputable def ud:=qe [] [(154,f154)] [] 2
noncomputable def jp:=ke ud 154 f154 6 q1d q1o
theorem qaq:qu prog qa ud.nimp (qL prog ud.iter 154) (zR f154 6) (qt q1d q1o (qh jp)):=gk ud qc q8 aln aln (b1 func154) func154
noncomputable def q7E:=qe [] [(154,f154)] [((154,6),qt q1d q1o (qh jp))] 2
noncomputable def wP:=qw q7E 154 f154 true q0k q0c
theorem q4U:zb prog qa 154 (q9 q0k q0c wP):=sk q7E qc q8 aln (alc (lk func154 qaq) aln) (b1 func154) func154
def q6m:FIn:=⟨[(.ptr 0 0),(.ptr 1 0)],[.big [.bool,(.int .i64)] .i64 232,.big [.bool,(.int .i64)] .i64 232]⟩
def q68:List FOut:=[⟨(.int .i64),[.big [.bool,(.int .i64)] .i64 232,.big [.bool,(.int .i64)] .i64 232],none⟩]
noncomputable def qco:=qe [] [(155,f155),(195,f195)] [] 2
noncomputable def q0B:=qw qco 155 f155 true q6m q68
theorem qfo:zb prog qa 155 (q9 q6m q68 q0B):=sk qco qc q8 aln aln (alc (bk func155) (alc (bk func195) aln)) func155
def jz:FIn:=⟨[(.ptr 0 0),(.ptr 1 0),(.int .i64),(.int .i64)],[.big [.bool,(.int .i64)] .i64 232,.big [.bool,(.int .i64)] .i64 232]⟩
def js:List FOut:=[⟨(.tuple []),[.big [.bool,(.int .i64)] .i64 232,.big [.bool,(.int .i64)] .i64 232],none⟩]
def q2a:Tmpl:={ t:=((.ptr 0 0)::(.ptr 1 0)::(.int .i64)::(.int .i64)::qP 4 ((.int .i64)::(.int .i64)::qP 73 [])),h:=[.big [.bool,(.int .i64)] .i64 232,.big [.bool,(.int .i64)] .i64 232] }
def q2h:List Out:=[⟨(.exit 0),{ t:=((.ptr 0 0)::qP 82 []),h:=[.big [.bool,(.int .i64)] .i64 232,.big [.bool,(.int .i64)] .i64 232] }⟩]
noncomputable def kl:=qe [(152,q9 vG vH qU)] [(156,f156)] [] 2
noncomputable def vE:=ke kl 156 f156 3 q2a q2h
theorem qbD:qu prog qa kl.nimp (qL prog kl.iter 156) (zR f156 3) (qt q2a q2h (qh vE)):=gk kl qc q8 (alc jY aln) aln (b1 func156) func156
noncomputable def q8Q:=qe [(152,q9 vG vH qU)] [(156,f156)] [((156,3),qt q2a q2h (qh vE))] 2
noncomputable def qY:=qw q8Q 156 f156 true jz js
theorem u7:zb prog qa 156 (q9 jz js qY):=sk q8Q qc q8 (alc jY aln) (alc (lk func156 qbD) aln) (b1 func156) func156
def q42:FIn:=⟨[(.ptr 0 0),(.ptr 1 0)],[.big [.bool,(.int .i64)] .i64 232,.big [.bool,(.int .i64)] .i64 232]⟩
def q4p:List FOut:=[⟨(.tuple [(.ptr 2 0),(.ptr 3 0)]),[.big [.bool,(.int .i64)] .i64 232,.big [.bool,(.int .i64)] .i64 232,.big [.bool,(.int .i64)] .i64 232,.big [.bool,(.int .i64)] .i64 232],none⟩]
def q4A:Tmpl:={ t:=((.ptr 0 0)::(.ptr 1 0)::qP 4 ((.ptr 2 0)::(.ptr 3 0)::(.int .i64)::(.int .i64)::qP 80 [])),h:=[.big [.bool,(.int .i64)] .i64 232,.big [.bool,(.int .i64)] .i64 232,.big [.bool,(.int .i64)] .i64 232,.big [.bool,(.int .i64)] .i64 232] }
def q41:List Out:=[⟨(.exit 2),{ t:=((.ptr 0 0)::(.ptr 1 0)::qP 4 ((.ptr 2 0)::(.ptr 3 0)::(.int .i64)::(.int .i64)::qP 80 [])),h:=[.big [.bool,(.int .i64)] .i64 232,.big [.bool,(.int .i64)] .i64 232,.big [.bool,(.int .i64)] .i64 232,.big [.bool,(.int .i64)] .i64 232] }⟩]
noncomputable def q32:List (FuncId×zV):=[(152,q9 vG vH qU),(154,q9 q0k q0c wP),(155,q9 q6m q68 q0B),(156,q9 jz js qY)]
theorem q5e:∀x,x∈q32->zb prog qa x.1 x.2:=(alc jY (alc q4U (alc qfo (alc u7 aln))))
noncomputable def q0Y:=qe q32 [(111,f111)] [] 2
noncomputable def jC:=ke q0Y 111 f111 14 q4A q41
theorem qdk:qu prog qa q0Y.nimp (qL prog q0Y.iter 111) (zR f111 14) (qt q4A q41 (qh jC)):=gk q0Y qc q8 q5e aln (b1 func111) func111
def q52:Tmpl:={ t:=((.ptr 0 0)::(.ptr 1 0)::qP 4 ((.ptr 2 0)::(.ptr 3 0)::(.int .i64)::qP 81 [])),h:=[.big [.bool,(.int .i64)] .i64 232,.big [.bool,(.int .i64)] .i64 232,.big [.bool,(.int .i64)] .i64 232,.big [.bool,(.int .i64)] .i64 232] }
def q4Z:List Out:=[⟨(.exit 0),{ t:=(qP 6 ((.ptr 2 0)::(.ptr 3 0)::qP 82 [])),h:=[.big [.bool,(.int .i64)] .i64 232,.big [.bool,(.int .i64)] .i64 232,.big [.bool,(.int .i64)] .i64 232,.big [.bool,(.int .i64)] .i64 232] }⟩]
noncomputable def q1I:=qe q32 [(111,f111)] [((111,14),qt q4A q41 (qh jC))] 2
noncomputable def kD:=ke q1I 111 f111 4 q52 q4Z
theorem qew:qu prog qa q1I.nimp (qL prog q1I.iter 111) (zR f111 4) (qt q52 q4Z (qh kD)):=gk q1I qc q8 q5e (alc (lk func111 qdk) aln) (b1 func111) func111
noncomputable def qcL:=qe q32 [(111,f111)] [((111,4),qt q52 q4Z (qh kD))] 2
noncomputable def yw:=qw qcL 111 f111 false q42 q4p
theorem q96:zb prog qa 111 (q9 q42 q4p yw):=qff (E:=qcL) qc ⟨q4R q8,⟨q5e,aln⟩,(alc (lk func111 qew) aln),(b1 func111)⟩ func111 (by kernel_rfl) (by kernel_rfl) (fun _=>rfl)
def q1Z:FIn:=⟨[(.ptr 0 0)],[.big [.bool,(.int .i64)] .i64 232]⟩
def q1X:List FOut:=[⟨.str,[.big [.bool,(.int .i64)] .i64 232],none⟩]
noncomputable def zj:List PV->TR:=qws
theorem q2e:zb prog qa 112 (q9 q1Z q1X zj):=qtY (by unfold qa;exact qEz)
def q7I:FIn:=⟨[.str,.str],[]⟩
def q7F:List FOut:=[⟨(.tuple [.str,(.int .i64)]),[],none⟩]
def q9V:Tmpl:={ t:=(qP 9 ((.int .i64)::(.int .i64)::qP 61 [])),h:=[] }
def q9Q:List Out:=[⟨(.exit 2),{ t:=(qP 9 ((.int .i64)::qP 62 [])),h:=[] }⟩]
noncomputable def q92:List (FuncId×zV):=[(84,q9 q1m q1u wd),(109,q9 q3x q3w wk),(110,q9 q7n q7p wn),(111,q9 q42 q4p yw),(112,q9 q1Z q1X zj)]
theorem qb6:∀x,x∈q92->zb prog qa x.1 x.2:=(alc q0E (alc q4z (alc q7l (alc q96 (alc q2e aln)))))
noncomputable def q5C:=qe q92 [(76,f76)] [] 0
noncomputable def q0G:=ke q5C 76 f76 14 q9V q9Q
theorem qhw:qu prog qa q5C.nimp (qL prog q5C.iter 76) (zR f76 14) (qt q9V q9Q (qh q0G)):=gk q5C qc q8 qb6 aln (b1 func76) func76
def qbM:Tmpl:={ t:=(qP 7 ((.ptr 1 0)::(.ptr 2 0)::qP 63 [])),h:=[.dead,.big [.bool,(.int .i64)] .i64 232,.big [.bool,(.int .i64)] .i64 232],sw:=[(7,1),(8,2)],swn:=0 }
def qbI:List Out:=[⟨(.exit 0),{ t:=(qP 7 ((.ptr 1 0)::qP 64 [])),h:=[.dead,.big [.bool,(.int .i64)] .i64 232] }⟩,⟨.ret,{ t:=(qP 4 (.str::(.int .i64)::qP 66 [])),h:=[] }⟩]
noncomputable def q7f:=qe q92 [(76,f76)] [((76,14),qt q9V q9Q (qh q0G))] 0
noncomputable def q4B:=ke q7f 76 f76 7 qbM qbI
theorem qj3:qu prog qa q7f.nimp (qL prog q7f.iter 76) (zR f76 7) (qt qbM qbI (qh q4B)):=gk q7f qc q8 qb6 (alc (lk func76 qhw) aln) (b1 func76) func76
noncomputable def qkF:=qe q92 [(76,f76)] [((76,7),qt qbM qbI (qh q4B))] 0
noncomputable def q1i:=qw qkF 76 f76 true q7I q7F
theorem q9m:zb prog qa 76 (q9 q7I q7F q1i):=sk qkF qc q8 qb6 (alc (lk func76 qj3) aln) (b1 func76) func76
def ja:FIn:=⟨[.str],[]⟩
def jh:List FOut:=[⟨(.int .i64),[],none⟩]
noncomputable def qgH:=qe [(55,q9 uQ uK qE),(57,q9 q4o q4u yk),(75,q9 ub uf z7),(76,q9 q7I q7F q1i)] [(48,f48)] [] 0
noncomputable def qJ:=qw qgH 48 f48 true ja jh
theorem vN:zb prog qa 48 (q9 ja jh qJ):=sk qgH qc q8 (alc ya (alc q8V (alc u5 (alc q9m aln)))) aln (b1 func48) func48
def q3X:FIn:=⟨[(.agg [.str,.str,.str])],[]⟩
def q4x:List FOut:=[⟨(.int .i64),[],none⟩]
def q85:Tmpl:={ t:=(.any::(.ptr 0 0)::qP 12 ((.vec 1)::(.int .i64)::(.int .i64)::qP 13 [])),h:=[.cells [.str,.str,.str],.vec 30 [.str]] }
def q7Z:List Out:=[⟨(.exit 0),{ t:=(.any::(.ptr 0 0)::qP 28 []),h:=[.cells [.str,.str,.str]] }⟩,⟨.ret,{ t:=(.any::.any::(.int .i64)::qP 27 []),h:=[] }⟩]
noncomputable def q3N:=qe [(48,q9 ja jh qJ)] [(47,f47)] [] 0
noncomputable def q1k:=ke q3N 47 f47 3 q85 q7Z
theorem qhm:qu prog qa q3N.nimp (qL prog q3N.iter 47) (zR f47 3) (qt q85 q7Z (qh q1k)):=gk q3N qc q8 (alc vN aln) aln (b1 func47) func47
noncomputable def qgp:=qe [(48,q9 ja jh qJ)] [(47,f47)] [((47,3),qt q85 q7Z (qh q1k))] 0
noncomputable def uo:=qw qgp 47 f47 true q3X q4x
theorem q6o:zb prog qa 47 (q9 q3X q4x uo):=sk qgp qc q8 (alc vN aln) (alc (lk func47 qhm) aln) (b1 func47) func47
def qd5:FIn:=⟨[(.imm [.str,.str,.str])],[]⟩
def qcO:List FOut:=[⟨(.int .i64),[],none⟩]
def q9o:Tmpl:={ t:=((.imm [.str,.str,.str])::qP 8 ((.imm [.str,.str,.str])::(.int .i64)::(.int .i64)::qP 12 [])),h:=[] }
def q9P:List Out:=[⟨(.exit 0),{ t:=((.imm [.str,.str,.str])::qP 23 []),h:=[] }⟩,⟨.ret,{ t:=(.any::.any::(.int .i64)::qP 21 []),h:=[] }⟩]
noncomputable def q5y:=qe [(47,q9 q3X q4x uo)] [(45,f45)] [] 0
noncomputable def q2I:=ke q5y 45 f45 6 q9o q9P
theorem qiq:qu prog qa q5y.nimp (qL prog q5y.iter 45) (zR f45 6) (qt q9o q9P (qh q2I)):=gk q5y qc q8 (alc q6o aln) aln (b1 func45) func45
noncomputable def qiV:=qe [(47,q9 q3X q4x uo)] [(45,f45)] [((45,6),qt q9o q9P (qh q2I))] 0
noncomputable def q3J:=qw qiV 45 f45 true qd5 qcO
theorem qkJ:zb prog qa 45 (q9 qd5 qcO q3J):=sk qiV qc q8 (alc q6o aln) (alc (lk func45 qiq) aln) (b1 func45) func45
def q4i:FIn:=⟨[.str,.str],[]⟩
def q4n:List FOut:=[⟨(.tuple [(.int .i64),(.int .i64),.bool]),[],none⟩]
noncomputable def qhk:=qe [(151,q9 q9u q9K jj)] [(117,f117)] [] 0
noncomputable def jU:=qw qhk 117 f117 true q4i q4n
theorem q6a:zb prog qa 117 (q9 q4i q4n jU):=sk qhk qc q8 (alc qaC aln) aln (b1 func117) func117
def q5z:FIn:=⟨[(.int .i64)],[]⟩
def q5s:List FOut:=[⟨(.tuple [.str,(.int .i64)]),[],none⟩]
noncomputable def qeL:=qe [(110,q9 q7n q7p wn)] [(118,f118)] [] 0
noncomputable def uC:=qw qeL 118 f118 true q5z q5s
theorem qaF:zb prog qa 118 (q9 q5z q5s uC):=sk qeL qc q8 (alc q7l aln) aln (b1 func118) func118
def q4s:FIn:=⟨[(.ptr 0 0),(.ptr 1 0)],[.big [.bool,(.int .i64)] .i64 232,.big [.bool,(.int .i64)] .i64 232]⟩
def q40:List FOut:=[⟨(.ptr 2 0),[.big [.bool,(.int .i64)] .i64 232,.big [.bool,(.int .i64)] .i64 232,.big [.bool,(.int .i64)] .i64 232],none⟩]
def q2f:Tmpl:={ t:=((.ptr 0 0)::(.ptr 1 0)::.any::.any::.any::(.ptr 2 0)::qP 15 ((.int .i64)::(.int .i64)::qP 14 [])),h:=[.big [.bool,(.int .i64)] .i64 232,.big [.bool,(.int .i64)] .i64 232,.big [.bool,(.int .i64)] .i64 232] }
def q2b:List Out:=[⟨(.exit 0),{ t:=(qP 5 ((.ptr 2 0)::qP 31 [])),h:=[.big [.bool,(.int .i64)] .i64 232,.big [.bool,(.int .i64)] .i64 232,.big [.bool,(.int .i64)] .i64 232] }⟩]
noncomputable def kj:=qe [(156,q9 jz js qY)] [(119,f119)] [] 2
noncomputable def jL:=ke kj 119 f119 4 q2f q2b
theorem qbf:qu prog qa kj.nimp (qL prog kj.iter 119) (zR f119 4) (qt q2f q2b (qh jL)):=gk kj qc q8 (alc u7 aln) aln (b1 func119) func119
noncomputable def q8Z:=qe [(156,q9 jz js qY)] [(119,f119)] [((119,4),qt q2f q2b (qh jL))] 2
noncomputable def ui:=qw q8Z 119 f119 false q4s q40
theorem qdC:zb prog qa 119 (q9 q4s q40 ui):=qff (E:=q8Z) qc ⟨q4R q8,⟨(alc u7 aln),aln⟩,(alc (lk func119 qbf) aln),(b1 func119)⟩ func119 (by kernel_rfl) (by kernel_rfl) (fun _=>rfl)
def kg:FIn:=⟨[(.ptr 0 0)],[.big [.bool,(.int .i64)] .i64 232]⟩
def kr:List FOut:=[⟨(.tuple [.str,(.int .i64)]),[.big [.bool,(.int .i64)] .i64 232],none⟩]
noncomputable def q6J:=qe [(75,q9 ub uf z7),(112,q9 q1Z q1X zj)] [(120,f120)] [] 1
noncomputable def wi:=qw q6J 120 f120 true kg kr
theorem q4h:zb prog qa 120 (q9 kg kr wi):=sk q6J qc q8 (alc u5 (alc q2e aln)) aln (b1 func120) func120
def q7T:FIn:=⟨[.str,.str],[]⟩
def q82:List FOut:=[⟨(.tuple [.str,(.int .i64)]),[],none⟩]
noncomputable def qkQ:=qe [(84,q9 q1m q1u wd),(109,q9 q3x q3w wk),(117,q9 q4i q4n jU),(118,q9 q5z q5s uC),(119,q9 q4s q40 ui),(120,q9 kg kr wi)] [(83,f83)] [] 0
noncomputable def q3l:=qw qkQ 83 f83 true q7T q82
theorem q9H:zb prog qa 83 (q9 q7T q82 q3l):=sk qkQ qc q8 (alc q0E (alc q4z (alc q6a (alc qaF (alc qdC (alc q4h aln)))))) aln (b1 func83) func83
def ji:FIn:=⟨[(.ptr 0 0),(.fn 83 [] []),.str,.str],[.cells [(.int .i64)]]⟩
def j9:List FOut:=[⟨.str,[.cells [(.int .i64)]],none⟩]
noncomputable def q2B:=qe [(83,q9 q7T q82 q3l)] [(82,f82)] [] 1
noncomputable def zC:=qw q2B 82 f82 true ji j9
theorem q17:zb prog qa 82 (q9 ji j9 zC):=sk q2B qc q8 (alc q9H aln) aln (b1 func82) func82
def wJ:FIn:=⟨[(.ptr 0 0),(.imm [.str])],[.cells [(.int .i64)]]⟩
def wI:List FOut:=[⟨.str,[.cells [(.int .i64)]],none⟩]
def q4E:Tmpl:={ t:=(qP 5 (.str::(.fn 82 [(.ptr 0 0)] [])::qP 4 ((.imm [.str])::(.int .i64)::(.int .i64)::qP 9 []))),h:=[.cells [(.int .i64)]] }
def q47:List Out:=[⟨(.exit 0),{ t:=(qP 5 (.str::qP 17 [])),h:=[.cells [(.int .i64)]] }⟩]
noncomputable def q10:=qe [(83,q9 q7T q82 q3l),(82,q9 ji j9 zC)] [(56,f56)] [] 1
noncomputable def jr:=ke q10 56 f56 4 q4E q47
theorem qdG:qu prog qa q10.nimp (qL prog q10.iter 56) (zR f56 4) (qt q4E q47 (qh jr)):=gk q10 qc q8 (alc q9H (alc q17 aln)) aln (b1 func56) func56
noncomputable def qcc:=qe [(83,q9 q7T q82 q3l),(82,q9 ji j9 zC)] [(56,f56)] [((56,4),qt q4E q47 (qh jr))] 1
noncomputable def qf:=qw qcc 56 f56 true wJ wI
theorem wM:zb prog qa 56 (q9 wJ wI qf):=sk qcc qc q8 (alc q9H (alc q17 aln)) (alc (lk func56 qdG) aln) (b1 func56) func56
def q1J:FIn:=⟨[(.ptr 0 0),(.ptr 1 0)],[.big [.bool,(.int .i64)] .i64 232,.big [.bool,(.int .i64)] .i64 232]⟩
def q1A:List FOut:=[⟨(.tuple []),[.big [.bool,(.int .i64)] .i64 232,.big [.bool,(.int .i64)] .i64 232],none⟩]
noncomputable def qaB:=qe [(154,q9 q0k q0c wP),(156,q9 jz js qY)] [(241,f241)] [] 2
noncomputable def wZ:=qw qaB 241 f241 true q1J q1A
theorem q6H:zb prog qa 241 (q9 q1J q1A wZ):=sk qaB qc q8 (alc q4U (alc u7 aln)) aln (b1 func241) func241
def qfO:FIn:=⟨[(.imm [.str])],[]⟩
def qfL:List FOut:=[⟨(.tuple [.str,(.int .i64)]),[],none⟩]
def qbj:Tmpl:={ t:=(qP 4 ((.ptr 0 0)::qP 4 ((.imm [.str])::(.int .i64)::(.int .i64)::qP 12 []))),h:=[.big [.bool,(.int .i64)] .i64 232] }
def qb0:List Out:=[⟨(.exit 0),{ t:=(qP 4 ((.ptr 0 0)::qP 19 [])),h:=[.big [.bool,(.int .i64)] .i64 232] }⟩]
noncomputable def qdO:List (FuncId×zV):=[(109,q9 q3x q3w wk),(120,q9 kg kr wi),(241,q9 q1J q1A wZ)]
theorem qgQ:∀x,x∈qdO->zb prog qa x.1 x.2:=(alc q4z (alc q4h (alc q6H aln)))
noncomputable def q75:=qe qdO [(227,f227)] [] 0
noncomputable def q4q:=ke q75 227 f227 4 qbj qb0
theorem qjg:qu prog qa q75.nimp (qL prog q75.iter 227) (zR f227 4) (qt qbj qb0 (qh q4q)):=gk q75 qc q8 qgQ aln (b1 func227) func227
noncomputable def ql6:=qe qdO [(227,f227)] [((227,4),qt qbj qb0 (qh q4q))] 0
noncomputable def q7L:=qw ql6 227 f227 true qfO qfL
theorem qlN:zb prog qa 227 (q9 qfO qfL q7L):=sk ql6 qc q8 qgQ (alc (lk func227 qjg) aln) (b1 func227) func227
def q7v:FIn:=⟨[.str,.str],[]⟩
def q7G:List FOut:=[⟨(.tuple [.str,(.int .i64)]),[],none⟩]
noncomputable def qks:=qe [(84,q9 q1m q1u wd),(117,q9 q4i q4n jU),(118,q9 q5z q5s uC),(227,q9 qfO qfL q7L)] [(206,f206)] [] 0
noncomputable def q1w:=qw qks 206 f206 true q7v q7G
theorem q9z:zb prog qa 206 (q9 q7v q7G q1w):=sk qks qc q8 (alc q0E (alc q6a (alc qaF (alc qlN aln)))) aln (b1 func206) func206
def q6k:FIn:=⟨[.str],[]⟩
def q6n:List FOut:=[⟨.str,[],none⟩]
noncomputable def qc8:=qe [(85,q9 q5O q5E jZ)] [(224,f224)] [] 0
noncomputable def q0m:=qw qc8 224 f224 true q6k q6n
theorem qfy:zb prog qa 224 (q9 q6k q6n q0m):=sk qc8 qc q8 (alc q7C aln) aln (b1 func224) func224
def qbP:FIn:=⟨[.str,.str],[]⟩
def qaS:List FOut:=[⟨(.tuple [.str,(.int .i64)]),[],none⟩]
noncomputable def qjZ:=qe [(84,q9 q1m q1u wd),(206,q9 q7v q7G q1w),(224,q9 q6k q6n q0m)] [(200,f200)] [] 0
noncomputable def q54:=qw qjZ 200 f200 true qbP qaS
theorem qf5:zb prog qa 200 (q9 qbP qaS q54):=sk qjZ qc q8 (alc q0E (alc q9z (alc qfy aln))) aln (b1 func200) func200
def uA:FIn:=⟨[(.ptr 0 0),(.fn 200 [] []),.str,.str],[.cells [(.int .i64)]]⟩
def uT:List FOut:=[⟨.str,[.cells [(.int .i64)]],none⟩]
noncomputable def q2l:=qe [(200,q9 qbP qaS q54)] [(82,f82)] [] 1
noncomputable def wy:=qw q2l 82 f82 true uA uT
theorem q6O:zb prog qa 82 (q9 uA uT wy):=sk q2l qc q8 (alc qf5 aln) aln (b1 func82) func82
def yW:FIn:=⟨[(.ptr 0 0),.str,.str],[.cells [(.int .i64)]]⟩
def yY:List FOut:=[⟨.str,[.cells [(.int .i64)]],none⟩]
noncomputable def qcd:=qe [(200,q9 qbP qaS q54),(82,q9 uA uT wy)] [(163,f163)] [] 1
noncomputable def zg:=qw qcd 163 f163 true yW yY
theorem q0b:zb prog qa 163 (q9 yW yY zg):=sk qcd qc q8 (alc qf5 (alc q6O aln)) aln (b1 func163) func163
def q73:FIn:=⟨[(.ptr 0 0),.str,.str,.str,.str],[.cells [(.int .i64)]]⟩
def q79:List FOut:=[⟨(.tuple [.str,.str]),[.cells [(.int .i64)]],none⟩]
noncomputable def qgN:=qe [(56,q9 wJ wI qf),(163,q9 yW yY zg)] [(162,f162)] [] 1
noncomputable def q1W:=qw qgN 162 f162 true q73 q79
theorem qcp:zb prog qa 162 (q9 q73 q79 q1W):=sk qgN qc q8 (alc wM (alc q0b aln)) aln (b1 func162) func162
def wC:FIn:=⟨[(.imm [.str])],[]⟩
def wB:List FOut:=[⟨(.int .i64),[],none⟩]
def q69:Tmpl:={ t:=(qP 6 ((.imm [.str])::(.int .i64)::(.int .i64)::qP 9 [])),h:=[] }
def q5Y:List Out:=[⟨(.exit 0),{ t:=(qP 18 []),h:=[] }⟩,⟨.ret,{ t:=(.any::.any::(.int .i64)::qP 15 []),h:=[] }⟩]
noncomputable def q2S:=qe [(48,q9 ja jh qJ)] [(54,f54)] [] 0
noncomputable def q0t:=ke q2S 54 f54 3 q69 q5Y
theorem qfZ:qu prog qa q2S.nimp (qL prog q2S.iter 54) (zR f54 3) (qt q69 q5Y (qh q0t)):=gk q2S qc q8 (alc vN aln) aln (b1 func54) func54
noncomputable def qeJ:=qe [(48,q9 ja jh qJ)] [(54,f54)] [((54,3),qt q69 q5Y (qh q0t))] 0
noncomputable def qv:=qw qeJ 54 f54 true wC wB
theorem zQ:zb prog qa 54 (q9 wC wB qv):=sk qeJ qc q8 (alc vN aln) (alc (lk func54 qfZ) aln) (b1 func54) func54
def q3g:FIn:=⟨[.str,.str],[]⟩
def q3i:List FOut:=[⟨.bool,[],none⟩]
noncomputable def q7R:=qe [(166,q9 zL zK qI)] [(221,f221)] [] 0
noncomputable def yq:=qw q7R 221 f221 true q3g q3i
theorem qcw:zb prog qa 221 (q9 q3g q3i yq):=sk q7R qc q8 (alc yp aln) aln (b1 func221) func221
def q9Z:FIn:=⟨[.str,.str],[]⟩
def q9i:List FOut:=[⟨.str,[],none⟩]
noncomputable def qeM:=qe [] [(222,f222)] [] 0
noncomputable def q0F:=qw qeM 222 f222 true q9Z q9i
theorem qi2:zb prog qa 222 (q9 q9Z q9i q0F):=sk qeM qc q8 aln aln (b1 func222) func222
def q9E:FIn:=⟨[.str,.str],[]⟩
def q9S:List FOut:=[⟨(.tuple [.str,.str,(.int .i64)]),[],none⟩]
noncomputable def qeB:=qe [(84,q9 q1m q1u wd),(109,q9 q3x q3w wk),(110,q9 q7n q7p wn),(111,q9 q42 q4p yw),(112,q9 q1Z q1X zj),(117,q9 q4i q4n jU),(241,q9 q1J q1A wZ)] [(240,f240)] [] 0
noncomputable def q2t:=qw qeB 240 f240 true q9E q9S
theorem qhW:zb prog qa 240 (q9 q9E q9S q2t):=sk qeB qc q8 (alc q0E (alc q4z (alc q7l (alc q96 (alc q2e (alc q6a (alc q6H aln))))))) aln (b1 func240) func240
def qbn:FIn:=⟨[.str,.str],[]⟩
def qb7:List FOut:=[⟨(.tuple [.str,(.int .i64)]),[],none⟩]
noncomputable def qjS:=qe [(75,q9 ub uf z7),(240,q9 q9E q9S q2t)] [(223,f223)] [] 0
noncomputable def q56:=qw qjS 223 f223 true qbn qb7
theorem qeH:zb prog qa 223 (q9 qbn qb7 q56):=sk qjS qc q8 (alc u5 (alc qhW aln)) aln (b1 func223) func223
def jd:FIn:=⟨[(.ptr 0 0),(.fn 76 [] []),.str,.str],[.cells [(.int .i64)]]⟩
def uU:List FOut:=[⟨.str,[.cells [(.int .i64)]],none⟩]
noncomputable def q2L:=qe [(76,q9 q7I q7F q1i)] [(82,f82)] [] 1
noncomputable def wH:=qw q2L 82 f82 true jd uU
theorem q6T:zb prog qa 82 (q9 jd uU wH):=sk q2L qc q8 (alc q9m aln) aln (b1 func82) func82
def je:FIn:=⟨[(.ptr 0 0),(.fn 223 [] []),.str,.str],[.cells [(.int .i64)]]⟩
def uS:List FOut:=[⟨.str,[.cells [(.int .i64)]],none⟩]
noncomputable def q2x:=qe [(223,q9 qbn qb7 q56)] [(82,f82)] [] 1
noncomputable def qW:=qw q2x 82 f82 true je uS
theorem q7k:zb prog qa 82 (q9 je uS qW):=sk q2x qc q8 (alc qeH aln) aln (b1 func82) func82
def vV:FIn:=⟨[(.ptr 0 0),.str,.str],[.cells [(.int .i64)]]⟩
def j6:List FOut:=[⟨.str,[.cells [(.int .i64)]],none⟩]
noncomputable def q84:=qe [(76,q9 q7I q7F q1i),(163,q9 yW yY zg),(221,q9 q3g q3i yq),(222,q9 q9Z q9i q0F),(223,q9 qbn qb7 q56),(82,qE3 [(jd,q9 jd uU wH),(je,q9 je uS qW)])] [(199,f199)] [] 1
noncomputable def qZ:=qw q84 199 f199 true vV j6
theorem yx:zb prog qa 199 (q9 vV j6 qZ):=sk q84 qc q8 (alc q9m (alc q0b (alc qcw (alc qi2 (alc qeH (alc (qyG (yj func82 (by kernel_rfl) (by kernel_rfl)) (qsL q6T (qsL q7k qAf))) aln)))))) aln (b1 func199) func199
def kz:FIn:=⟨[.str,.str,(.fn 162 [] [])],[]⟩
def kE:List FOut:=[⟨(.tuple [.str,(.int .i64)]),[],none⟩]
noncomputable def q3y:=qe [(54,q9 wC wB qv),(55,q9 uQ uK qE),(162,q9 q73 q79 q1W),(199,q9 vV j6 qZ)] [(161,f161)] [] 0
noncomputable def wX:=qw q3y 161 f161 true kz kE
theorem q7u:zb prog qa 161 (q9 kz kE wX):=sk q3y qc q8 (alc zQ (alc ya (alc qcp (alc yx aln)))) aln (b1 func161) func161
def q5j:FIn:=⟨[.str,.str],[]⟩
def q50:List FOut:=[⟨(.tuple [.str,(.int .i64)]),[],none⟩]
noncomputable def qk8:=qe [(162,q9 q73 q79 q1W),(161,q9 kz kE wX)] [(115,f115)] [] 0
noncomputable def zu:=qw qk8 115 f115 true q5j q50
theorem q2C:zb prog qa 115 (q9 q5j q50 zu):=sk qk8 qc q8 (alc qcp (alc q7u aln)) aln (b1 func115) func115
def uv:FIn:=⟨[(.ptr 0 0),(.fn 115 [] []),.str,.str],[.cells [(.int .i64)]]⟩
def uw:List FOut:=[⟨.str,[.cells [(.int .i64)]],none⟩]
noncomputable def q2p:=qe [(115,q9 q5j q50 zu)] [(114,f114)] [] 1
noncomputable def wt:=qw q2p 114 f114 true uv uw
theorem q6X:zb prog qa 114 (q9 uv uw wt):=sk q2p qc q8 (alc q2C aln) aln (b1 func114) func114
def yZ:FIn:=⟨[(.ptr 0 0),.str,.str],[.cells [(.int .i64)]]⟩
def yX:List FOut:=[⟨.str,[.cells [(.int .i64)]],none⟩]
noncomputable def qbY:=qe [(115,q9 q5j q50 zu),(114,q9 uv uw wt)] [(78,f78)] [] 1
noncomputable def qS:=qw qbY 78 f78 true yZ yX
theorem q0g:zb prog qa 78 (q9 yZ yX qS):=sk qbY qc q8 (alc q2C (alc q6X aln)) aln (b1 func78) func78
def kF:FIn:=⟨[(.ptr 0 0),(.agg [.str,.str]),(.agg [.str,.str])],[.cells [(.int .i64)]]⟩
def kS:List FOut:=[⟨(.agg [.str,.str]),[.cells [(.int .i64)]],none⟩]
noncomputable def qaO:=qe [(78,q9 yZ yX qS)] [(79,f79)] [] 1
noncomputable def zT:=qw qaO 79 f79 true kF kS
theorem q27:zb prog qa 79 (q9 kF kS zT):=sk qaO qc q8 (alc q0g aln) aln (b1 func79) func79
def uY:FIn:=⟨[(.ptr 0 0),(.fn 206 [] []),.str,.str],[.cells [(.int .i64)]]⟩
def uD:List FOut:=[⟨.str,[.cells [(.int .i64)]],none⟩]
noncomputable def q2F:=qe [(206,q9 q7v q7G q1w)] [(82,f82)] [] 1
noncomputable def wG:=qw q2F 82 f82 true uY uD
theorem q7h:zb prog qa 82 (q9 uY uD wG):=sk q2F qc q8 (alc q9z aln) aln (b1 func82) func82
def q2X:FIn:=⟨[(.ptr 0 0),.str,.str],[.cells [(.int .i64)]]⟩
def q2Y:List FOut:=[⟨.str,[.cells [(.int .i64)]],none⟩]
noncomputable def qbZ:=qe [(206,q9 q7v q7G q1w),(82,q9 uY uD wG)] [(168,f168)] [] 1
noncomputable def jJ:=qw qbZ 168 f168 true q2X q2Y
theorem q7x:zb prog qa 168 (q9 q2X q2Y jJ):=sk qbZ qc q8 (alc q9z (alc q7h aln)) aln (b1 func168) func168
def q7c:FIn:=⟨[(.ptr 0 0),.str,.str,.str,.str],[.cells [(.int .i64)]]⟩
def q70:List FOut:=[⟨(.tuple [.str,.str]),[.cells [(.int .i64)]],none⟩]
noncomputable def qgE:=qe [(56,q9 wJ wI qf),(168,q9 q2X q2Y jJ)] [(167,f167)] [] 1
noncomputable def q1z:=qw qgE 167 f167 true q7c q70
theorem qbR:zb prog qa 167 (q9 q7c q70 q1z):=sk qgE qc q8 (alc wM (alc q7x aln)) aln (b1 func167) func167
def kR:FIn:=⟨[.str,.str,(.fn 167 [] [])],[]⟩
def kP:List FOut:=[⟨(.tuple [.str,(.int .i64)]),[],none⟩]
noncomputable def q3v:=qe [(54,q9 wC wB qv),(55,q9 uQ uK qE),(167,q9 q7c q70 q1z),(199,q9 vV j6 qZ)] [(161,f161)] [] 0
noncomputable def wV:=qw q3v 161 f161 true kR kP
theorem q7B:zb prog qa 161 (q9 kR kP wV):=sk q3v qc q8 (alc zQ (alc ya (alc qbR (alc yx aln)))) aln (b1 func161) func161
def q00:FIn:=⟨[.str,.str],[]⟩
def q0h:List FOut:=[⟨(.tuple [.str,(.int .i64)]),[],none⟩]
noncomputable def qlg:=qe [(167,q9 q7c q70 q1z),(161,q9 kR kP wV)] [(123,f123)] [] 0
noncomputable def vB:=qw qlg 123 f123 true q00 q0h
theorem uR:zb prog qa 123 (q9 q00 q0h vB):=sk qlg qc q8 (alc qbR (alc q7B aln)) aln (b1 func123) func123
def uZ:FIn:=⟨[(.ptr 0 0),(.fn 123 [] []),.str,.str],[.cells [(.int .i64)]]⟩
def uF:List FOut:=[⟨.str,[.cells [(.int .i64)]],none⟩]
noncomputable def q2o:=qe [(123,q9 q00 q0h vB)] [(114,f114)] [] 1
noncomputable def wu:=qw q2o 114 f114 true uZ uF
theorem q7e:zb prog qa 114 (q9 uZ uF wu):=sk q2o qc q8 (alc uR aln) aln (b1 func114) func114
def q0o:FIn:=⟨[(.ptr 0 0),.str,.str],[.cells [(.int .i64)]]⟩
def q0v:List FOut:=[⟨.str,[.cells [(.int .i64)]],none⟩]
noncomputable def qc5:=qe [(123,q9 q00 q0h vB),(114,q9 uZ uF wu)] [(88,f88)] [] 1
noncomputable def zw:=qw qc5 88 f88 true q0o q0v
theorem q3q:zb prog qa 88 (q9 q0o q0v zw):=sk qc5 qc q8 (alc uR (alc q7e aln)) aln (b1 func88) func88
def q77:FIn:=⟨[(.ptr 0 0),.str,.str,.str,.str],[.cells [(.int .i64)]]⟩
def q6U:List FOut:=[⟨(.tuple [.str,.str]),[.cells [(.int .i64)]],none⟩]
noncomputable def qgj:=qe [(56,q9 wJ wI qf)] [(169,f169)] [] 1
noncomputable def q1H:=qw qgj 169 f169 true q77 q6U
theorem qci:zb prog qa 169 (q9 q77 q6U q1H):=sk qgj qc q8 (alc wM aln) aln (b1 func169) func169
def kT:FIn:=⟨[.str,.str,(.fn 169 [] [])],[]⟩
def kQ:List FOut:=[⟨(.tuple [.str,(.int .i64)]),[],none⟩]
noncomputable def q3I:=qe [(54,q9 wC wB qv),(55,q9 uQ uK qE),(169,q9 q77 q6U q1H),(199,q9 vV j6 qZ)] [(161,f161)] [] 0
noncomputable def wQ:=qw q3I 161 f161 true kT kQ
theorem q7D:zb prog qa 161 (q9 kT kQ wQ):=sk q3I qc q8 (alc zQ (alc ya (alc qci (alc yx aln)))) aln (b1 func161) func161
def q3j:FIn:=⟨[.str,.str],[]⟩
def q36:List FOut:=[⟨(.tuple [.str,(.int .i64)]),[],none⟩]
noncomputable def qjW:=qe [(169,q9 q77 q6U q1H),(161,q9 kT kQ wQ)] [(124,f124)] [] 0
noncomputable def wK:=qw qjW 124 f124 true q3j q36
theorem q0L:zb prog qa 124 (q9 q3j q36 wK):=sk qjW qc q8 (alc qci (alc q7D aln)) aln (b1 func124) func124
def uH:FIn:=⟨[(.ptr 0 0),(.fn 124 [] []),.str,.str],[.cells [(.int .i64)]]⟩
def uM:List FOut:=[⟨.str,[.cells [(.int .i64)]],none⟩]
noncomputable def q2G:=qe [(124,q9 q3j q36 wK)] [(114,f114)] [] 1
noncomputable def wD:=qw q2G 114 f114 true uH uM
theorem q6W:zb prog qa 114 (q9 uH uM wD):=sk q2G qc q8 (alc q0L aln) aln (b1 func114) func114
def q0u:FIn:=⟨[(.ptr 0 0),.str,.str],[.cells [(.int .i64)]]⟩
def q0C:List FOut:=[⟨.str,[.cells [(.int .i64)]],none⟩]
noncomputable def qbV:=qe [(124,q9 q3j q36 wK),(114,q9 uH uM wD)] [(89,f89)] [] 1
noncomputable def qX:=qw qbV 89 f89 true q0u q0C
theorem q39:zb prog qa 89 (q9 q0u q0C qX):=sk qbV qc q8 (alc q0L (alc q6W aln)) aln (b1 func89) func89
def q0w:FIn:=⟨[(.ptr 0 0),(.agg [.str,.str]),(.agg [.str,.str])],[.cells [(.int .i64)]]⟩
def q0s:List FOut:=[⟨.str,[.cells [(.int .i64)]],none⟩]
noncomputable def qc3:=qe [(88,q9 q0o q0v zw),(89,q9 q0u q0C qX)] [(80,f80)] [] 1
noncomputable def zx:=qw qc3 80 f80 true q0w q0s
theorem q3b:zb prog qa 80 (q9 q0w q0s zx):=sk qc3 qc q8 (alc q3q (alc q39 aln)) aln (b1 func80) func80
def q6R:FIn:=⟨[(.ptr 0 0),.str,.str,.str,.str],[.cells [(.int .i64)]]⟩
def q74:List FOut:=[⟨(.tuple [.str,.str]),[.cells [(.int .i64)]],none⟩]
noncomputable def qgG:=qe [(56,q9 wJ wI qf)] [(187,f187)] [] 1
noncomputable def q1Q:=qw qgG 187 f187 true q6R q74
theorem qbW:zb prog qa 187 (q9 q6R q74 q1Q):=sk qgG qc q8 (alc wM aln) aln (b1 func187) func187
def kO:FIn:=⟨[.str,.str,(.fn 187 [] [])],[]⟩
def kI:List FOut:=[⟨(.tuple [.str,(.int .i64)]),[],none⟩]
noncomputable def q3K:=qe [(54,q9 wC wB qv),(55,q9 uQ uK qE),(187,q9 q6R q74 q1Q),(199,q9 vV j6 qZ)] [(161,f161)] [] 0
noncomputable def wS:=qw q3K 161 f161 true kO kI
theorem q8b:zb prog qa 161 (q9 kO kI wS):=sk q3K qc q8 (alc zQ (alc ya (alc qbW (alc yx aln)))) aln (b1 func161) func161
def qbc:FIn:=⟨[.str,.str],[]⟩
def qbJ:List FOut:=[⟨(.tuple [.str,(.int .i64)]),[],none⟩]
noncomputable def qlc:=qe [(54,q9 wC wB qv),(187,q9 q6R q74 q1Q),(161,q9 kO kI wS)] [(142,f142)] [] 0
noncomputable def uB:=qw qlc 142 f142 true qbc qbJ
theorem q9X:zb prog qa 142 (q9 qbc qbJ uB):=sk qlc qc q8 (alc zQ (alc qbW (alc q8b aln))) aln (b1 func142) func142
def uJ:FIn:=⟨[(.ptr 0 0),(.fn 142 [] []),.str,.str],[.cells [(.int .i64)]]⟩
def uu:List FOut:=[⟨.str,[.cells [(.int .i64)]],none⟩]
noncomputable def q2Q:=qe [(142,q9 qbc qbJ uB)] [(114,f114)] [] 1
noncomputable def zD:=qw q2Q 114 f114 true uJ uu
theorem q7a:zb prog qa 114 (q9 uJ uu zD):=sk q2Q qc q8 (alc q9X aln) aln (b1 func114) func114
def q19:FIn:=⟨[(.ptr 0 0),(.imm [.str,.str,.str]),(.agg [(.int .i64),(.int .i64),(.int .i64)])],[.cells [(.int .i64)]]⟩
def q13:List FOut:=[⟨(.tuple [(.agg [.str,.str,.str,.str,.str]),.bool]),[.cells [(.int .i64)]],none⟩]
noncomputable def q8T:=qe [(78,q9 yZ yX qS),(79,q9 kF kS zT),(80,q9 q0w q0s zx),(88,q9 q0o q0v zw),(89,q9 q0u q0C qX),(142,q9 qbc qbJ uB),(114,q9 uJ uu zD)] [(103,f103)] [] 1
noncomputable def vD:=qw q8T 103 f103 true q19 q13
theorem q5S:zb prog qa 103 (q9 q19 q13 vD):=sk q8T qc q8 (alc q0g (alc q27 (alc q3b (alc q3q (alc q39 (alc q9X (alc q7a aln))))))) aln (b1 func103) func103
def q8S:FIn:=⟨[.str],[]⟩
def q9b:List FOut:=[⟨(.tuple [(.int .i64),(.int .i64)]),[],none⟩]
noncomputable def qiI:=qe [(75,q9 ub uf z7),(85,q9 q5O q5E jZ)] [(184,f184)] [] 0
noncomputable def q1n:=qw qiI 184 f184 true q8S q9b
theorem qcR:zb prog qa 184 (q9 q8S q9b q1n):=sk qiI qc q8 (alc u5 (alc q7C aln)) aln (b1 func184) func184
def q1R:FIn:=⟨[(.ptr 0 0),.str],[.cells [(.int .i64)]]⟩
def q1L:List FOut:=[⟨(.int .i64),[.cells [(.int .i64)]],none⟩]
noncomputable def qae:=qe [(184,q9 q8S q9b q1n)] [(198,f198)] [] 1
noncomputable def zk:=qw qae 198 f198 true q1R q1L
theorem q6E:zb prog qa 198 (q9 q1R q1L zk):=sk qae qc q8 (alc qcR aln) aln (b1 func198) func198
def q5m:FIn:=⟨[(.ptr 0 0),.str,.str,.str],[.cells [(.int .i64)]]⟩
def q58:List FOut:=[⟨(.int .i64),[.cells [(.int .i64)]],none⟩]
noncomputable def qau:=qe [(56,q9 wJ wI qf),(163,q9 yW yY zg),(198,q9 q1R q1L zk)] [(197,f197)] [] 1
noncomputable def yi:=qw qau 197 f197 true q5m q58
theorem qej:zb prog qa 197 (q9 q5m q58 yi):=sk qau qc q8 (alc wM (alc q0b (alc q6E aln))) aln (b1 func197) func197
def q5c:FIn:=⟨[.str,.str,.str,.str,.str],[]⟩
def q5l:List FOut:=[⟨(.tuple [(.int .i64),(.int .i64)]),[],none⟩]
noncomputable def qah:=qe [(54,q9 wC wB qv),(55,q9 uQ uK qE),(56,q9 wJ wI qf),(163,q9 yW yY zg),(168,q9 q2X q2Y jJ),(197,q9 q5m q58 yi),(198,q9 q1R q1L zk)] [(160,f160)] [] 0
noncomputable def kv:=qw qah 160 f160 true q5c q5l
theorem qen:zb prog qa 160 (q9 q5c q5l kv):=sk qah qc q8 (alc zQ (alc ya (alc wM (alc q0b (alc q7x (alc qej (alc q6E aln))))))) aln (b1 func160) func160
def q60:FIn:=⟨[.str,.str,.str],[]⟩
def q6p:List FOut:=[⟨(.tuple [(.int .i64),(.int .i64)]),[],none⟩]
noncomputable def qbX:=qe [(160,q9 q5c q5l kv)] [(113,f113)] [] 0
noncomputable def q0p:=qw qbX 113 f113 true q60 q6p
theorem qfY:zb prog qa 113 (q9 q60 q6p q0p):=sk qbX qc q8 (alc qen aln) aln (b1 func113) func113
def q1Y:FIn:=⟨[(.ptr 0 0),.str,.str,.str],[.cells [(.int .i64)]]⟩
def q1V:List FOut:=[⟨(.int .i64),[.cells [(.int .i64)]],none⟩]
noncomputable def qax:=qe [(113,q9 q60 q6p q0p)] [(77,f77)] [] 1
noncomputable def j5:=qw qax 77 f77 true q1Y q1V
theorem q6B:zb prog qa 77 (q9 q1Y q1V j5):=sk qax qc q8 (alc qfY aln) aln (b1 func77) func77
def q0Z:FIn:=⟨[(.ptr 0 0),(.agg [.str,.str,.str]),(.agg [.str,.str,.str,.str,.str])],[.cells [(.int .i64)]]⟩
def q1b:List FOut:=[⟨.bool,[.cells [(.int .i64)]],none⟩]
noncomputable def q8I:=qe [(77,q9 q1Y q1V j5),(78,q9 yZ yX qS),(79,q9 kF kS zT),(80,q9 q0w q0s zx),(88,q9 q0o q0v zw),(89,q9 q0u q0C qX)] [(105,f105)] [] 1
noncomputable def ju:=qw q8I 105 f105 true q0Z q1b
theorem q5R:zb prog qa 105 (q9 q0Z q1b ju):=sk q8I qc q8 (alc q6B (alc q0g (alc q27 (alc q3b (alc q3q (alc q39 aln)))))) aln (b1 func105) func105
def q3a:FIn:=⟨[(.ptr 0 0),(.imm [.str,.str,.str]),(.agg [(.int .i64),(.int .i64),(.int .i64)])],[.cells [(.int .i64)]]⟩
def q3s:List FOut:=[⟨.bool,[.cells [(.int .i64)]],none⟩]
def uW:Tmpl:={ t:=((.imm [.str,.str,.str])::(.fn 107 [] [(.ptr 4 0)])::qP 5 ((.int .i64)::(.int .i64)::qP 10 [])),h:=[.cells [(.int .i64)],.cells [(.ptr 0 0)],.cells [(.int .i64),(.int .i64),(.int .i64)],.cells [.str,.str,.str,.str,.str],.cells [(.fn 104 [] [(.ptr 1 0),(.ptr 3 0)])]],fs:=[[(.imm [.str,.str,.str]),(.fn 107 [] [(.ptr 4 0)]),.any,.any,(.blit false),(.imm [.str,.str,.str]),(.fn 107 [] [(.ptr 4 0)]),.any,.any],[(.ptr 0 0),(.imm [.str,.str,.str]),(.agg [(.int .i64),(.int .i64),(.int .i64)]),(.ptr 1 0),.any,(.ptr 2 0),(.blit false),(.ptr 3 0),.bool,(.ptr 4 0),(.tuple [(.agg [.str,.str,.str,.str,.str]),.bool]),(.ptr 0 0),(.imm [.str,.str,.str]),(.agg [(.int .i64),(.int .i64),(.int .i64)]),(.tuple [(.agg [.str,.str,.str,.str,.str]),.bool]),(.agg [.str,.str,.str,.str,.str]),.bool,(.fn 104 [] [(.ptr 1 0),(.ptr 3 0)]),.bool,(.blit true),(.imm [.str,.str,.str]),(.fn 107 [] [(.ptr 4 0)]),.any,.any,.any,.any,.any,.any,.any,.any,.any,.any],[]] }
def uN:List Out:=[⟨(.exit 0),{ t:=(qP 19 []),h:=[.cells [(.int .i64)],.cells [(.ptr 0 0)],.cells [(.int .i64),(.int .i64),(.int .i64)],.cells [.str,.str,.str,.str,.str],.cells [(.fn 104 [] [(.ptr 1 0),(.ptr 3 0)])]],fs:=[[(.imm [.str,.str,.str]),(.fn 107 [] [(.ptr 4 0)]),.any,.any,(.blit false),(.imm [.str,.str,.str]),(.fn 107 [] [(.ptr 4 0)]),.any,.any],[(.ptr 0 0),(.imm [.str,.str,.str]),(.agg [(.int .i64),(.int .i64),(.int .i64)]),(.ptr 1 0),.any,(.ptr 2 0),(.blit false),(.ptr 3 0),.bool,(.ptr 4 0),(.tuple [(.agg [.str,.str,.str,.str,.str]),.bool]),(.ptr 0 0),(.imm [.str,.str,.str]),(.agg [(.int .i64),(.int .i64),(.int .i64)]),(.tuple [(.agg [.str,.str,.str,.str,.str]),.bool]),(.agg [.str,.str,.str,.str,.str]),.bool,(.fn 104 [] [(.ptr 1 0),(.ptr 3 0)]),.bool,(.blit true),(.imm [.str,.str,.str]),(.fn 107 [] [(.ptr 4 0)]),.any,.any,.any,.any,.any,.any,.any,.any,.any,.any],[]] }⟩,⟨.ret,{ t:=(qP 4 ((.int .i64)::qP 14 [])),h:=[.cells [(.int .i64)],.cells [(.ptr 0 0)],.cells [(.int .i64),(.int .i64),(.int .i64)],.cells [.str,.str,.str,.str,.str],.cells [(.fn 104 [] [(.ptr 1 0),(.ptr 3 0)])]],fs:=[[(.imm [.str,.str,.str]),(.fn 107 [] [(.ptr 4 0)]),.any,.any,(.blit false),(.imm [.str,.str,.str]),(.fn 107 [] [(.ptr 4 0)]),.any,.any],[(.ptr 0 0),(.imm [.str,.str,.str]),(.agg [(.int .i64),(.int .i64),(.int .i64)]),(.ptr 1 0),.any,(.ptr 2 0),(.blit false),(.ptr 3 0),.bool,(.ptr 4 0),(.tuple [(.agg [.str,.str,.str,.str,.str]),.bool]),(.ptr 0 0),(.imm [.str,.str,.str]),(.agg [(.int .i64),(.int .i64),(.int .i64)]),(.tuple [(.agg [.str,.str,.str,.str,.str]),.bool]),(.agg [.str,.str,.str,.str,.str]),.bool,(.fn 104 [] [(.ptr 1 0),(.ptr 3 0)]),.bool,(.blit true),(.imm [.str,.str,.str]),(.fn 107 [] [(.ptr 4 0)]),.any,.any,.any,.any,.any,.any,.any,.any,.any,.any],[]] }⟩]
noncomputable def jl:=qe [(103,q9 q19 q13 vD),(105,q9 q0Z q1b ju)] [(74,f74),(104,f104),(106,f106),(107,f107),(143,f143)] [] 1
noncomputable def wE:=ke jl 143 f143 3 uW uN
theorem q76:qu prog qa jl.nimp (qL prog jl.iter 143) (zR f143 3) (qt uW uN (qh wE)):=gk jl qc q8 (alc q5S (alc q5R aln)) aln (alc (bk func74) (alc (bk func104) (alc (bk func106) (alc (bk func107) (alc (bk func143) aln))))) func143
noncomputable def q7P:=qe [(103,q9 q19 q13 vD),(105,q9 q0Z q1b ju)] [(74,f74),(104,f104),(106,f106),(107,f107),(143,f143)] [((143,3),qt uW uN (qh wE))] 1
noncomputable def vY:=qw q7P 74 f74 true q3a q3s
theorem qcB:zb prog qa 74 (q9 q3a q3s vY):=sk q7P qc q8 (alc q5S (alc q5R aln)) (alc (lk func143 q76) aln) (alc (bk func74) (alc (bk func104) (alc (bk func106) (alc (bk func107) (alc (bk func143) aln))))) func74
def q3U:FIn:=⟨[(.ptr 0 0),(.imm [.str,.str,.str])],[.cells [(.int .i64)]]⟩
def q4c:List FOut:=[⟨(.tuple [(.agg [(.int .i64),(.int .i64),(.int .i64)]),.bool]),[.cells [(.int .i64)]],none⟩]
def kG:Tmpl:={ t:=(.yld::(.ptr 5 0)::qP 6 ((.int .i64)::(.int .i64)::qP 35 [])),h:=[.cells [(.int .i64)],.cells [(.ptr 0 0)],.cells [(.imm [.str,.str,.str])],.cells [(.int .i64),(.int .i64),(.int .i64)],.cells [.bool],.cells [(.int .i64)]],fs:=[[.any,.any,(.ptr 1 0),(.ptr 2 0),(.ptr 3 0),(.ptr 4 0),.any,.any,.any,(.fn 102 [] [(.ptr 5 0)]),.any,.any,.any,.any,.any,.any,.any],[]] }
def ku:List Out:=[⟨(.exit 0),{ t:=(.yld::(.ptr 5 0)::qP 43 []),h:=[.cells [(.int .i64)],.cells [(.ptr 0 0)],.cells [(.imm [.str,.str,.str])],.cells [(.int .i64),(.int .i64),(.int .i64)],.cells [.bool],.cells [(.int .i64)]],fs:=[[.any,.any,(.ptr 1 0),(.ptr 2 0),(.ptr 3 0),(.ptr 4 0),.any,.any,.any,(.fn 102 [] [(.ptr 5 0)]),.any,.any,.any,.any,.any,.any,.any],[]] }⟩,⟨.ret,{ t:=(qP 45 []),h:=[.cells [(.int .i64)],.cells [(.ptr 0 0)],.cells [(.imm [.str,.str,.str])],.cells [(.int .i64),(.int .i64),(.int .i64)],.cells [.bool],.cells [(.int .i64)]],fs:=[[.any,.any,(.ptr 1 0),(.ptr 2 0),(.ptr 3 0),(.ptr 4 0),.any,.any,.any,(.fn 102 [] [(.ptr 5 0)]),.any,.any,.any,.any,.any,.any,.any],[]],pend:=(.some .ret) }⟩]
noncomputable def vW:List (FuncId×zV):=[(74,q9 q3a q3s vY)]
theorem jM:∀x,x∈vW->zb prog qa x.1 x.2:=(alc qcB aln)
noncomputable def jq:Env:={ tt:=q25,glob:=qa,spec:=vW,body:=[(46,f46),(73,f73),(102,f102)],loops:=[],nimp:=1,iter:=[(102,46,3)] }
noncomputable def wY:=qiU jq (some (46,f46,3)) 102 f102 2 kG ku
theorem q8n:qu prog qa jq.nimp (qL prog jq.iter 102) (zR f102 2) (qt kG ku (qh wY)):=kV (E:=jq) qc ⟨q4R q8,⟨jM,aln⟩,aln,(alc (bk func46) (alc (bk func73) (alc (bk func102) aln)))⟩ func102 (by kernel_rfl) (y:=some (46,f46,3)) ⟨func46,by kernel_rfl⟩ (by kernel_rfl) (by kernel_rfl) (fun _=>rfl)
def ka:Tmpl:={ t:=(.yld::(.ptr 5 0)::.any::.any::(.int .i64)::(.int .i64)::qP 13 ((.int .i64)::(.int .i64)::qP 9 ((.vec 6)::(.int .i64)::(.int .i64)::qP 12 []))),h:=[.cells [(.int .i64)],.cells [(.ptr 0 0)],.cells [(.imm [.str,.str,.str])],.cells [(.int .i64),(.int .i64),(.int .i64)],.cells [.bool],.cells [(.int .i64)],.vec 3 [(.int .i64)]],fs:=[[.any,.any,(.ptr 1 0),(.ptr 2 0),(.ptr 3 0),(.ptr 4 0),.any,.any,.any,(.fn 102 [] [(.ptr 5 0)]),.any,.any,.any,.any,.any,.any,.any],[]] }
def ut:List Out:=[⟨(.exit 6),{ t:=(.yld::(.ptr 5 0)::.any::.any::(.int .i64)::(.int .i64)::qP 13 ((.int .i64)::(.int .i64)::qP 24 [])),h:=[.cells [(.int .i64)],.cells [(.ptr 0 0)],.cells [(.imm [.str,.str,.str])],.cells [(.int .i64),(.int .i64),(.int .i64)],.cells [.bool],.cells [(.int .i64)]],fs:=[[.any,.any,(.ptr 1 0),(.ptr 2 0),(.ptr 3 0),(.ptr 4 0),.any,.any,.any,(.fn 102 [] [(.ptr 5 0)]),.any,.any,.any,.any,.any,.any,.any],[]] }⟩,⟨.ret,{ t:=(qP 45 []),h:=[.cells [(.int .i64)],.cells [(.ptr 0 0)],.cells [(.imm [.str,.str,.str])],.cells [(.int .i64),(.int .i64),(.int .i64)],.cells [.bool],.cells [(.int .i64)]],fs:=[[.any,.any,(.ptr 1 0),(.ptr 2 0),(.ptr 3 0),(.ptr 4 0),.any,.any,.any,(.fn 102 [] [(.ptr 5 0)]),.any,.any,.any,.any,.any,.any,.any],[]],pend:=(.some .ret) }⟩]
noncomputable def jg:Env:={ tt:=q25,glob:=qa,spec:=vW,body:=[(46,f46),(73,f73),(102,f102)],loops:=[],nimp:=1,iter:=[(102,46,3)] }
noncomputable def wz:=qiU jg (some (46,f46,3)) 102 f102 20 ka ut
theorem q6S:qu prog qa jg.nimp (qL prog jg.iter 102) (zR f102 20) (qt ka ut (qh wz)):=kV (E:=jg) qc ⟨q4R q8,⟨jM,aln⟩,aln,(alc (bk func46) (alc (bk func73) (alc (bk func102) aln)))⟩ func102 (by kernel_rfl) (y:=some (46,f46,3)) ⟨func46,by kernel_rfl⟩ (by kernel_rfl) (by kernel_rfl) (fun _=>rfl)
def uO:Tmpl:={ t:=(.yld::(.ptr 5 0)::.any::.any::(.int .i64)::(.int .i64)::qP 13 ((.int .i64)::(.int .i64)::qP 24 [])),h:=[.cells [(.int .i64)],.cells [(.ptr 0 0)],.cells [(.imm [.str,.str,.str])],.cells [(.int .i64),(.int .i64),(.int .i64)],.cells [.bool],.cells [(.int .i64)]],fs:=[[.any,.any,(.ptr 1 0),(.ptr 2 0),(.ptr 3 0),(.ptr 4 0),.any,.any,.any,(.fn 102 [] [(.ptr 5 0)]),.any,.any,.any,.any,.any,.any,.any],[]] }
def uG:List Out:=[⟨(.exit 4),{ t:=(.yld::(.ptr 5 0)::qP 17 ((.int .i64)::(.int .i64)::qP 24 [])),h:=[.cells [(.int .i64)],.cells [(.ptr 0 0)],.cells [(.imm [.str,.str,.str])],.cells [(.int .i64),(.int .i64),(.int .i64)],.cells [.bool],.cells [(.int .i64)]],fs:=[[.any,.any,(.ptr 1 0),(.ptr 2 0),(.ptr 3 0),(.ptr 4 0),.any,.any,.any,(.fn 102 [] [(.ptr 5 0)]),.any,.any,.any,.any,.any,.any,.any],[]] }⟩,⟨.ret,{ t:=(qP 45 []),h:=[.cells [(.int .i64)],.cells [(.ptr 0 0)],.cells [(.imm [.str,.str,.str])],.cells [(.int .i64),(.int .i64),(.int .i64)],.cells [.bool],.cells [(.int .i64)]],fs:=[[.any,.any,(.ptr 1 0),(.ptr 2 0),(.ptr 3 0),(.ptr 4 0),.any,.any,.any,(.fn 102 [] [(.ptr 5 0)]),.any,.any,.any,.any,.any,.any,.any],[]],pend:=(.some .ret) }⟩]
noncomputable def jb:Env:={ tt:=q25,glob:=qa,spec:=vW,body:=[(46,f46),(73,f73),(102,f102)],loops:=[((102,20),qt ka ut (qh wz))],nimp:=1,iter:=[(102,46,3)] }
noncomputable def wv:=qiU jb (some (46,f46,3)) 102 f102 15 uO uG
theorem q6N:qu prog qa jb.nimp (qL prog jb.iter 102) (zR f102 15) (qt uO uG (qh wv)):=kV (E:=jb) qc ⟨q4R q8,⟨jM,aln⟩,(alc (lk func102 q6S) aln),(alc (bk func46) (alc (bk func73) (alc (bk func102) aln)))⟩ func102 (by kernel_rfl) (y:=some (46,f46,3)) ⟨func46,by kernel_rfl⟩ (by kernel_rfl) (by kernel_rfl) (fun _=>rfl)
def kC:Tmpl:={ t:=(.yld::(.ptr 5 0)::qP 17 ((.int .i64)::(.int .i64)::qP 24 [])),h:=[.cells [(.int .i64)],.cells [(.ptr 0 0)],.cells [(.imm [.str,.str,.str])],.cells [(.int .i64),(.int .i64),(.int .i64)],.cells [.bool],.cells [(.int .i64)]],fs:=[[.any,.any,(.ptr 1 0),(.ptr 2 0),(.ptr 3 0),(.ptr 4 0),.any,.any,.any,(.fn 102 [] [(.ptr 5 0)]),.any,.any,.any,.any,.any,.any,.any],[]] }
def kJ:List Out:=[⟨(.exit 2),{ t:=(qP 45 []),h:=[.cells [(.int .i64)],.cells [(.ptr 0 0)],.cells [(.imm [.str,.str,.str])],.cells [(.int .i64),(.int .i64),(.int .i64)],.cells [.bool],.cells [(.int .i64)]],fs:=[[.any,.any,(.ptr 1 0),(.ptr 2 0),(.ptr 3 0),(.ptr 4 0),.any,.any,.any,(.fn 102 [] [(.ptr 5 0)]),.any,.any,.any,.any,.any,.any,.any],[]] }⟩,⟨.ret,{ t:=(qP 45 []),h:=[.cells [(.int .i64)],.cells [(.ptr 0 0)],.cells [(.imm [.str,.str,.str])],.cells [(.int .i64),(.int .i64),(.int .i64)],.cells [.bool],.cells [(.int .i64)]],fs:=[[.any,.any,(.ptr 1 0),(.ptr 2 0),(.ptr 3 0),(.ptr 4 0),.any,.any,.any,(.fn 102 [] [(.ptr 5 0)]),.any,.any,.any,.any,.any,.any,.any],[]],pend:=(.some .ret) }⟩]
noncomputable def jD:Env:={ tt:=q25,glob:=qa,spec:=vW,body:=[(46,f46),(73,f73),(102,f102)],loops:=[((102,15),qt uO uG (qh wv))],nimp:=1,iter:=[(102,46,3)] }
noncomputable def wT:=qiU jD (some (46,f46,3)) 102 f102 9 kC kJ
theorem q7z:qu prog qa jD.nimp (qL prog jD.iter 102) (zR f102 9) (qt kC kJ (qh wT)):=kV (E:=jD) qc ⟨q4R q8,⟨jM,aln⟩,(alc (lk func102 q6N) aln),(alc (bk func46) (alc (bk func73) (alc (bk func102) aln)))⟩ func102 (by kernel_rfl) (y:=some (46,f46,3)) ⟨func46,by kernel_rfl⟩ (by kernel_rfl) (by kernel_rfl) (fun _=>rfl)
noncomputable def q8G:Env:={ tt:=q25,glob:=qa,spec:=vW,body:=[(46,f46),(73,f73),(102,f102)],loops:=[((102,2),qt kG ku (qh wY)),((102,9),qt kC kJ (qh wT))],nimp:=1,iter:=[(102,46,3)] }
noncomputable def ul:=qw q8G 46 f46 true q3U q4c
theorem qd9:zb prog qa 46 (q9 q3U q4c ul):=sk q8G qc q8 jM (alc (lk func102 q8n) (alc (lk func102 q7z) aln)) (alc (bk func46) (alc (bk func73) (alc (bk func102) aln))) func46
def qa1:FIn:=⟨[(.imm [.str,.str,.str])],[]⟩
def qa3:List FOut:=[⟨(.tuple [.bool,(.agg [(.int .i64),(.int .i64),(.int .i64)]),(.int .i64)]),[],none⟩]
noncomputable def qex:=qe [(45,q9 qd5 qcO q3J),(46,q9 q3U q4c ul)] [(17,f17)] [] 0
noncomputable def q0H:=qw qex 17 f17 true qa1 qa3
theorem qiy:zb prog qa 17 (q9 qa1 qa3 q0H):=sk qex qc q8 (alc qkJ (alc qd9 aln)) aln (b1 func17) func17
def q3S:FIn:=⟨[(.ptr 0 0),.str,.str],[.cells [(.int .i64)]]⟩
def q3Q:List FOut:=[⟨(.int .i64),[.cells [(.int .i64)]],none⟩]
noncomputable def q97:=qe [(77,q9 q1Y q1V j5),(78,q9 yZ yX qS)] [(49,f49)] [] 1
noncomputable def u9:=qw q97 49 f49 true q3S q3Q
theorem qdj:zb prog qa 49 (q9 q3S q3Q u9):=sk q97 qc q8 (alc q6B (alc q0g aln)) aln (b1 func49) func49
def q62:FIn:=⟨[(.ptr 0 0),(.agg [.str,.str]),(.agg [.str,.str])],[.cells [(.int .i64)]]⟩
def q6b:List FOut:=[⟨.str,[.cells [(.int .i64)]],none⟩]
noncomputable def qc0:=qe [(79,q9 kF kS zT),(80,q9 q0w q0s zx)] [(50,f50)] [] 1
noncomputable def q0A:=qw qc0 50 f50 true q62 q6b
theorem qfi:zb prog qa 50 (q9 q62 q6b q0A):=sk qc0 qc q8 (alc q27 (alc q3b aln)) aln (b1 func50) func50
def q8k:FIn:=⟨[(.int .i64)],[]⟩
def q89:List FOut:=[⟨.bool,[],none⟩]
noncomputable def qdH:=qe [] [(126,f126)] [] 0
noncomputable def jm:=qw qdH 126 f126 true q8k q89
theorem qhg:zb prog qa 126 (q9 q8k q89 jm):=sk qdH qc q8 aln aln (b1 func126) func126
def q1N:FIn:=⟨[(.agg [(.int .i64),(.int .i64)])],[]⟩
def q1T:List FOut:=[⟨.bool,[],none⟩]
noncomputable def qgm:=qe [(126,q9 q8k q89 jm)] [(91,f91)] [] 0
noncomputable def un:=qw qgm 91 f91 true q1N q1T
theorem q2W:zb prog qa 91 (q9 q1N q1T un):=sk qgm qc q8 (alc qhg aln) aln (b1 func91) func91
def q0N:FIn:=⟨[(.fn 91 [] []),(.imm [(.int .i64),(.int .i64)])],[]⟩
def q0Q:List FOut:=[⟨(.int .i64),[],none⟩]
def kt:Tmpl:={ t:=((.fn 91 [] [])::qP 6 ((.imm [(.int .i64),(.int .i64)])::(.int .i64)::(.int .i64)::qP 8 [])),h:=[] }
def kx:List Out:=[⟨(.exit 0),{ t:=(qP 18 []),h:=[] }⟩,⟨.ret,{ t:=(qP 4 ((.int .i64)::qP 13 [])),h:=[] }⟩]
noncomputable def jt:=qe [(91,q9 q1N q1T un)] [(125,f125)] [] 0
noncomputable def zh:=ke jt 125 f125 3 kt kx
theorem q8l:qu prog qa jt.nimp (qL prog jt.iter 125) (zR f125 3) (qt kt kx (qh zh)):=gk jt qc q8 (alc q2W aln) aln (b1 func125) func125
noncomputable def q4W:=qe [(91,q9 q1N q1T un)] [(125,f125)] [((125,3),qt kt kx (qh zh))] 0
noncomputable def vT:=qw q4W 125 f125 true q0N q0Q
theorem q9O:zb prog qa 125 (q9 q0N q0Q vT):=sk q4W qc q8 (alc q2W aln) (alc (lk func125 q8l) aln) (b1 func125) func125
def yR:FIn:=⟨[(.imm [(.int .i64),(.int .i64)]),(.fn 91 [] [])],[]⟩
def yT:List FOut:=[⟨(.int .i64),[],none⟩]
noncomputable def q23:=qe [(91,q9 q1N q1T un),(125,q9 q0N q0Q vT)] [(90,f90)] [] 0
noncomputable def w9:=qw q23 90 f90 true yR yT
theorem q61:zb prog qa 90 (q9 yR yT w9):=sk q23 qc q8 (alc q2W (alc q9O aln)) aln (b1 func90) func90
def q9p:FIn:=⟨[(.imm [(.int .i64),(.int .i64)])],[]⟩
def q9t:List FOut:=[⟨(.int .i64),[],none⟩]
noncomputable def qf4:=qe [(90,q9 yR yT w9),(91,q9 q1N q1T un)] [(61,f61)] [] 0
noncomputable def q2K:=qw qf4 61 f61 true q9p q9t
theorem qhC:zb prog qa 61 (q9 q9p q9t q2K):=sk qf4 qc q8 (alc q61 (alc q2W aln)) aln (b1 func61) func61
def q9h:FIn:=⟨[(.int .i64)],[]⟩
def qa6:List FOut:=[⟨(.int .i64),[],none⟩]
noncomputable def qeY:=qe [] [(62,f62)] [] 0
noncomputable def q2E:=qw qeY 62 f62 true q9h qa6
theorem qhI:zb prog qa 62 (q9 q9h qa6 q2E):=sk qeY qc q8 aln aln (b1 func62) func62
def q9e:FIn:=⟨[(.imm [(.int .i64),(.int .i64)])],[]⟩
def q9C:List FOut:=[⟨(.int .i64),[],none⟩]
noncomputable def qeA:=qe [(61,q9 q9p q9t q2K),(62,q9 q9h qa6 q2E)] [(33,f33)] [] 0
noncomputable def q2w:=qw qeA 33 f33 true q9e q9C
theorem qhN:zb prog qa 33 (q9 q9e q9C q2w):=sk qeA qc q8 (alc qhC (alc qhI aln)) aln (b1 func33) func33
def q0T:FIn:=⟨[(.imm [(.int .i64)])],[]⟩
def q0S:List FOut:=[⟨(.vec 0),[.vec 3 [(.int .i64)]],none⟩]
noncomputable def qcv:=qe [] [(93,f93)] [] 0
abbrev q3t:=q0T
abbrev q3L:=q0S
noncomputable abbrev q3D:=qcv
noncomputable def q3E:=qw q3D 93 f93 false q3t q3L
theorem q7N:zb prog qa 93 (q9 q3t q3L q3E):=qff (E:=q3D) qc ⟨q4R q8,⟨aln,aln⟩,aln,(b1 func93)⟩ func93 (by kernel_rfl) (by kernel_rfl) (fun _=>rfl)
theorem q9M(x0:R):q3E [.r x0]=(.br (ilt 0 (qm x0)) (.br (ile ((qm [])+(qm x0)) 17592186044416) (.leaf (0,[(.r (yE [] x0))])) .fail) .fail):=by kernel_rfl
def qaz:Go.Shelf.Ren:=⟨fun|41=>93|n=>n,fun|4=>4|22=>33|23=>3|n=>n,fun n=>n⟩
noncomputable def wo:=qvK
theorem q9w:zb prog qa 93 (q9 q0T q0S wo):=qtO (ρ:=qaz) ⟨by kernel_rfl,⟨ "slices.Clone[[]int,int]",by decide,func93.trans (congrArg some (by kernel_rfl))⟩,underlying4,isAgg4,sizeOf4,zeroValue4,underlying33,isAgg33,sizeOf33,zeroValue33,underlying3,isAgg3,sizeOf3,zeroValue3,by kernel_rfl⟩ q7N (qyN q9M)
def wW:FIn:=⟨[(.agg [(.int .i64),(.int .i64),(.int .i64)])],[]⟩
def wU:List FOut:=[⟨(.agg [(.int .i64),(.int .i64),(.int .i64)]),[],none⟩]
noncomputable def q5L:=qe [] [(133,f133)] [] 0
noncomputable def qH:=qw q5L 133 f133 true wW wU
theorem jB:zb prog qa 133 (q9 wW wU qH):=sk q5L qc q8 aln aln (b1 func133) func133
def qbm:FIn:=⟨[(.agg [(.int .i64),(.int .i64),(.int .i64)]),(.agg [(.int .i64),(.int .i64),(.int .i64)]),(.agg [(.int .i64),(.int .i64),(.int .i64)])],[]⟩
def qaT:List FOut:=[⟨(.int .i64),[],none⟩]
def q7s:Tmpl:={ t:=(qP 7 ((.ptr 3 0)::(.ptr 4 0)::(.ptr 5 0)::(.int .i64)::qP 7 ((.int .i64)::qP 21 []))),h:=[.dead,.dead,.dead,.cells [(.int .i64),(.int .i64),(.int .i64)],.cells [(.int .i64),(.int .i64),(.int .i64)],.cells [(.int .i64),(.int .i64),(.int .i64)]] }
def q7y:List Out:=[⟨(.exit 0),{ t:=(qP 10 ((.int .i64)::qP 29 [])),h:=[] }⟩]
noncomputable def q4m:=qe [(133,q9 wW wU qH)] [(127,f127)] [] 0
noncomputable def kw:=ke q4m 127 f127 5 q7s q7y
theorem qh4:qu prog qa q4m.nimp (qL prog q4m.iter 127) (zR f127 5) (qt q7s q7y (qh kw)):=gk q4m qc q8 (alc jB aln) aln (b1 func127) func127
noncomputable def qhi:=qe [(133,q9 wW wU qH)] [(127,f127)] [((127,5),qt q7s q7y (qh kw))] 0
noncomputable def q09:=qw qhi 127 f127 true qbm qaT
theorem qj9:zb prog qa 127 (q9 qbm qaT q09):=sk qhi qc q8 (alc jB aln) (alc (lk func127 qh4) aln) (b1 func127) func127
def q4f:FIn:=⟨[(.int .i64)],[]⟩
def q4M:List FOut:=[⟨.str,[],none⟩]
noncomputable def qgf:=qe [(110,q9 q7n q7p wn)] [(128,f128)] [] 0
noncomputable def jk:=qw qgf 128 f128 true q4f q4M
theorem q6h:zb prog qa 128 (q9 q4f q4M jk):=sk qgf qc q8 (alc q7l aln) aln (b1 func128) func128
def q6Y:FIn:=⟨[(.int .i64)],[]⟩
def q78:List FOut:=[⟨.bool,[],none⟩]
noncomputable def qgI:=qe [] [(170,f170)] [] 0
noncomputable def vw:=qw qgI 170 f170 true q6Y q78
theorem qc6:zb prog qa 170 (q9 q6Y q78 vw):=sk qgI qc q8 aln aln (b1 func170) func170
def q1K:FIn:=⟨[(.int .i64),(.int .i64),(.ptr 0 0),(.ptr 1 0)],[.cells [(.imm [(.int .i64)])],.cells [(.int .i64)]]⟩
def q1U:List FOut:=[⟨.str,[.cells [(.imm [(.int .i64)])],.cells [(.int .i64)]],none⟩]
noncomputable def qgz:=qe [(128,q9 q4f q4M jk)] [(172,f172)] [] 2
noncomputable def uc:=qw qgz 172 f172 true q1K q1U
theorem q33:zb prog qa 172 (q9 q1K q1U uc):=sk qgz qc q8 (alc q6h aln) aln (b1 func172) func172
def qaZ:FIn:=⟨[(.int .i64),(.int .i64),(.fn 172 [] [(.ptr 0 0),(.ptr 1 0)])],[.cells [(.imm [(.int .i64)])],.cells [(.int .i64)]]⟩
def qbE:List FOut:=[⟨(.agg [(.int .i64),(.int .i64),(.imm [.str])]),[.cells [(.imm [(.int .i64)])],.cells [(.int .i64)]],none⟩]
def q6r:Tmpl:={ t:=(.any::(.int .i64)::(.fn 172 [] [(.ptr 0 0),(.ptr 1 0)])::.any::.any::.any::(.ptr 2 0)::(.ptr 3 0)::(.int .i64)::qP 4 ((.int .i64)::(.int .i64)::.any::.any::(.int .i64)::(.int .i64)::qP 14 [])),h:=[.cells [(.imm [(.int .i64)])],.cells [(.int .i64)],.cells [(.int .i64),(.int .i64),.nils],.cells [(.int .i64),(.int .i64),(.vec 4)],.vec 30 [.str]] }
def q64:List Out:=[⟨(.exit 2),{ t:=(.any::(.int .i64)::(.fn 172 [] [(.ptr 0 0),(.ptr 1 0)])::.any::.any::.any::(.ptr 2 0)::(.ptr 3 0)::qP 5 ((.int .i64)::(.int .i64)::qP 18 [])),h:=[.cells [(.imm [(.int .i64)])],.cells [(.int .i64)],.cells [(.int .i64),(.int .i64),.nils],.cells [(.int .i64),(.int .i64),(.vec 4)],.vec 30 [.str]] }⟩]
noncomputable def q30:=qe [(172,q9 q1K q1U uc)] [(171,f171)] [] 2
noncomputable def u4:=ke q30 171 f171 10 q6r q64
theorem qfD:qu prog qa q30.nimp (qL prog q30.iter 171) (zR f171 10) (qt q6r q64 (qh u4)):=gk q30 qc q8 (alc q33 aln) aln (b1 func171) func171
def q7O:Tmpl:={ t:=(.any::(.int .i64)::(.fn 172 [] [(.ptr 0 0),(.ptr 1 0)])::.any::.any::.any::(.ptr 2 0)::(.ptr 3 0)::qP 5 ((.int .i64)::(.int .i64)::qP 18 [])),h:=[.cells [(.imm [(.int .i64)])],.cells [(.int .i64)],.cells [(.int .i64),(.int .i64),.nils],.cells [(.int .i64),(.int .i64),(.vec 4)],.vec 30 [.str]],prc:=[(7,2,30,[.str])] }
def q8m:List Out:=[⟨(.exit 0),{ t:=(qP 6 ((.ptr 2 0)::(.ptr 3 0)::qP 25 [])),h:=[.cells [(.imm [(.int .i64)])],.cells [(.int .i64)],.cells [(.int .i64),(.int .i64),.nils],.cells [(.int .i64),(.int .i64),(.vec 4)],.vec 30 [.str]] }⟩]
noncomputable def q44:=qe [(172,q9 q1K q1U uc)] [(171,f171)] [((171,10),qt q6r q64 (qh u4))] 2
noncomputable def kM:=ke q44 171 f171 4 q7O q8m
theorem qgo:qu prog qa q44.nimp (qL prog q44.iter 171) (zR f171 4) (qt q7O q8m (qh kM)):=gk q44 qc q8 (alc q33 aln) (alc (lk func171 qfD) aln) (b1 func171) func171
noncomputable def qgK:=qe [(172,q9 q1K q1U uc)] [(171,f171)] [((171,4),qt q7O q8m (qh kM))] 2
noncomputable def q4g:=qw qgK 171 f171 true qaZ qbE
theorem qjf:zb prog qa 171 (q9 qaZ qbE q4g):=sk qgK qc q8 (alc q33 aln) (alc (lk func171 qgo) aln) (b1 func171) func171
def qfE:FIn:=⟨[(.int .i64),(.int .i64),(.imm [(.int .i64)])],[]⟩
def qfa:List FOut:=[⟨(.tuple [(.agg [(.int .i64),(.int .i64),(.imm [.str])]),(.int .i64)]),[],none⟩]
noncomputable def qlz:=qe [(170,q9 q6Y q78 vw),(171,q9 qaZ qbE q4g),(172,q9 q1K q1U uc)] [(129,f129)] [] 0
noncomputable def q8h:=qw qlz 129 f129 true qfE qfa
theorem qlG:zb prog qa 129 (q9 qfE qfa q8h):=sk qlz qc q8 (alc qc6 (alc qjf (alc q33 aln))) aln (b1 func129) func129
def q2R:FIn:=⟨[(.imm [.str])],[]⟩
def q2U:List FOut:=[⟨(.int .i64),[],none⟩]
def q3Z:Tmpl:={ t:=(qP 6 ((.imm [.str])::(.int .i64)::(.int .i64)::qP 9 [])),h:=[] }
def q4F:List Out:=[⟨(.exit 0),{ t:=(qP 18 []),h:=[] }⟩,⟨.ret,{ t:=(.any::.any::(.int .i64)::qP 15 []),h:=[] }⟩]
noncomputable def q14:=qe [(48,q9 ja jh qJ)] [(178,f178)] [] 0
noncomputable def jA:=ke q14 178 f178 3 q3Z q4F
theorem qcP:qu prog qa q14.nimp (qL prog q14.iter 178) (zR f178 3) (qt q3Z q4F (qh jA)):=gk q14 qc q8 (alc vN aln) aln (b1 func178) func178
noncomputable def qcg:=qe [(48,q9 ja jh qJ)] [(178,f178)] [((178,3),qt q3Z q4F (qh jA))] 0
noncomputable def vM:=qw qcg 178 f178 true q2R q2U
theorem q7V:zb prog qa 178 (q9 q2R q2U vM):=sk qcg qc q8 (alc vN aln) (alc (lk func178 qcP) aln) (b1 func178) func178
def q9G:FIn:=⟨[(.agg [(.int .i64),(.int .i64),(.imm [.str])])],[]⟩
def q9Y:List FOut:=[⟨(.int .i64),[],none⟩]
noncomputable def qeI:=qe [(170,q9 q6Y q78 vw),(178,q9 q2R q2U vM)] [(173,f173)] [] 0
noncomputable def jc:=qw qeI 173 f173 true q9G q9Y
theorem qat:zb prog qa 173 (q9 q9G q9Y jc):=sk qeI qc q8 (alc qc6 (alc q7V aln)) aln (b1 func173) func173
def qck:FIn:=⟨[(.agg [(.int .i64),(.int .i64),(.imm [.str])])],[]⟩
def qct:List FOut:=[⟨(.tuple [(.agg [(.int .i64),(.int .i64),(.imm [.str])]),(.int .i64)]),[],none⟩]
noncomputable def jI:List PV->TR:=qBM jc wK uB zu
theorem qfW:zb prog qa 130 (q9 qck qct jI):=qxA qat q0L q9X q2C
def q0a:FIn:=⟨[(.ptr 0 0),.str,(.int .i64)],[.cells [(.int .i64)]]⟩
def q0e:List FOut:=[⟨.str,[.cells [(.int .i64)]],none⟩]
noncomputable def q7K:=qe [] [(210,f210)] [] 1
noncomputable def wL:=qw q7K 210 f210 true q0a q0e
theorem q4S:zb prog qa 210 (q9 q0a q0e wL):=sk q7K qc q8 aln aln (b1 func210) func210
def q43:FIn:=⟨[(.ptr 0 0),.str,.str],[.cells [(.int .i64)]]⟩
def q4w:List FOut:=[⟨.str,[.cells [(.int .i64)]],none⟩]
noncomputable def q9d:=qe [(123,q9 q00 q0h vB),(210,q9 q0a q0e wL)] [(179,f179)] [] 1
noncomputable def ur:=qw q9d 179 f179 true q43 q4w
theorem qdb:zb prog qa 179 (q9 q43 q4w ur):=sk q9d qc q8 (alc uR (alc q4S aln)) aln (b1 func179) func179
def q45:FIn:=⟨[(.ptr 0 0),.str,.str],[.cells [(.int .i64)]]⟩
def q4b:List FOut:=[⟨.str,[.cells [(.int .i64)]],none⟩]
noncomputable def q8W:=qe [(124,q9 q3j q36 wK),(210,q9 q0a q0e wL)] [(180,f180)] [] 1
noncomputable def ua:=qw q8W 180 f180 true q45 q4b
theorem qcJ:zb prog qa 180 (q9 q45 q4b ua):=sk q8W qc q8 (alc q0L (alc q4S aln)) aln (b1 func180) func180
def q9T:FIn:=⟨[(.agg [(.int .i64),(.int .i64),(.imm [.str])]),(.int .i64),(.int .i64)],[]⟩
def q9R:List FOut:=[⟨.str,[],none⟩]
noncomputable def qeD:=qe [] [(181,f181)] [] 0
noncomputable def q2q:=qw qeD 181 f181 true q9T q9R
theorem qhH:zb prog qa 181 (q9 q9T q9R q2q):=sk qeD qc q8 aln aln (b1 func181) func181
def qa4:FIn:=⟨[(.agg [(.int .i64),(.int .i64),(.imm [.str])]),(.imm [.str])],[]⟩
def qa0:List FOut:=[⟨(.tuple [(.imm [.str]),(.int .i64)]),[],none⟩]
def q51:Tmpl:={ t:=(.any::(.imm [.str])::(.ptr 0 0)::qP 5 ((.ptr 1 0)::(.vec 2)::(.int .i64)::.str::qP 20 ((.int .i64)::(.int .i64)::.any::.any::(.imm [.str])::(.int .i64)::(.int .i64)::qP 30 []))),h:=[.cells [(.int .i64),(.int .i64),(.imm [.str])],.cells [(.int .i64)],.vec 30 [.str]] }
def q59:List Out:=[⟨(.exit 2),{ t:=(.any::(.imm [.str])::(.ptr 0 0)::qP 5 ((.ptr 1 0)::(.vec 2)::.any::.str::qP 20 ((.int .i64)::(.int .i64)::qP 35 []))),h:=[.cells [(.int .i64),(.int .i64),(.imm [.str])],.cells [(.int .i64)],.vec 30 [.str]] }⟩]
noncomputable def q4I:List (FuncId×zV):=[(173,q9 q9G q9Y jc),(178,q9 q2R q2U vM),(179,q9 q43 q4w ur),(180,q9 q45 q4b ua),(181,q9 q9T q9R q2q)]
theorem q63:∀x,x∈q4I->zb prog qa x.1 x.2:=(alc qat (alc q7V (alc qdb (alc qcJ (alc qhH aln)))))
noncomputable def q1O:=qe q4I [(131,f131)] [] 0
noncomputable def yg:=ke q1O 131 f131 24 q51 q59
theorem qeu:qu prog qa q1O.nimp (qL prog q1O.iter 131) (zR f131 24) (qt q51 q59 (qh yg)):=gk q1O qc q8 q63 aln (b1 func131) func131
def q5f:Tmpl:={ t:=(.any::(.imm [.str])::(.ptr 0 0)::qP 5 ((.ptr 1 0)::(.vec 2)::qP 22 ((.int .i64)::(.int .i64)::qP 35 []))),h:=[.cells [(.int .i64),(.int .i64),(.imm [.str])],.cells [(.int .i64)],.vec 30 [.str]],pro:=[(9,30,[.str])] }
def q5b:List Out:=[⟨(.exit 0),{ t:=(qP 8 ((.ptr 1 0)::(.vec 2)::qP 59 [])),h:=[.dead,.cells [(.int .i64)],.vec 30 [.str]] }⟩]
noncomputable def q20:=qe q4I [(131,f131)] [((131,24),qt q51 q59 (qh yg))] 0
noncomputable def yf:=ke q20 131 f131 16 q5f q5b
theorem qes:qu prog qa q20.nimp (qL prog q20.iter 131) (zR f131 16) (qt q5f q5b (qh yf)):=gk q20 qc q8 q63 (alc (lk func131 qeu) aln) (b1 func131) func131
noncomputable def qey:=qe q4I [(131,f131)] [((131,16),qt q5f q5b (qh yf))] 0
noncomputable def q2m:=qw qey 131 f131 true qa4 qa0
theorem qhB:zb prog qa 131 (q9 qa4 qa0 q2m):=sk qey qc q8 q63 (alc (lk func131 qes) aln) (b1 func131) func131
def qfh:FIn:=⟨[(.imm [.str])],[]⟩
def qfA:List FOut:=[⟨(.tuple [.str,(.int .i64)]),[],none⟩]
def q9r:Tmpl:={ t:=(qP 5 (.str::qP 12 ((.imm [.str])::(.int .i64)::(.int .i64)::qP 15 []))),h:=[] }
def q9n:List Out:=[⟨(.exit 0),{ t:=(qP 5 (.str::qP 30 [])),h:=[] }⟩,⟨.ret,{ t:=(.any::.any::.str::(.int .i64)::qP 32 []),h:=[] }⟩]
noncomputable def q5t:=qe [(54,q9 wC wB qv),(123,q9 q00 q0h vB)] [(132,f132)] [] 0
noncomputable def q0M:=ke q5t 132 f132 11 q9r q9n
theorem qi5:qu prog qa q5t.nimp (qL prog q5t.iter 132) (zR f132 11) (qt q9r q9n (qh q0M)):=gk q5t qc q8 (alc zQ (alc uR aln)) aln (b1 func132) func132
noncomputable def ql7:=qe [(54,q9 wC wB qv),(123,q9 q00 q0h vB)] [(132,f132)] [((132,11),qt q9r q9n (qh q0M))] 0
noncomputable def q8d:=qw ql7 132 f132 true qfh qfA
theorem qlL:zb prog qa 132 (q9 qfh qfA q8d):=sk ql7 qc q8 (alc zQ (alc uR aln)) (alc (lk func132 qi5) aln) (b1 func132) func132
def zS:FIn:=⟨[(.imm [.str]),(.imm [.str])],[]⟩
def zU:List FOut:=[⟨(.tuple [.str,(.int .i64)]),[],none⟩]
def vq:Tmpl:={ t:=(.any::(.imm [.str])::qP 4 (.str::qP 4 ((.imm [.str])::(.int .i64)::(.int .i64)::qP 27 []))),h:=[] }
def vA:List Out:=[⟨(.exit 0),{ t:=(qP 6 (.str::qP 34 [])),h:=[] }⟩,⟨.ret,{ t:=(qP 4 (.str::(.int .i64)::qP 35 [])),h:=[] }⟩]
noncomputable def zE:=qe [(123,q9 q00 q0h vB),(124,q9 q3j q36 wK)] [(134,f134)] [] 0
noncomputable def qQ:=ke zE 134 f134 4 vq vA
theorem q2D:qu prog qa zE.nimp (qL prog zE.iter 134) (zR f134 4) (qt vq vA (qh qQ)):=gk zE qc q8 (alc uR (alc q0L aln)) aln (b1 func134) func134
noncomputable def kL:=qe [(123,q9 q00 q0h vB),(124,q9 q3j q36 wK)] [(134,f134)] [((134,4),qt vq vA (qh qQ))] 0
noncomputable def qB:=qw kL 134 f134 true zS zU
theorem yJ:zb prog qa 134 (q9 zS zU qB):=sk kL qc q8 (alc uR (alc q0L aln)) (alc (lk func134 q2D) aln) (b1 func134) func134
def q2v:FIn:=⟨[(.agg [.str,.str,.str]),(.agg [(.int .i64),(.int .i64),(.int .i64)])],[]⟩
def q2P:List FOut:=[⟨(.tuple [.str,(.int .i64)]),[],none⟩]
def q6g:Tmpl:={ t:=(.any::.any::(.ptr 0 0)::.any::.any::.any::(.vec 2)::qP 5 ((.agg [(.int .i64),(.int .i64),(.int .i64)])::(.int .i64)::qP 25 [])),h:=[.cells [.str,.str,.str],.dead,.vec 30 [.str]],pro:=[(6,30,[.str])] }
def q6l:List Out:=[⟨(.exit 0),{ t:=(qP 6 ((.vec 2)::qP 32 [])),h:=[.dead,.dead,.vec 30 [.str]] }⟩,⟨.ret,{ t:=(qP 4 (.str::(.int .i64)::qP 33 [])),h:=[] }⟩]
noncomputable def q7X:List (FuncId×zV):=[(115,q9 q5j q50 zu),(128,q9 q4f q4M jk),(133,q9 wW wU qH),(134,q9 zS zU qB)]
theorem qcl:∀x,x∈q7X->zb prog qa x.1 x.2:=(alc q2C (alc q6h (alc jB (alc yJ aln))))
noncomputable def q2V:=qe q7X [(135,f135)] [] 0
noncomputable def u6:=ke q2V 135 f135 4 q6g q6l
theorem qfk:qu prog qa q2V.nimp (qL prog q2V.iter 135) (zR f135 4) (qt q6g q6l (qh u6)):=gk q2V qc q8 qcl aln (b1 func135) func135
noncomputable def qeW:=qe q7X [(135,f135)] [((135,4),qt q6g q6l (qh u6))] 0
noncomputable def vj:=qw qeW 135 f135 true q2v q2P
theorem q5k:zb prog qa 135 (q9 q2v q2P vj):=sk qeW qc q8 qcl (alc (lk func135 qfk) aln) (b1 func135) func135
def q65:FIn:=⟨[(.imm [(.int .i64),(.int .i64),(.int .i64)])],[]⟩
def q5Z:List FOut:=[⟨(.tuple [(.agg [.str,.str,.str,.str,(.imm [.str])]),.bool,(.int .i64)]),[],none⟩]
def q3c:Tmpl:={ t:=((.imm [(.int .i64),(.int .i64),(.int .i64)])::.any::(.ptr 0 0)::.any::.any::(.int .i64)::(.vec 1)::(.vec 2)::(.int .i64)::qP 15 ((.int .i64)::(.int .i64)::.any::.any::(.int .i64)::(.int .i64)::qP 141 [])),h:=[.cells [.str,.str,.str,.str,.nils],.vec 3 [(.int .i64)],.vec 30 [.str]] }
def q3e:List Out:=[⟨(.exit 2),{ t:=((.imm [(.int .i64),(.int .i64),(.int .i64)])::.any::(.ptr 0 0)::.any::.any::(.int .i64)::(.vec 1)::(.vec 2)::(.int .i64)::qP 15 ((.int .i64)::(.int .i64)::qP 145 [])),h:=[.cells [.str,.str,.str,.str,.nils],.vec 3 [(.int .i64)],.vec 30 [.str]] }⟩]
noncomputable def yh:List (FuncId×zV):=[(115,q9 q5j q50 zu),(127,q9 qbm qaT q09),(128,q9 q4f q4M jk),(129,q9 qfE qfa q8h),(130,q9 qck qct jI),(131,q9 qa4 qa0 q2m),(132,q9 qfh qfA q8d),(133,q9 wW wU qH),(134,q9 zS zU qB),(135,q9 q2v q2P vj)]
theorem uq:∀x,x∈yh->zb prog qa x.1 x.2:=(alc q2C (alc qj9 (alc q6h (alc qlG (alc qfW (alc qhB (alc qlL (alc jB (alc yJ (alc q5k aln))))))))))
noncomputable def q0d:=qe yh [(94,f94)] [] 0
noncomputable def j3:=ke q0d 94 f94 13 q3c q3e
theorem qcA:qu prog qa q0d.nimp (qL prog q0d.iter 94) (zR f94 13) (qt q3c q3e (qh j3)):=gk q0d qc q8 uq aln (b1 func94) func94
def q49:Tmpl:={ t:=((.imm [(.int .i64),(.int .i64),(.int .i64)])::.any::(.ptr 0 0)::.any::.any::(.int .i64)::(.vec 1)::(.vec 2)::qP 16 ((.int .i64)::(.int .i64)::qP 145 [])),h:=[.cells [.str,.str,.str,.str,.nils],.vec 3 [(.int .i64)],.vec 30 [.str]],pro:=[(6,3,[(.int .i64)]),(7,30,[.str])] }
def q3V:List Out:=[⟨(.exit 0),{ t:=((.imm [(.int .i64),(.int .i64),(.int .i64)])::.any::(.ptr 0 0)::.any::.any::(.int .i64)::(.vec 1)::(.vec 2)::qP 163 []),h:=[.cells [.str,.str,.str,.str,.nils],.vec 3 [(.int .i64)],.vec 30 [.str]] }⟩]
noncomputable def q15:=qe yh [(94,f94)] [((94,13),qt q3c q3e (qh j3))] 0
noncomputable def jy:=ke q15 94 f94 6 q49 q3V
theorem qd3:qu prog qa q15.nimp (qL prog q15.iter 94) (zR f94 6) (qt q49 q3V (qh jy)):=gk q15 qc q8 uq (alc (lk func94 qcA) aln) (b1 func94) func94
def q3p:Tmpl:={ t:=((.imm [(.int .i64),(.int .i64),(.int .i64)])::.any::(.ptr 0 0)::qP 13 ((.ptr 6 0)::(.int .i64)::(.vec 7)::qP 107 ((.int .i64)::.any::.any::(.imm [(.int .i64),(.int .i64),(.int .i64)])::(.int .i64)::(.int .i64)::qP 39 []))),h:=[.cells [.str,.str,.str,.str,.nils],.dead,.dead,.dead,.dead,.frz 30 [.str],.cells [.str,.str,.str,.str,(.vec 5)],.vec 30 [.str]],pro:=[(18,30,[.str])] }
def q34:List Out:=[⟨(.exit 6),{ t:=((.imm [(.int .i64),(.int .i64),(.int .i64)])::.any::(.ptr 0 0)::qP 13 ((.ptr 6 0)::(.int .i64)::(.vec 7)::qP 107 ((.int .i64)::qP 44 []))),h:=[.cells [.str,.str,.str,.str,.nils],.dead,.dead,.dead,.dead,.frz 30 [.str],.cells [.str,.str,.str,.str,(.vec 5)],.vec 30 [.str]] }⟩]
noncomputable def q01:=qe yh [(94,f94)] [] 0
noncomputable def vX:=ke q01 94 f94 52 q3p q34
theorem qcx:qu prog qa q01.nimp (qL prog q01.iter 94) (zR f94 52) (qt q3p q34 (qh vX)):=gk q01 qc q8 uq aln (b1 func94) func94
def q3r:Tmpl:={ t:=((.imm [(.int .i64),(.int .i64),(.int .i64)])::.any::(.ptr 0 0)::qP 13 ((.ptr 6 0)::qP 109 ((.int .i64)::qP 44 []))),h:=[.cells [.str,.str,.str,.str,.nils],.dead,.dead,.dead,.dead,.frz 30 [.str],.cells [.str,.str,.str,.str,(.vec 5)]],fz:=[5] }
def q3m:List Out:=[⟨(.exit 4),{ t:=((.imm [(.int .i64),(.int .i64),(.int .i64)])::.any::(.ptr 0 0)::qP 13 ((.ptr 6 0)::qP 154 [])),h:=[.cells [.str,.str,.str,.str,.nils],.dead,.dead,.dead,.dead,.frz 30 [.str],.cells [.str,.str,.str,.str,(.vec 5)]] }⟩,⟨.ret,{ t:=(.any::.any::(.ptr 0 0)::.bool::(.int .i64)::qP 166 []),h:=[.cells [.str,.str,.str,.str,.nils]] }⟩]
noncomputable def q07:=qe yh [(94,f94)] [((94,52),qt q3p q34 (qh vX))] 0
noncomputable def j4:=ke q07 94 f94 44 q3r q3m
theorem qcE:qu prog qa q07.nimp (qL prog q07.iter 94) (zR f94 44) (qt q3r q3m (qh j4)):=gk q07 qc q8 uq (alc (lk func94 qcx) aln) (b1 func94) func94
noncomputable def qch:=qe yh [(94,f94)] [((94,6),qt q49 q3V (qh jy)),((94,44),qt q3r q3m (qh j4))] 0
noncomputable def yV:=qw qch 94 f94 true q65 q5Z
theorem qfv:zb prog qa 94 (q9 q65 q5Z yV):=sk qch qc q8 uq (alc (lk func94 qd3) (alc (lk func94 qcE) aln)) (b1 func94) func94
def q6d:FIn:=⟨[(.imm [(.int .i64),(.int .i64),(.int .i64)]),(.imm [(.int .i64)])],[]⟩
def q6q:List FOut:=[⟨(.imm [(.int .i64),(.int .i64),(.int .i64)]),[],none⟩]
def q4L:Tmpl:={ t:=((.imm [(.int .i64),(.int .i64),(.int .i64)])::qP 4 ((.vec 0)::.any::.any::(.imm [(.int .i64)])::(.int .i64)::(.int .i64)::qP 12 [])),h:=[.vec 115 [(.int .i64),(.int .i64),(.int .i64)]],pro:=[(5,115,[(.int .i64),(.int .i64),(.int .i64)])] }
def q4G:List Out:=[⟨(.exit 0),{ t:=(qP 5 ((.vec 0)::qP 17 [])),h:=[.vec 115 [(.int .i64),(.int .i64),(.int .i64)]] }⟩]
noncomputable def q18:=qe [] [(95,f95)] [] 0
noncomputable def jv:=ke q18 95 f95 4 q4L q4G
theorem qdg:qu prog qa q18.nimp (qL prog q18.iter 95) (zR f95 4) (qt q4L q4G (qh jv)):=gk q18 qc q8 aln aln (b1 func95) func95
noncomputable def qca:=qe [] [(95,f95)] [((95,4),qt q4L q4G (qh jv))] 0
noncomputable def q0q:=qw qca 95 f95 true q6d q6q
theorem qfs:zb prog qa 95 (q9 q6d q6q q0q):=sk qca qc q8 aln (alc (lk func95 qdg) aln) (b1 func95) func95
def qb3:FIn:=⟨[.str],[]⟩
def qbl:List FOut:=[⟨(.tuple [.str,.str,(.int .i64)]),[],none⟩]
noncomputable def qhq:=qe [(48,q9 ja jh qJ),(55,q9 uQ uK qE)] [(183,f183)] [] 0
noncomputable def q3W:=qw qhq 183 f183 true qb3 qbl
theorem qj2:zb prog qa 183 (q9 qb3 qbl q3W):=sk qhq qc q8 (alc vN (alc ya aln)) aln (b1 func183) func183
def qdr:FIn:=⟨[.str],[]⟩
def qdN:List FOut:=[⟨(.tuple [(.int .i64),(.int .i64)]),[],none⟩]
noncomputable def qiA:=qe [(183,q9 qb3 qbl q3W),(184,q9 q8S q9b q1n)] [(138,f138)] [] 0
noncomputable def q3H:=qw qiA 138 f138 true qdr qdN
theorem qkq:zb prog qa 138 (q9 qdr qdN q3H):=sk qiA qc q8 (alc qj2 (alc qcR aln)) aln (b1 func138) func138
def zy:FIn:=⟨[.str],[]⟩
def zB:List FOut:=[⟨.bool,[],none⟩]
noncomputable def q2A:=qe [(138,q9 qdr qdN q3H)] [(137,f137)] [] 0
noncomputable def qV:=qw q2A 137 f137 true zy zB
theorem v6:zb prog qa 137 (q9 zy zB qV):=sk q2A qc q8 (alc qkq aln) aln (b1 func137) func137
def vd:FIn:=⟨[(.imm [.str]),(.fn 137 [] [])],[]⟩
def vg:List FOut:=[⟨(.int .i64),[],none⟩]
def ww:Tmpl:={ t:=((.imm [.str])::(.fn 137 [] [])::qP 5 ((.int .i64)::(.int .i64)::qP 10 [])),h:=[] }
def wA:List Out:=[⟨(.exit 0),{ t:=(qP 19 []),h:=[] }⟩,⟨.ret,{ t:=(qP 4 ((.int .i64)::qP 14 [])),h:=[] }⟩]
noncomputable def zo:=qe [(137,q9 zy zB qV)] [(182,f182)] [] 0
noncomputable def qA:=ke zo 182 f182 3 ww wA
theorem q1x:qu prog qa zo.nimp (qL prog zo.iter 182) (zR f182 3) (qt ww wA (qh qA)):=gk zo qc q8 (alc v6 aln) aln (b1 func182) func182
noncomputable def yF:=qe [(137,q9 zy zB qV)] [(182,f182)] [((182,3),qt ww wA (qh qA))] 0
noncomputable def qM:=qw yF 182 f182 true vd vg
theorem q2j:zb prog qa 182 (q9 vd vg qM):=sk yF qc q8 (alc v6 aln) (alc (lk func182 q1x) aln) (b1 func182) func182
def we:FIn:=⟨[(.imm [.str]),(.fn 137 [] [])],[]⟩
def wh:List FOut:=[⟨.bool,[],none⟩]
noncomputable def jP:=qe [(137,q9 zy zB qV),(182,q9 vd vg qM)] [(136,f136)] [] 0
noncomputable def qT:=qw jP 136 f136 true we wh
theorem q1c:zb prog qa 136 (q9 we wh qT):=sk jP qc q8 (alc v6 (alc q2j aln)) aln (b1 func136) func136
def q0l:FIn:=⟨[(.agg [.str,.str,.str,.str,(.imm [.str])])],[]⟩
def q03:List FOut:=[⟨.bool,[],none⟩]
noncomputable def q4e:=qe [(136,q9 we wh qT),(137,q9 zy zB qV)] [(96,f96)] [] 0
noncomputable def vn:=qw q4e 96 f96 true q0l q03
theorem q8B:zb prog qa 96 (q9 q0l q03 vn):=sk q4e qc q8 (alc q1c (alc v6 aln)) aln (b1 func96) func96
def q4D:FIn:=⟨[.str,.str],[]⟩
def q3O:List FOut:=[⟨(.tuple [(.int .i64),(.int .i64)]),[],none⟩]
noncomputable def qdM:=qe [(54,q9 wC wB qv),(55,q9 uQ uK qE),(56,q9 wJ wI qf),(57,q9 q4o q4u yk)] [(24,f24)] [] 0
noncomputable def yl:=qw qdM 24 f24 true q4D q3O
theorem q8X:zb prog qa 24 (q9 q4D q3O yl):=sk qdM qc q8 (alc zQ (alc ya (alc wM (alc q8V aln)))) aln (b1 func24) func24
def uP:FIn:=⟨[(.agg [.str,.str,.str,.str,(.imm [.str])]),(.imm [(.int .i64),(.int .i64),(.int .i64)])],[]⟩
def uI:List FOut:=[⟨(.tuple [.bool,(.int .i64)]),[],none⟩]
def yo:Tmpl:={ t:=(.any::.any::(.ptr 0 0)::qP 9 ((.imm [(.int .i64),(.int .i64),(.int .i64)])::(.int .i64)::(.int .i64)::qP 28 [])),h:=[.cells [.str,.str,.str,.str,(.imm [.str])]] }
def yv:List Out:=[⟨(.exit 0),{ t:=(qP 43 []),h:=[] }⟩,⟨.ret,{ t:=(qP 4 (.bool::(.int .i64)::qP 37 [])),h:=[] }⟩]
noncomputable def vC:=qe [(24,q9 q4D q3O yl),(135,q9 q2v q2P vj)] [(97,f97)] [] 0
noncomputable def z6:=ke vC 97 f97 3 yo yv
theorem q5H:qu prog qa vC.nimp (qL prog vC.iter 97) (zR f97 3) (qt yo yv (qh z6)):=gk vC qc q8 (alc q8X (alc q5k aln)) aln (b1 func97) func97
noncomputable def q2M:=qe [(24,q9 q4D q3O yl),(135,q9 q2v q2P vj)] [(97,f97)] [((97,3),qt yo yv (qh z6))] 0
noncomputable def wF:=qw q2M 97 f97 true uP uI
theorem q6M:zb prog qa 97 (q9 uP uI wF):=sk q2M qc q8 (alc q8X (alc q5k aln)) (alc (lk func97 q5H) aln) (b1 func97) func97
def q37:FIn:=⟨[(.imm [(.int .i64),(.int .i64),(.int .i64)]),(.imm [(.int .i64)])],[]⟩
def q3h:List FOut:=[⟨(.tuple [(.agg [.str,.str,.str,.str,(.imm [.str])]),.bool,(.int .i64)]),[],none⟩]
noncomputable def q7Y:=qe [(94,q9 q65 q5Z yV),(95,q9 q6d q6q q0q),(96,q9 q0l q03 vn),(97,q9 uP uI wF)] [(64,f64)] [] 0
noncomputable def zM:=qw q7Y 64 f64 true q37 q3h
theorem qcu:zb prog qa 64 (q9 q37 q3h zM):=sk q7Y qc q8 (alc qfv (alc qfs (alc q8B (alc q6M aln)))) aln (b1 func64) func64
def q8g:FIn:=⟨[(.imm [(.int .i64),(.int .i64),(.int .i64)]),(.int .i64)],[]⟩
def q88:List FOut:=[⟨(.tuple [(.agg [.str,.str,.str,.str,(.imm [.str])]),(.imm [(.int .i64)]),(.int .i64)]),[],none⟩]
def q1f:Tmpl:={ t:=(.yld::.any::(.ptr 4 0)::.any::.any::(.vec 7)::.any::(.imm [(.int .i64)])::.any::(.int .i64)::.any::.any::(.int .i64)::(.int .i64)::.any::(.vec 6)::(.int .i64)::(.int .i64)::qP 35 []),h:=[.cells [(.imm [(.int .i64),(.int .i64),(.int .i64)])],.cells [.str,.str,.str,.str,.nils],.cells [.nils],.cells [(.int .i64)],.cells [(.int .i64)],.cells [(.int .i64)],.vec 33 [(.sl [(.int .i64)])],.vec 33 [(.sl [(.int .i64)])]],fs:=[[.any,.any,(.ptr 0 0),.any,(.ptr 1 0),(.ptr 2 0),(.ptr 3 0),.any,.any,.any,.any,.any,.any,.any,(.fn 92 [] [(.ptr 5 0),(.ptr 4 0)]),.any,.any,.any,.any,.any,.any,.any,.any,.any,.any,.any,.any,.any,.any,.any,.any],[]] }
def q1j:List Out:=[⟨(.exit 4),{ t:=(.yld::.any::(.ptr 4 0)::.any::.any::(.vec 7)::qP 6 ((.int .i64)::(.int .i64)::.any::(.vec 6)::(.int .i64)::(.int .i64)::qP 35 [])),h:=[.cells [(.imm [(.int .i64),(.int .i64),(.int .i64)])],.cells [.str,.str,.str,.str,.nils],.cells [.nils],.cells [(.int .i64)],.cells [(.int .i64)],.cells [(.int .i64)],.vec 33 [(.sl [(.int .i64)])],.vec 33 [(.sl [(.int .i64)])]],fs:=[[.any,.any,(.ptr 0 0),.any,(.ptr 1 0),(.ptr 2 0),(.ptr 3 0),.any,.any,.any,.any,.any,.any,.any,(.fn 92 [] [(.ptr 5 0),(.ptr 4 0)]),.any,.any,.any,.any,.any,.any,.any,.any,.any,.any,.any,.any,.any,.any,.any,.any],[]] }⟩,⟨.ret,{ t:=(qP 53 []),h:=[.cells [(.imm [(.int .i64),(.int .i64),(.int .i64)])],.cells [.str,.str,.str,.str,(.imm [.str])],.cells [(.vec 8)],.cells [(.int .i64)],.cells [(.int .i64)],.cells [(.int .i64)],.dead,.dead,.frz 3 [(.int .i64)]],fs:=[[.any,.any,(.ptr 0 0),.any,(.ptr 1 0),(.ptr 2 0),(.ptr 3 0),.any,.any,.any,.any,.any,.any,.any,(.fn 92 [] [(.ptr 5 0),(.ptr 4 0)]),.any,.any,.any,.any,.any,.any,.any,.any,.any,.any,.any,.any,.any,.any,.any,.any],[]],pend:=(.some .ret) }⟩]
noncomputable def q0y:List (FuncId×zV):=[(64,q9 q37 q3h zM),(93,q9 q0T q0S wo)]
theorem q1S:∀x,x∈q0y->zb prog qa x.1 x.2:=(alc qcu (alc q9w aln))
noncomputable def uk:Env:={ tt:=q25,glob:=qa,spec:=q0y,body:=[(34,f34),(63,f63),(92,f92)],loops:=[],nimp:=0,iter:=[(92,34,3)],raws:=[93] }
noncomputable def qN:=qiU uk (some (34,f34,3)) 92 f92 18 q1f q1j
theorem qaj:qu prog qa uk.nimp (qL prog uk.iter 92) (zR f92 18) (qt q1f q1j (qh qN)):=kV (E:=uk) qc ⟨q4R q8,⟨q1S,aln⟩,aln,(alc (bk func34) (alc (bk func63) (alc (bk func92) aln)))⟩ func92 (by kernel_rfl) (y:=some (34,f34,3)) ⟨func34,by kernel_rfl⟩ (by kernel_rfl) (by kernel_rfl) (fun _=>rfl)
def q29:Tmpl:={ t:=(.yld::.any::(.ptr 4 0)::.any::.any::(.vec 7)::qP 6 ((.int .i64)::(.int .i64)::.any::(.vec 6)::(.int .i64)::(.int .i64)::qP 35 [])),h:=[.cells [(.imm [(.int .i64),(.int .i64),(.int .i64)])],.cells [.str,.str,.str,.str,.nils],.cells [.nils],.cells [(.int .i64)],.cells [(.int .i64)],.cells [(.int .i64)],.vec 33 [(.sl [(.int .i64)])],.vec 33 [(.sl [(.int .i64)])]],pro:=[(5,33,[(.sl [(.int .i64)])])],fs:=[[.any,.any,(.ptr 0 0),.any,(.ptr 1 0),(.ptr 2 0),(.ptr 3 0),.any,.any,.any,.any,.any,.any,.any,(.fn 92 [] [(.ptr 5 0),(.ptr 4 0)]),.any,.any,.any,.any,.any,.any,.any,.any,.any,.any,.any,.any,.any,.any,.any,.any],[]] }
def q26:List Out:=[⟨(.exit 2),{ t:=(.yld::.any::(.ptr 4 0)::.any::.any::(.vec 7)::qP 6 ((.int .i64)::(.int .i64)::qP 39 [])),h:=[.cells [(.imm [(.int .i64),(.int .i64),(.int .i64)])],.cells [.str,.str,.str,.str,.nils],.cells [.nils],.cells [(.int .i64)],.cells [(.int .i64)],.cells [(.int .i64)],.dead,.vec 33 [(.sl [(.int .i64)])]],fs:=[[.any,.any,(.ptr 0 0),.any,(.ptr 1 0),(.ptr 2 0),(.ptr 3 0),.any,.any,.any,.any,.any,.any,.any,(.fn 92 [] [(.ptr 5 0),(.ptr 4 0)]),.any,.any,.any,.any,.any,.any,.any,.any,.any,.any,.any,.any,.any,.any,.any,.any],[]] }⟩,⟨.ret,{ t:=(qP 53 []),h:=[.cells [(.imm [(.int .i64),(.int .i64),(.int .i64)])],.cells [.str,.str,.str,.str,(.imm [.str])],.cells [(.vec 8)],.cells [(.int .i64)],.cells [(.int .i64)],.cells [(.int .i64)],.dead,.dead,.frz 3 [(.int .i64)]],fs:=[[.any,.any,(.ptr 0 0),.any,(.ptr 1 0),(.ptr 2 0),(.ptr 3 0),.any,.any,.any,.any,.any,.any,.any,(.fn 92 [] [(.ptr 5 0),(.ptr 4 0)]),.any,.any,.any,.any,.any,.any,.any,.any,.any,.any,.any,.any,.any,.any,.any,.any],[]],pend:=(.some .ret) }⟩]
noncomputable def ki:Env:={ tt:=q25,glob:=qa,spec:=q0y,body:=[(34,f34),(63,f63),(92,f92)],loops:=[((92,18),qt q1f q1j (qh qN))],nimp:=0,iter:=[(92,34,3)],raws:=[93] }
noncomputable def vJ:=qiU ki (some (34,f34,3)) 92 f92 9 q29 q26
theorem qbH:qu prog qa ki.nimp (qL prog ki.iter 92) (zR f92 9) (qt q29 q26 (qh vJ)):=kV (E:=ki) qc ⟨q4R q8,⟨q1S,aln⟩,(alc (lk func92 qaj) aln),(alc (bk func34) (alc (bk func63) (alc (bk func92) aln)))⟩ func92 (by kernel_rfl) (y:=some (34,f34,3)) ⟨func34,by kernel_rfl⟩ (by kernel_rfl) (by kernel_rfl) (fun _=>rfl)
def q2i:Tmpl:={ t:=(.yld::.any::(.ptr 4 0)::.any::(.vec 6)::qP 7 ((.int .i64)::(.int .i64)::qP 39 [])),h:=[.cells [(.imm [(.int .i64),(.int .i64),(.int .i64)])],.cells [.str,.str,.str,.str,.nils],.cells [.nils],.cells [(.int .i64)],.cells [(.int .i64)],.cells [(.int .i64)],.vec 33 [(.sl [(.int .i64)])]],sw:=[(2,4),(4,6)],swn:=0,fs:=[[.any,.any,(.ptr 0 0),.any,(.ptr 1 0),(.ptr 2 0),(.ptr 3 0),.any,.any,.any,.any,.any,.any,.any,(.fn 92 [] [(.ptr 5 0),(.ptr 4 0)]),.any,.any,.any,.any,.any,.any,.any,.any,.any,.any,.any,.any,.any,.any,.any,.any],[]] }
def q28:List Out:=[⟨(.exit 0),{ t:=(qP 53 []),h:=[.cells [(.imm [(.int .i64),(.int .i64),(.int .i64)])],.cells [.str,.str,.str,.str,.nils],.cells [.nils],.cells [(.int .i64)],.cells [(.int .i64)],.cells [(.int .i64)]],fs:=[[.any,.any,(.ptr 0 0),.any,(.ptr 1 0),(.ptr 2 0),(.ptr 3 0),.any,.any,.any,.any,.any,.any,.any,(.fn 92 [] [(.ptr 5 0),(.ptr 4 0)]),.any,.any,.any,.any,.any,.any,.any,.any,.any,.any,.any,.any,.any,.any,.any,.any],[]] }⟩,⟨.ret,{ t:=(qP 53 []),h:=[.cells [(.imm [(.int .i64),(.int .i64),(.int .i64)])],.cells [.str,.str,.str,.str,(.imm [.str])],.cells [(.vec 8)],.cells [(.int .i64)],.cells [(.int .i64)],.cells [(.int .i64)],.dead,.dead,.frz 3 [(.int .i64)]],fs:=[[.any,.any,(.ptr 0 0),.any,(.ptr 1 0),(.ptr 2 0),(.ptr 3 0),.any,.any,.any,.any,.any,.any,.any,(.fn 92 [] [(.ptr 5 0),(.ptr 4 0)]),.any,.any,.any,.any,.any,.any,.any,.any,.any,.any,.any,.any,.any,.any,.any,.any],[]],pend:=(.some .ret) }⟩]
noncomputable def kh:Env:={ tt:=q25,glob:=qa,spec:=q0y,body:=[(34,f34),(63,f63),(92,f92)],loops:=[((92,9),qt q29 q26 (qh vJ))],nimp:=0,iter:=[(92,34,3)],raws:=[93] }
noncomputable def vF:=qiU kh (some (34,f34,3)) 92 f92 2 q2i q28
theorem qbd:qu prog qa kh.nimp (qL prog kh.iter 92) (zR f92 2) (qt q2i q28 (qh vF)):=kV (E:=kh) qc ⟨q4R q8,⟨q1S,aln⟩,(alc (lk func92 qbH) aln),(alc (bk func34) (alc (bk func63) (alc (bk func92) aln)))⟩ func92 (by kernel_rfl) (y:=some (34,f34,3)) ⟨func34,by kernel_rfl⟩ (by kernel_rfl) (by kernel_rfl) (fun _=>rfl)
noncomputable def qdK:Env:={ tt:=q25,glob:=qa,spec:=q0y,body:=[(34,f34),(63,f63),(92,f92)],loops:=[((92,2),qt q2i q28 (qh vF))],nimp:=0,iter:=[(92,34,3)],raws:=[93] }
noncomputable def ky:=qw qdK 34 f34 true q8g q88
theorem qgT:zb prog qa 34 (q9 q8g q88 ky):=sk qdK qc q8 q1S (alc (lk func92 qbd) aln) (alc (bk func34) (alc (bk func63) (alc (bk func92) aln))) func34
def q6w:FIn:=⟨[(.imm [(.int .i64),(.int .i64)])],[]⟩
def q6j:List FOut:=[⟨(.imm [(.int .i64),(.int .i64),(.int .i64)]),[],none⟩]
def q46:Tmpl:={ t:=(.any::.any::.any::(.vec 0)::.any::.any::(.imm [(.int .i64),(.int .i64)])::(.int .i64)::(.int .i64)::qP 13 []),h:=[.vec 115 [(.int .i64),(.int .i64),(.int .i64)]],pro:=[(3,115,[(.int .i64),(.int .i64),(.int .i64)])] }
def q4K:List Out:=[⟨(.exit 0),{ t:=(.any::.any::.any::(.vec 0)::qP 18 []),h:=[.vec 115 [(.int .i64),(.int .i64),(.int .i64)]] }⟩]
noncomputable def q16:=qe [] [(35,f35)] [] 0
noncomputable def jx:=ke q16 35 f35 4 q46 q4K
theorem qdq:qu prog qa q16.nimp (qL prog q16.iter 35) (zR f35 4) (qt q46 q4K (qh jx)):=gk q16 qc q8 aln aln (b1 func35) func35
noncomputable def qbU:=qe [] [(35,f35)] [((35,4),qt q46 q4K (qh jx))] 0
noncomputable def q0r:=qw qbU 35 f35 true q6w q6j
theorem qfc:zb prog qa 35 (q9 q6w q6j q0r):=sk qbU qc q8 aln (alc (lk func35 qdq) aln) (b1 func35) func35
def q0U:FIn:=⟨[(.agg [.str,.str,.str,.str,(.imm [.str])])],[]⟩
def q0R:List FOut:=[⟨(.agg [.str,.str]),[],none⟩]
noncomputable def q4T:=qe [] [(36,f36)] [] 0
noncomputable def yC:=qw q4T 36 f36 true q0U q0R
theorem q9I:zb prog qa 36 (q9 q0U q0R yC):=sk q4T qc q8 aln aln (b1 func36) func36
def q2Z:FIn:=⟨[(.imm [(.int .i64),(.int .i64)])],[]⟩
def q31:List FOut:=[⟨(.tuple [(.agg [.str,.str]),.str,(.imm [(.int .i64)]),(.int .i64)]),[],none⟩]
noncomputable def qcf:=qe [(33,q9 q9e q9C q2w),(34,q9 q8g q88 ky),(35,q9 q6w q6j q0r),(36,q9 q0U q0R yC)] [(11,f11)] [] 0
noncomputable def vO:=qw qcf 11 f11 true q2Z q31
theorem q87:zb prog qa 11 (q9 q2Z q31 vO):=sk qcf qc q8 (alc qhN (alc qgT (alc qfc (alc q9I aln)))) aln (b1 func11) func11
def qcW:FIn:=⟨[.str],[]⟩
def qcX:List FOut:=[⟨.str,[],none⟩]
noncomputable def qiY:=qe [] [(65,f65)] [] 0
noncomputable def q5J:=qw qiY 65 f65 true qcW qcX
theorem qkY:zb prog qa 65 (q9 qcW qcX q5J):=sk qiY qc q8 aln aln (b1 func65) func65
def qb2:FIn:=⟨[.str],[]⟩
def qbr:List FOut:=[⟨.bool,[],none⟩]
noncomputable def qhs:=qe [] [(67,f67)] [] 0
noncomputable def q3R:=qw qhs 67 f67 true qb2 qbr
theorem qjb:zb prog qa 67 (q9 qb2 qbr q3R):=sk qhs qc q8 aln aln (b1 func67) func67
def qa2:FIn:=⟨[.str,.bool],[]⟩
def qa8:List FOut:=[⟨.str,[],none⟩]
noncomputable def qeE:=qe [] [(68,f68)] [] 0
noncomputable def q2N:=qw qeE 68 f68 true qa2 qa8
theorem qij:zb prog qa 68 (q9 qa2 qa8 q2N):=sk qeE qc q8 aln aln (b1 func68) func68
def q0K:FIn:=⟨[.str],[]⟩
def q0I:List FOut:=[⟨.str,[],none⟩]
noncomputable def qeC:=qe [(65,q9 qcW qcX q5J),(67,q9 qb2 qbr q3R),(68,q9 qa2 qa8 q2N)] [(72,f72)] [] 0
noncomputable def yd:=qw qeC 72 f72 true q0K q0I
theorem q1E:zb prog qa 72 (q9 q0K q0I yd):=sk qeC qc q8 (alc qkY (alc qjb (alc qij aln))) aln (b1 func72) func72
def qbA:FIn:=⟨[(.int .i64)],[]⟩
def qbg:List FOut:=[⟨.str,[],none⟩]
def qaV:Tmpl:={ t:=((.int .i64)::.any::.any::.str::qP 33 []),h:=[] }
def qbN:List Out:=[⟨(.exit 0),{ t:=((.int .i64)::.any::.any::.str::qP 33 []),h:=[] }⟩]
noncomputable def q6Z:=qe [(72,q9 q0K q0I yd)] [] [] 0
noncomputable def q7b:=ke q6Z 44 f44 9 qaV qbN
theorem qj8:qu prog qa q6Z.nimp (qL prog q6Z.iter 44) (zR f44 9) (qt qaV qbN (qh q7b)):=gk q6Z qc q8 (alc q1E aln) aln aln func44
noncomputable def qkV:=qe [(72,q9 q0K q0I yd)] [] [((44,9),qt qaV qbN (qh q7b))] 0
noncomputable def q3n:=qw qkV 44 f44 true qbA qbg
theorem qez:zb prog qa 44 (q9 qbA qbg q3n):=sk qkV qc q8 (alc q1E aln) (alc (lk func44 qj8) aln) aln func44
def qix:FIn:=⟨[(.int .i64)],[]⟩
def qhz:List FOut:=[⟨.str,[],none⟩]
def qdc:Tmpl:={ t:=((.int .i64)::.any::.any::.str::qP 33 []),h:=[] }
def qdw:List Out:=[⟨(.exit 0),{ t:=((.int .i64)::.any::.any::.str::qP 33 []),h:=[] }⟩]
noncomputable def q8R:=qe [(44,q9 qbA qbg q3n),(72,q9 q0K q0I yd)] [] [] 0
noncomputable def q8Y:=ke q8R 44 f44 9 qdc qdw
theorem qkk:qu prog qa q8R.nimp (qL prog q8R.iter 44) (zR f44 9) (qt qdc qdw (qh q8Y)):=gk q8R qc q8 (alc qez (alc q1E aln)) aln aln func44
noncomputable def qmp:=qe [(44,q9 qbA qbg q3n),(72,q9 q0K q0I yd)] [] [((44,9),qt qdc qdw (qh q8Y))] 0
noncomputable def q5n:=qw qmp 44 f44 true qix qhz
theorem qno:zb prog qa 44 (q9 qix qhz q5n):=sk qmp qc q8 (alc qez (alc q1E aln)) (alc (lk func44 qkk) aln) aln func44
end Go.Eng

namespace Go.Eng
open Go.Proofs
open Tryz
def qbo:FIn:=⟨[(.int .i64)],[]⟩
def qbu:List FOut:=[⟨.str,[],none⟩]
noncomputable def qgJ:=qe [(44,q9 qix qhz q5n)] [(15,f15)] [] 0
noncomputable def q1D:=qw qgJ 15 f15 true qbo qbu
theorem qj6:zb prog qa 15 (q9 qbo qbu q1D):=sk qgJ qc q8 (alc qno aln) aln (b1 func15) func15
def q6f:FIn:=⟨[(.agg [.str,.str,.str]),(.agg [.str,.str])],[]⟩
def q6i:List FOut:=[⟨(.tuple [.bool,(.int .i64)]),[],none⟩]
def q3Y:Tmpl:={ t:=(.any::.any::(.ptr 0 0)::(.ptr 1 0)::qP 17 ((.vec 2)::(.int .i64)::(.int .i64)::qP 33 [])),h:=[.cells [.str,.str,.str],.cells [.str,.str],.vec 30 [.str]] }
def q4r:List Out:=[⟨(.exit 0),{ t:=(.any::.any::(.ptr 0 0)::(.ptr 1 0)::qP 53 []),h:=[.cells [.str,.str,.str],.cells [.str,.str]] }⟩,⟨.ret,{ t:=(qP 4 (.bool::(.int .i64)::qP 51 [])),h:=[] }⟩]
noncomputable def q57:List (FuncId×zV):=[(47,q9 q3X q4x uo),(48,q9 ja jh qJ),(49,q9 q3S q3Q u9),(50,q9 q62 q6b q0A)]
theorem q94:∀x,x∈q57->zb prog qa x.1 x.2:=(alc q6o (alc vN (alc qdj (alc qfi aln))))
noncomputable def q12:=qe q57 [(18,f18)] [] 0
noncomputable def um:=ke q12 18 f18 7 q3Y q4r
theorem qdB:qu prog qa q12.nimp (qL prog q12.iter 18) (zR f18 7) (qt q3Y q4r (qh um)):=gk q12 qc q8 q94 aln (b1 func18) func18
noncomputable def qcq:=qe q57 [(18,f18)] [((18,7),qt q3Y q4r (qh um))] 0
noncomputable def vK:=qw qcq 18 f18 true q6f q6i
theorem qfz:zb prog qa 18 (q9 q6f q6i vK):=sk qcq qc q8 q94 (alc (lk func18 qdB) aln) (b1 func18) func18
def q0n:FIn:=⟨[(.agg [(.int .i64),(.int .i64)])],[]⟩
def q0z:List FOut:=[⟨.bool,[],none⟩]
noncomputable def qc2:=qe [] [(51,f51)] [] 0
noncomputable def jE:=qw qc2 51 f51 true q0n q0z
theorem q3o:zb prog qa 51 (q9 q0n q0z jE):=sk qc2 qc q8 aln aln (b1 func51) func51
def qF:FIn:=⟨[(.imm [(.int .i64),(.int .i64)]),(.fn 51 [] [])],[]⟩
def qG:List FOut:=[⟨.bool,[],none⟩]
def qz:Tmpl:={ t:=((.imm [(.int .i64),(.int .i64)])::(.fn 51 [] [])::qP 5 ((.int .i64)::(.int .i64)::qP 10 [])),h:=[],fs:=[[(.imm [(.int .i64),(.int .i64)]),(.fn 51 [] []),.any,.any,(.blit false),(.imm [(.int .i64),(.int .i64)]),(.fn 51 [] []),.any,.any],[]] }
def qy:List Out:=[⟨(.exit 0),{ t:=(qP 19 []),h:=[],fs:=[[(.imm [(.int .i64),(.int .i64)]),(.fn 51 [] []),.any,.any,(.blit false),(.imm [(.int .i64),(.int .i64)]),(.fn 51 [] []),.any,.any],[]] }⟩,⟨.ret,{ t:=(qP 4 ((.int .i64)::qP 14 [])),h:=[],fs:=[[(.imm [(.int .i64),(.int .i64)]),(.fn 51 [] []),.any,.any,(.blit false),(.imm [(.int .i64),(.int .i64)]),(.fn 51 [] []),.any,.any],[]] }⟩]
noncomputable def qo:=qe [(51,q9 q0n q0z jE)] [(7,f7),(28,f28)] [] 0
noncomputable def qg:=ke qo 28 f28 3 qz qy
theorem zZ:qu prog qa qo.nimp (qL prog qo.iter 28) (zR f28 3) (qt qz qy (qh qg)):=gk qo qc q8 (alc q3o aln) aln (alc (bk func7) (alc (bk func28) aln)) func28
noncomputable def zd:=qe [(51,q9 q0n q0z jE)] [(7,f7),(28,f28)] [((28,3),qt qz qy (qh qg))] 0
noncomputable def qk:=qw zd 7 f7 true qF qG
theorem wN:zb prog qa 7 (q9 qF qG qk):=sk zd qc q8 (alc q3o aln) (alc (lk func28 zZ) aln) (alc (bk func7) (alc (bk func28) aln)) func7
def q9v:FIn:=⟨[(.imm [(.int .i64),(.int .i64)])],[]⟩
def q9x:List FOut:=[⟨.bool,[],none⟩]
noncomputable def qeR:=qe [(51,q9 q0n q0z jE),(7,q9 qF qG qk)] [(19,f19)] [] 0
noncomputable def uE:=qw qeR 19 f19 true q9v q9x
theorem qhT:zb prog qa 19 (q9 q9v q9x uE):=sk qeR qc q8 (alc q3o (alc wN aln)) aln (b1 func19) func19
def q6v:FIn:=⟨[],[]⟩
def q6s:List FOut:=[⟨.bool,[],none⟩]
noncomputable def qc9:=qe [(11,q9 q2Z q31 vO)] [(20,f20)] [] 0
noncomputable def yU:=qw qc9 20 f20 true q6v q6s
theorem qfS:zb prog qa 20 (q9 q6v q6s yU):=sk qc9 qc q8 (alc q87 aln) aln (b1 func20) func20
def vb:FIn:=⟨[(.imm [(.int .i64),(.int .i64)])],[]⟩
def va:List FOut:=[⟨(.vec 0),[.vec 26 [(.int .i64),(.int .i64)]],none⟩]
noncomputable def yI:=qe [] [(21,f21)] [] 0
noncomputable def qD:=qw yI 21 f21 false vb va
theorem q2d:zb prog qa 21 (q9 vb va qD):=qff (E:=yI) qc ⟨q4R q8,⟨aln,aln⟩,aln,(b1 func21)⟩ func21 (by kernel_rfl) (by kernel_rfl) (fun _=>rfl)
def q04:FIn:=⟨[(.imm [(.int .i64),(.int .i64)]),(.agg [(.int .i64),(.int .i64)])],[]⟩
def q05:List FOut:=[⟨.bool,[],none⟩]
def yN:Tmpl:={ t:=((.imm [(.int .i64),(.int .i64)])::qP 4 ((.ptr 2 0)::.str::.any::.any::(.vec 6)::qP 38 ((.vec 5)::(.int .i64)::(.int .i64)::qP 72 []))),h:=[.dead,.dead,.cells [.str,.str],.dead,.dead,.vec 26 [(.int .i64),(.int .i64)],.vec 43 [.str,.str,.str]],pro:=[(9,43,[.str,.str,.str])] }
def yS:List Out:=[⟨(.exit 0),{ t:=((.imm [(.int .i64),(.int .i64)])::qP 4 ((.ptr 2 0)::.any::.any::.any::(.vec 6)::qP 113 [])),h:=[.dead,.dead,.cells [.str,.str],.dead,.dead,.dead,.vec 43 [.str,.str,.str]] }⟩]
noncomputable def jw:List (FuncId×zV):=[(11,q9 q2Z q31 vO),(15,q9 qbo qbu q1D),(17,q9 qa1 qa3 q0H),(18,q9 q6f q6i vK),(19,q9 q9v q9x uE),(20,q9 q6v q6s yU),(21,q9 vb va qD)]
theorem uL:∀x,x∈jw->zb prog qa x.1 x.2:=(alc q87 (alc qj6 (alc qiy (alc qfz (alc qhT (alc qfS (alc q2d aln)))))))
noncomputable def vP:Env:={ tt:=q25,glob:=qa,spec:=jw,body:=[(4,f4)],loops:=[],nimp:=0,raws:=[21] }
noncomputable def zq:=ke vP 4 f4 11 yN yS
theorem q6u:qu prog qa vP.nimp (qL prog vP.iter 4) (zR f4 11) (qt yN yS (qh zq)):=gk vP qc q8 uL aln (b1 func4) func4
def yM:Tmpl:={ t:=((.imm [(.int .i64),(.int .i64)])::qP 4 ((.ptr 2 0)::.any::.any::.any::(.vec 6)::qP 57 ((.vec 6)::(.int .i64)::(.int .i64)::qP 53 []))),h:=[.dead,.dead,.cells [.str,.str],.dead,.dead,.dead,.vec 43 [.str,.str,.str]] }
def yO:List Out:=[⟨(.exit 2),{ t:=((.imm [(.int .i64),(.int .i64)])::qP 4 ((.ptr 2 0)::.any::.any::.any::(.vec 6)::qP 113 [])),h:=[.dead,.dead,.cells [.str,.str],.dead,.dead,.dead,.vec 43 [.str,.str,.str]] }⟩,⟨.ret,{ t:=(qP 4 (.bool::qP 118 [])),h:=[] }⟩]
noncomputable def vQ:Env:={ tt:=q25,glob:=qa,spec:=jw,body:=[(4,f4)],loops:=[],nimp:=0,raws:=[21] }
noncomputable def zr:=ke vQ 4 f4 18 yM yO
theorem q67:qu prog qa vQ.nimp (qL prog vQ.iter 4) (zR f4 18) (qt yM yO (qh zr)):=gk vQ qc q8 uL aln (b1 func4) func4
noncomputable def zv:Env:={ tt:=q25,glob:=qa,spec:=jw,body:=[(4,f4)],loops:=[((4,11),qt yN yS (qh zq)),((4,18),qt yM yO (qh zr))],nimp:=0,raws:=[21] }
noncomputable def vr:=qw zv 4 f4 true q04 q05
theorem q8r:zb prog qa 4 (q9 q04 q05 vr):=sk zv qc q8 uL (alc (lk func4 q6u) (alc (lk func4 q67) aln)) (b1 func4) func4
end Go.Eng

