/- Texts of the proof, merged: what the code computes, and plain laws. No statement stands here. -/
import Derived.Test.YtjdhkocjkfdebaaGreatDoorH5
namespace Go.Eng
variable {n:Nat}
theorem qMq {α:Type}(b:Bool)(t e:Tree α):(Tree.br b t e).run=if b=true then t.run else e.run:=by cases b<;>rfl
theorem qJA {α:Type}(a:α):(Tree.leaf a).run=some a:=rfl
theorem qJR {α:Type}:(Tree.fail:Tree α).run=none:=rfl
theorem qK {x y:Int}(h:-9223372036854775808<=x+y/\x+y<=9223372036854775807):qo .i64 x y=x+y:=by unfold qo IntKind.wrap;simp[IntKind.signed,IntKind.bits];omega
theorem ze {x y:Int}(h:-9223372036854775808<=x-y/\x-y<=9223372036854775807):wo .i64 x y=x-y:=by unfold wo IntKind.wrap;simp[IntKind.signed,IntKind.bits];omega
theorem uK {x y:Int}(h:-9223372036854775808<=x*y/\x*y<=9223372036854775807):wd .i64 x y=x*y:=by unfold wd IntKind.wrap;simp[IntKind.signed,IntKind.bits];omega
theorem qG1 (x y:Int):(ieq x y=true)=(x=y):=by simp[ieq]
theorem qL5 (x y:Int):(ine x y=true)=(x≠y):=by simp[ine]
theorem qLM (x y:Int):(ilt x y=true)=(x<y):=by simp[ilt]
theorem qHp (x y:Int):(ile x y=true)=(x<=y):=by simp[ile]
theorem qL6 (x y:Bool):(Go.Eng.beq x y=true)=(x=y):=by simp[Go.Eng.beq]
theorem qNQ {a b A B:Int}(h1:-A<=a)(h2:a<=A)(h3:-B<=b)(h4:b<=B):-(A*B)<=a*b/\a*b<=A*B:=by have e1:=qQv (show 0<=A-a by omega) (show 0<=B-b by omega);have e2:=qQv (show 0<=A+a by omega) (show 0<=B+b by omega);have e3:=qQv (show 0<=A-a by omega) (show 0<=B+b by omega);have e4:=qQv (show 0<=A+a by omega) (show 0<=B-b by omega);simp only[Int.sub_mul,Int.mul_sub,Int.add_mul,Int.mul_add] at e1 e2 e3 e4;omega
theorem qBT {x:Int}(h:-9223372036854775807<=x/\x<=9223372036854775807):wo .i64 0 x=-x:=by rw[ze (by omega)];omega
theorem qzi {x:Int}(h:-9223372036854775808<=x/\x<=9223372036854775807):q3C .i64 x=x:=by unfold q3C IntKind.wrap;simp[IntKind.signed,IntKind.bits];omega
theorem qJc (b:Bool):((!b)=true)=¬(b=true):=by cases b<;>simp
theorem qIX (x y:Bool):(qHC x y=true)=(x=true/\y=true):=by simp[qHC]
theorem qMn (i n:Int):(inb i n=true)=(0<=i/\i<n):=by simp[inb]
theorem qLX (i n:Int):(q7O i n=true)=(0<=i/\i<=n):=by simp[q7O]
theorem STD:(∀(α:Type) (b:Bool) (t e:Tree α),(Tree.br b t e).run=if b=true then t.run else e.run)/\(∀(α:Type) (a:α),(Tree.leaf a).run=some a)/\(∀(α:Type),(Tree.fail:Tree α).run=none) /\(∀R:TR,okR R=R.run.isSome)/\(∀(α:Type) (a:α),(some a).isSome=true)/\(∀(R:TR) (i:Nat),gI R i=(pR R i).toI)/\(∀(R:TR) (i:Nat),gB R i=(pR R i).toB)/\(∀(R:TR) (i:Nat),gS R i=(pR R i).toS)/\(∀(R:TR) (i:Nat),gR R i=(pR R i).toR) /\(∀(R:TR) (i:Nat),pR R i=R.run.elim (.i 0) fun r=>r.2.getD i (.i 0))/\(∀(α β:Type) (b:β) (f:α->β) (a:α),(some a).elim b f=f a) /\(∀(a:PV) (l:List PV) (d:PV),(a::l).getD 0 d=a)/\(∀(a:PV) (l:List PV) (d:PV) (n:Nat),(a::l).getD (n+1) d=l.getD n d) /\(∀n,(PV.i n).toI=n)/\(∀b,(PV.b b).toB=b)/\(∀s,(PV.s s).toS=s)/\(∀l,(PV.r l).toR=l) /\(∀(α:Type) (h:Decidable True) (a b:α),@ite α True h a b=a)/\(∀(α:Type) (h:Decidable False) (a b:α),@ite α False h a b=b)/\((false=true)=False)/\((true=false)=False)/\((true=true)=True) /\(∀x y,(ieq x y=true)=(x=y))/\(∀x y,(ine x y=true)=(x≠y))/\(∀x y,(ilt x y=true)=(x<y))/\(∀x y,(ile x y=true)=(x<=y))/\(∀x y,(Go.Eng.beq x y=true)=(x=y)) /\(∀x y,(qHC x y=true)=(x=true/\y=true))/\(∀b:Bool,((!b)=true)=¬(b=true))/\(∀i n,(inb i n=true)=(0<=i/\i<n))/\(∀i n,(q7O i n=true)=(0<=i/\i<=n)) /\(∀(p:Prop) (_:Decidable p),(decide p=true)=p)/\(∀(α:Type) (a b:α),(a≠b)=¬(a=b))/\(¬True)=False/\(¬False)=True:=
 ⟨fun _=>qMq,fun _=>qJA,fun _=>qJR,fun _=>rfl,fun _ _=>rfl,fun _ _=>rfl,fun _ _=>rfl,fun _ _=>rfl,fun _ _=>rfl,fun R i=>by unfold pR;cases R.run<;>rfl,fun _ _ _ _ _=>rfl,
  fun _ _ _=>rfl,fun _ _ _ _=>rfl,fun _=>rfl,fun _=>rfl,fun _=>rfl,fun _=>rfl,fun _ _ _ _=>by simp,fun _ _ _ _=>by simp,by simp,by simp,by simp,qG1,qL5,qLM,qHp,qL6,
  qIX,qJc,qMn,qLX,fun _ _=>by simp,fun _ _ _=>rfl,by simp,by simp⟩
theorem zm {R:TR}{j:Nat}{ps:List PV}(h:R.run=some (j,ps))(i:Nat):(jIs R i=true)=(j=i):=by simp[jIs,jR,h]
theorem run_bind {α β:Type}(t:Tree α)(f:α->Tree β):(t.bind f).run=t.run.bind fun a=>(f a).run:=by
 induction t with
 | leaf a=>rfl
 | br b t e iht ihe=>cases b<;>simp[Tree.bind,Tree.run,iht,ihe]
 | fail=>rfl
theorem qzq {S:List PV->TR}{ps qs:List PV}(h:(S ps).run=some (0,qs)):(qqd S (n+1) ps).run=(qqd S n qs).run:=by simp[qqd,run_bind,h]
theorem qqa {S:List PV->TR}{n j:Nat}{ps qs:List PV}(h:(S ps).run=some (j+1,qs)):(qqd S (n+1) ps).run=some (j,qs):=by simp[qqd,run_bind,h,Tree.run]
def q7V{α:Type}(f:Nat->Option α):Nat->Nat->Option α
 | _,0=>none
 | i,k+1=>match f i with
  | some a=>some a
  | none=>q7V f (i+1) k
theorem qxQ{S:List PV->TR}(st:Nat->List PV)(f:Nat->Option (Nat×List PV))(fin:Nat×List PV)(n:Nat)
  (h1:∀i,i<n->f i=none->(S (st i)).run=some (0,st (i+1))) (h2:∀i r,i<n->f i=some r->(S (st i)).run=some (r.1+1,r.2))
  (h3:(S (st n)).run=some (fin.1+1,fin.2)):∀(k i m:Nat),i+k=n->k<m->(qqd S m (st i)).run=some ((q7V f i k).getD fin)
 | 0,i,m,hi,hm=>by
  obtain⟨m,rfl⟩:∃m',m=m'+1:=⟨m-1,by omega⟩;have:i=n:=by omega
  subst this;rw[qqa h3];rfl
 | k+1,i,m,hi,hm=>by
  obtain⟨m,rfl⟩:∃m',m=m'+1:=⟨m-1,by omega⟩;cases hf:f i with
  | none=>
   rw[qzq (h1 i (by omega) hf),qxQ st f fin n h1 h2 h3 k (i+1) m (by omega) (by omega)];simp[q7V,hf]
  | some r=>
   rw[qqa (h2 i r (by omega) hf)];simp[q7V,hf]
theorem kt {S:List PV->TR}(st:Nat->List PV)(f:Nat->Option (Nat×List PV))(fin:Nat×List PV)(n:Nat)(hn:n<9223372036854775808)(h1:∀i,i<n->f i=none->(S (st i)).run=some (0,st (i+1))) (h2:∀i r,i<n->f i=some r->(S (st i)).run=some (r.1+1,r.2))(h3:(S (st n)).run=some (fin.1+1,fin.2)):(qf S (st 0)).run=some ((q7V f 0 n).getD fin):=qxQ st f fin n h1 h2 h3 n 0 qrH (by omega) (Nat.lt_trans hn (by unfold qrH;decide))
theorem qu {S:List PV->TR}(st:Nat->List PV)(fin:Nat×List PV)(n:Nat)(hn:n<9223372036854775808)(h1:∀i,i<n->(S (st i)).run=some (0,st (i+1))) (h3:(S (st n)).run=some (fin.1+1,fin.2)):(qf S (st 0)).run=some fin:=by
 have h:=kt st (fun _=>none) fin n hn (fun i hi _=>h1 i hi) (fun i r _ h=>by cases h) h3;have e:∀k i,q7V (fun _=>(none:Option (Nat×List PV))) i k=none:=by
  intro k;induction k with
  | zero=>intro i;rfl
  | succ k ih=>intro i;simp[q7V,ih]
 rw[e] at h;exact h
theorem qgj{α:Type}{f:Nat->Option α}:∀{k i:Nat},q7V f i k=none->∀j,i<=j->j<i+k->f j=none
 | 0,i,_,j,h1,h2=>by omega
 | k+1,i,h,j,h1,h2=>by
  simp only[q7V] at h;cases hf:f i with
  | some a=>rw[hf] at h;cases h
  | none=>
   rw[hf] at h;rcases qQm h1 with rfl|h1
   ·exact hf
   ·exact qgj h j h1 (by omega)
theorem qlo{α:Type}{f g:Nat->Option α}:∀{k i:Nat},(∀j,i<=j->j<i+k->f j=g j)->q7V f i k=q7V g i k
 | 0,i,_=>rfl
 | k+1,i,h=>by
  simp only[q7V];rw[h i (by omega) (by omega),qlo (fun j h1 h2=>h j (by omega) (by omega))]
theorem qEa{α β:Type}(g:α->β){f:Nat->Option α}:∀{k i:Nat},q7V (fun j=>(f j).map g) i k=(q7V f i k).map g
 | 0,i=>rfl
 | k+1,i=>by
  simp only[q7V];cases f i with
  | some a=>rfl
  | none=>exact qEa g
theorem j5 {i n:Nat}(h:i<n)(hn:n<9223372036854775808):qo .i64 (i:Int) 1=((i+1:Nat):Int):=by rw[qK (by omega)];omega
theorem qAs {α:Type}(n:Nat):∀i,q7V (fun _=>(none:Option α)) i n=none:=by
 induction n with
 | zero=>intro i;rfl
 | succ n ih=>intro i;simp[q7V,ih]
def pick(p:Nat->Bool):Nat->R
 | 0=>[]
 | n+1=>if p n then zE (pick p n) [[.i (n:Int)]] else pick p n
def qbV(f:Nat->Int)(i:Nat):Option Int:=if f i=0 then none else some (f i)
theorem qGo {f:Nat->Int}(h:q7V (qbV f) 0 n=none)(i:Nat)(hi:i<n):f i=0:=by
 have:=qgj h i (by omega) (by omega);unfold qbV at this;split at this
 ·assumption
 ·cases this
theorem qzd{f:Nat->Int}:∀{k i:Nat} {e:Int},q7V (qbV f) i k=some e->e≠0
 | 0,i,e,h=>by cases h
 | k+1,i,e,h=>by
  simp only[q7V] at h;unfold qbV at h;by_cases h0:f i=0
  ·rw[if_pos h0] at h;exact qzd h
  ·rw[if_neg h0] at h;simp at h;omega
def q0T(e:Nat->Int)(n:Nat):Int:=(q7V (qbV e) 0 n).getD 0
theorem qhY {e:Nat->Int}(h:q0T e n=0)(i:Nat)(hi:i<n):e i=0:=by
 unfold q0T at h;cases hs:q7V (qbV e) 0 n with
 | none=>exact qGo hs i hi
 | some x=>rw[hs] at h;exact absurd h (qzd hs)
theorem qG9 {e:Nat->Int}(h:∀i,i<n->e i=0):q0T e n=0:=by unfold q0T;rw[qlo (g:=fun _=>none) (fun j _ hj=>by unfold qbV;rw[if_pos (h j (by omega))]),qAs];rfl
theorem qAn {e f:Nat->Int}(h:∀i,i<n->e i=f i):q0T e n=q0T f n:=by unfold q0T;rw[qlo (g:=qbV f) (fun j _ hj=>by unfold qbV;rw[h j (by omega)])]
theorem qpF {S:List PV->TR}(st:Nat->List PV)(e:Nat->Int)(caps fin:List PV)(n:Nat)(hn:n<9223372036854775808)(h:∀i,i<n->(S (st i)).run=if e i=0 then some (0,st (i+1)) else some (2,.i (e i)::caps)) (h3:(S (st n)).run=some (1,fin)) :(qf S (st 0)).run=some (if q0T e n=0 then (0,fin) else (1,.i (q0T e n)::caps)):=by
 have key:=kt st (fun i=>(qbV e i).map fun x=>(1,PV.i x::caps)) (0,fin) n hn (fun i hi hf=>by
  rw[h i hi];unfold qbV at hf;split at hf
  ·rename_i h0;rw[if_pos h0]
  ·simp at hf) (fun i r hi hf=>by
  rw[h i hi];unfold qbV at hf;split at hf
  ·simp at hf
  ·rename_i h0;simp at hf;rw[if_neg h0,<-hf]) h3
 rw[key,qEa];unfold q0T;cases hs:q7V (qbV e) 0 n with
 | none=>simp
 | some x=>simp[qzd hs]
theorem qBh {l:R}{i:Nat}(h:i<l.length):(i:Int)<qg l:=by unfold qg;omega
theorem qqy (l:R):¬((l.length:Int)<qg l):=by unfold qg;omega
theorem qe3 (i:Nat):(0:Int)<=(i:Int):=by omega
end Go.Eng

namespace Go.Eng
variable {n:Nat}
def dch(d:Nat):UInt8:=UInt8.ofNat (48+d)
def dv(c:UInt8):Nat:=c.toNat-48
def q7P(s:qOK):Prop:=∀c,c∈s->48<=c.toNat/\c.toNat<=57
def val(s:qOK):Nat:=s.foldl (fun a c=>10*a+dv c) 0
def tNf:Nat->Nat->List UInt8
 | 0,_=>[]
 | f+1,n=>if n<10 then [dch n] else tNf f (n/10)++[dch (n%10)]
def tN(n:Nat):List UInt8:=tNf (n+1) n
def tI(n:Int):List UInt8:=if n<0 then 45::tN n.natAbs else tN n.natAbs
theorem q39 {d:Nat}(h:d<10):(dch d).toNat=48+d:=by unfold dch;rw[UInt8.toNat_ofNat'];omega
theorem qrW {d:Nat}(h:d<10):dv (dch d)=d:=by unfold dv;rw[q39 h];omega
theorem qKO {c:UInt8}(h1:48<=c.toNat)(h2:c.toNat<=57):dch (dv c)=c:=by apply qQO.1;rw[q39 (by unfold dv;omega)];unfold dv;omega
theorem qoD (s:qOK)(c:UInt8):val (s++[c])=10*val s+dv c:=by simp[val,List.foldl_append]
theorem qtk:∀(t:qOK) (a:Nat),t.foldl (fun a c=>10*a+dv c) a=a*10^t.length+val t
 | [],a=>by simp[val]
 | c::t,a=>by
  have h1:=qtk t (10*a+dv c);have h2:=qtk t (10*0+dv c);have h3:val (c::t)=t.foldl (fun a c=>10*a+dv c) (10*0+dv c):=rfl;rw[h3,h2,qQB,h1,qPg,qQ9];grind
theorem qy1 (s t:qOK):val (s++t)=val s*10^t.length+val t:=by
 have h:val (s++t)=t.foldl (fun a c=>10*a+dv c) (val s):=by simp[val,List.foldl_append]
 rw[h,qtk]
theorem q79 (c:UInt8)(t:qOK):val (c::t)=dv c*10^t.length+val t:=by have:=qy1 [c] t;simpa[val] using this
theorem qho:val []=0:=rfl
theorem qCm (c:UInt8):val [c]=dv c:=by simp[val]
theorem qsZ:q7P []:=fun c h=>by cases h
theorem q0x {c:UInt8}{s:qOK}:q7P (c::s)↔(48<=c.toNat/\c.toNat<=57)/\q7P s:=by unfold q7P;simp
theorem qbU {s t:qOK}:q7P (s++t)↔q7P s/\q7P t:=by unfold q7P;simp only[qPa];exact⟨fun h=>⟨fun c hc=>h c (.inl hc),fun c hc=>h c (.inr hc)⟩,fun h c hc=>hc.elim (h.1 c) (h.2 c)⟩
theorem qFb {c:UInt8}(h:48<=c.toNat/\c.toNat<=57):dv c<10:=by unfold dv;omega
theorem q7Y:∀{s:qOK},q7P s->val s<10^s.length
 | [],_=>by simp[val]
 | c::s,h=>by
  obtain⟨h1,h2⟩:=q0x.1 h;have ih:=q7Y h2;have hd:=qFb h1;rw[q79,qPg,qQ9];have:dv c*10^s.length<=9*10^s.length:=qPb _ (by omega);omega
theorem qyk {d:Nat}(h:d<10):q7P [dch d]:=by intro c hc;simp at hc;subst hc;rw[q39 h];omega
theorem qKT:∀(f g n:Nat),n<f->n<g->tNf f n=tNf g n
 | 0,_,n,h,_=>by omega
 | _,0,n,_,h=>by omega
 | f+1,g+1,n,h1,h2=>by
  unfold tNf;by_cases h:n<10
  ·rw[if_pos h,if_pos h]
  ·rw[if_neg h,if_neg h,qKT f g (n/10) (by omega) (by omega)]
theorem qAy (h:n<10):tN n=[dch n]:=by unfold tN tNf;rw[if_pos h]
theorem qBK (h:10<=n):tN n=tN (n/10)++[dch (n%10)]:=by
 have:tN n=tNf n (n/10)++[dch (n%10)]:=by show tNf (n+1) n=_;rw[tNf,if_neg (by omega)]
 rw[this,qKT n (n/10+1) (n/10) (by omega) (by omega)];rfl
theorem qy9 (n:Nat):q7P (tN n)/\tN n≠[]/\val (tN n)=n:=by
 induction n using Nat.strongRecOn with
 | _ n ih=>
  by_cases h:n<10
  ·rw[qAy h];exact⟨qyk h,by simp,by rw[qCm,qrW h]⟩
  ·rw[qBK (by omega)];obtain⟨h1,h2,h3⟩:=ih (n/10) (by omega);refine⟨qbU.2 ⟨h1,qyk (by omega)⟩,by simp,?_⟩;rw[qoD,h3,qrW (by omega)];omega
theorem zM (n:Nat):q7P (tN n):=(qy9 n).1
theorem qtF (n:Nat):tN n≠[]:=(qy9 n).2.1
theorem q0u (n:Nat):val (tN n)=n:=(qy9 n).2.2
theorem qlW (n:Nat):0<(tN n).length:=qQp.2 (qtF n)
theorem q2Y:∀(k n:Nat),n<10^(k+1)->(tN n).length<=k+1
 | 0,n,h=>by rw[qAy (by simpa using h)];simp
 | k+1,n,h=>by
  by_cases h10:n<10
  ·rw[qAy h10];simp
  ·rw[qBK (by omega),qP6];have:=q2Y k (n/10) (by rw[qQ9] at h;omega);simp;omega
theorem qzR:∀(k n:Nat),10^k<=n->k<(tN n).length
 | 0,n,_=>qlW n
 | k+1,n,h=>by
  have hp:0<10^k:=Nat.pow_pos (by omega);rw[qQ9] at h;rw[qBK (by omega),qP6];have:=qzR k (n/10) (by omega);simp;omega
theorem q7C {k n:Nat}(h:(tN n).length<=k):n<10^k:=by have:=q7Y (zM n);rw[q0u] at this;exact qPs this (qQg (by omega) h)
def lead(s:qOK):Prop:=s.length=1\/s.getD 0 0≠48
theorem qDZ {s:qOK}(hd:q7P s)(hn:s≠[])(h:s.getD 0 0≠48):10^(s.length-1)<=val s:=by
 cases s with
 | nil=>exact absurd rfl hn
 | cons c s=>
  obtain⟨h1,h2⟩:=q0x.1 hd;simp at h;have hc:1<=dv c:=by unfold dv;have:c.toNat≠48:=fun e=>h (qQO.1 (by simpa using e));omega
  rw[q79,qPg,qR0];have:1*10^s.length<=dv c*10^s.length:=qPb _ hc;omega
theorem qKK:∀(n:Nat) {s:qOK},s.length=n+1->q7P s->lead s->tN (val s)=s
 | 0,s,hl,hd,_=>by
  match s,hl with
  | [c],_=>
   have h1:=(q0x.1 hd).1;rw[qCm,qAy (qFb h1),qKO h1.1 h1.2]
 | n+1,s,hl,hd,hz=>by
  obtain⟨i,c,rfl⟩:∃i c,s=i++[c]:=⟨s.dropLast,s.getLast (by intro h;simp[h] at hl),(List.dropLast_concat_getLast _).symm⟩;have hil:i.length=n+1:=by simpa using hl
  obtain⟨h1,h2⟩:=qbU.1 hd;have hc:=(q0x.1 h2).1;have hi:i≠[]:=by intro h;simp[h] at hil
  have hz0:i.getD 0 0≠48:=by
   rcases hz with hz|hz
   ·exact absurd (by simpa using hz) hi
   ·cases i with
    | nil=>exact absurd rfl hi
    | cons a i=>simpa using hz
  have hv:1<=val i:=qOP (Nat.one_le_pow _ _ (by omega)) (qDZ h1 hi hz0);have hd10:=qFb hc;rw[qoD,qBK (n:=10*val i+dv c) (by omega),show (10*val i+dv c)/10=val i by omega,show (10*val i+dv c)%10=dv c by omega,qKO hc.1 hc.2,qKK n hil h1 (.inr hz0)]
theorem quR {s:qOK}(hd:q7P s)(hn:s≠[])(hz:lead s):s=tN (val s):=(qKK (s.length-1) (by have:=qQp.2 hn;omega) hd hz).symm
theorem qxl {m n:Nat}(h:tN m=tN n):m=n:=by rw[<-q0u m,h,q0u]
theorem qHk (n:Nat):lead (tN n):=by
 induction n using Nat.strongRecOn with
 | _ n ih=>
  by_cases h:n<10
  ·rw[qAy h];exact .inl rfl
  ·rw[qBK (by omega)];right;by_cases h2:n/10<10
   ·rw[qAy h2];intro e;have:(dch (n/10)).toNat=48:=by
     have e':dch (n/10)=48:=by simpa using e
     rw[e'];rfl
    rw[q39 h2] at this;omega
   ·have h3:(tN (n/10)).length≠1:=by have:=qzR 1 (n/10) (by omega);omega
    rcases ih (n/10) (by omega) with h4|h4
    ·exact absurd h4 h3
    ·cases hq:tN (n/10) with
     | nil=>exact absurd hq (qtF _)
     | cons a i=>rw[hq] at h4;simpa using h4
theorem qLW (t:qOK):slt [] t=!t.isEmpty:=by cases t<;>rfl
theorem qK5 (a b:UInt8)(s t:qOK):slt (a::s) (b::t)=(decide (a<b)||(a==b&&slt s t)):=by unfold slt;simp only[Op.bytesLess]
theorem qCk:∀{s t:qOK},q7P s->q7P t->s.length=t.length->((slt s t=true)=(val s<val t))
 | [],[],_,_,_=>by simp[qLW,qho]
 | a::s,b::t,h1,h2,hl=>by
  obtain⟨ha,hs⟩:=q0x.1 h1;obtain⟨hb,ht⟩:=q0x.1 h2;have hl':s.length=t.length:=by simpa using hl
  have ih:=qCk hs ht hl';have v1:=q7Y hs;have v2:=q7Y ht;rw[qK5,q79,q79,hl'];rw[hl'] at v1;have hab:(a<b)=(dv a<dv b):=by unfold dv;rw[UInt8.lt_iff_toNat_lt];simp only[eq_iff_iff];omega
  have hab2:(a=b)=(dv a=dv b):=by unfold dv;rw[<-qQO];simp only[eq_iff_iff];omega
  simp only[qQc,decide_eq_true_eq,qP0,beq_iff_eq,eq_iff_iff,ih,hab,hab2];generalize 10^t.length=p at *;generalize dv a=x at *;generalize dv b=y at *;constructor
  ·rintro (h|⟨rfl,h⟩)
   ·have:=qPb p (show x+1<=y by omega);rw[qP2] at this;omega
   ·omega
  ·intro h;rcases Nat.lt_trichotomy x y with h3|h3|h3
   ·exact .inl h3
   ·subst h3;exact .inr ⟨rfl,by omega⟩
   ·have:=qPb p (show y+1<=x by omega);rw[qP2] at this;omega
theorem kA {m n:Nat}(h:m<=n):(tN m).length<=(tN n).length:=by
 rcases qOT (tN n).length (tN m).length with h1|h1
 ·have h2:=q7C (qON (tN n).length);have h3:0<(tN n).length:=qlW n;have:=q2Y ((tN n).length-1) m (by rw[Nat.sub_add_cancel h3];omega);omega
 ·exact h1
theorem qD5 (m n:Nat):((tN m).length<(tN n).length\/(tN m).length=(tN n).length/\slt (tN m) (tN n)=true)↔m<n:=by
 constructor
 ·rintro (h|⟨h1,h2⟩)
  ·rcases qOT m n with h3|h3
   ·exact h3
   ·have:=kA h3;omega
  ·rw[qCk (zM m) (zM n) h1,q0u,q0u] at h2;exact h2
 ·intro h;have h1:=kA (Nat.le_of_lt h);rcases qOT (tN m).length (tN n).length with h3|h3
  ·exact .inl h3
  ·have h4:(tN m).length=(tN n).length:=by omega
   exact .inr ⟨h4,by rw[qCk (zM m) (zM n) h4,q0u,q0u];exact h⟩
theorem qDe (s:qOK):val (48::s)=val s:=by rw[q79];simp[dv]
theorem qtX (n:Nat)(s:qOK):val (List.replicate n 48++s)=val s:=by
 induction n with
 | zero=>rfl
 | succ n ih=>rw[qQa,qQb,qDe,ih]
theorem qrm (n:Nat):q7P (List.replicate n 48):=by intro c hc;rw[(qQW.1 hc).2];decide
def rI(l:List Int):R:=l.map fun v=>[.i v]
theorem qk5 (l:List Int):qg (rI l)=l.length:=by simp[qg,rI]
theorem qG6 (l:List Int)(i:Int):cI (rI l) i 0=l.getD i.toNat 0:=by unfold cI zJ rI;simp only[qOM,qOU];cases l[i.toNat]?<;>rfl
theorem qEU (x v:U):qAa [x] 0 [v]=[v]:=rfl
theorem qB6 (l:List Int)(i v:Int):qcN (rI l) i 0 [.i v]=rI (l.set i.toNat v):=by
 unfold qcN rI;apply qPC;intro j;by_cases hj:j=i.toNat
 ·subst hj;by_cases hl:i.toNat<l.length
  ·simp[hl,qEU]
  ·rw[qP7 (by simp;omega),qP7 (by simp;omega)]
 ·rw[qOO (qPe hj),qOU,qOU,qOO (qPe hj)]
theorem qo7 (n v:Int):q4e n [.i v]=rI (List.replicate n.toNat v):=by simp[q4e,rI]
theorem qMr (l:List Int):qrw (rI l)=l.map fun v=>UInt8.ofNat v.toNat:=by unfold qrw rI;rw[List.map_map];rfl
theorem qNu (l:List Int)(i:Int)(s:qOK):qBw (rI l) i s=rI (l.take i.toNat++s.map (fun c=>(c.toNat:Int))++l.drop (i.toNat+s.length)):=by unfold qBw rI;simp[List.map_take,List.map_drop]
theorem qrt (s:qOK):qrw (rI (s.map fun c=>(c.toNat:Int)))=s:=by
 rw[qMr,List.map_map];have:((fun v:Int=>UInt8.ofNat v.toNat)∘fun c:UInt8=>(c.toNat:Int))=id:=by funext c;simp
 rw[this,List.map_id]
theorem qu4 {s:qOK}{i:Nat}(h:i<s.length):sat s (i:Int)=(s[i].toNat:Int):=by unfold sat;simp[h]
theorem zQ (s t:qOK):(seq s t=true)=(s=t):=by simp[seq]
theorem qM4 {x:Int}(h:48<=x/\x<=255):wo .u8 x 48=x-48:=by unfold wo IntKind.wrap;simp[IntKind.signed,IntKind.bits];omega
theorem qxo {x:Int}(h:0<=x/\x<=255):q3C .u8 x=x:=by unfold q3C IntKind.wrap;simp[IntKind.signed,IntKind.bits];omega
theorem qsY (a b:Nat):qdN (a:Int) (b:Int)=((a%b:Nat):Int):=by unfold qdN;rw[Int.tmod_eq_emod_of_nonneg (by omega)];rfl
theorem qDM {a b:Nat}(h:a<9223372036854775808):qev .i64 (a:Int) (b:Int)=((a/b:Nat):Int):=by unfold qev;rw[Int.tdiv_eq_ediv_of_nonneg (by omega)];have:(a:Int)/(b:Int)=((a/b:Nat):Int):=rfl;have h2:a/b<=a:=qQG a b;rw[this];generalize a/b=q at *;unfold IntKind.wrap;simp[IntKind.signed,IntKind.bits];omega
theorem jn {S:List PV->TR}(I Q:Nat->List PV->Prop)(hn:n<9223372036854775808)(h:∀k ps,k<=n->I k ps->(∃k' qs,k'<k/\(S ps).run=some (0,qs)/\I k' qs)\/∃j qs,(S ps).run=some (j+1,qs)/\Q j qs) {ps:List PV} (h0:I n ps):∃j qs,(qf S ps).run=some (j,qs)/\Q j qs:=by
 have key:∀m k ps,k<=n->k<m->I k ps->∃j qs,(qqd S m ps).run=some (j,qs)/\Q j qs:=by
  intro m;induction m with
  | zero=>intro k ps _ h;omega
  | succ m ih=>
   intro k ps hk hm hI;rcases h k ps hk hI with⟨k',qs,h1,h2,h3⟩|⟨j,qs,h1,h2⟩
   ·obtain⟨j,rs,g1,g2⟩:=ih k' qs (by omega) (by omega) h3;exact⟨j,rs,by rw[qzq h2];exact g1,g2⟩
   ·exact⟨j,qs,qqa h1,h2⟩
 exact key qrH n ps (qON _) (Nat.lt_trans hn (by unfold qrH;decide)) h0
end Go.Eng

namespace Go.Eng
variable {i:Nat}
theorem qee {m:Int}(h:m<0):tI m=45::tN m.natAbs:=by unfold tI;rw[if_pos h]
theorem qne {m:Int}(h:¬m<0):tI m=tN m.natAbs:=by unfold tI;rw[if_neg h]
theorem q1x (n:Nat):tI (n:Int)=tN n:=by rw[qne (by omega)];rfl
theorem qC2:tN 0=[48]:=rfl
theorem qlm {s:qOK}(hd:q7P s)(hn:s≠[]):∃c t,s=c::t/\48<=c.toNat/\c.toNat<=57:=by
 cases s with
 | nil=>exact absurd rfl hn
 | cons c t=>exact⟨c,t,rfl,(q0x.1 hd).1⟩
theorem qB7 (m:Int):(tI m).length<=(tN m.natAbs).length+1:=by unfold tI;split<;>simp
theorem qAA (m:Int):0<(tI m).length:=by have:=qlW m.natAbs;unfold tI;split<;>simp<;>omega
theorem qB5 {m n:Int}(h:tI m=tI n):m=n:=by
 have key:∀{m n:Int},m<0->¬n<0->tI m≠tI n:=by intro m n h1 h2 e;rw[qee h1,qne h2] at e;obtain⟨c,t,hc,h3,h4⟩:=qlm (zM n.natAbs) (qtF _);rw[hc] at e;have:=(List.cons.inj e).1;rw[<-this] at h3;exact absurd h3 (by decide)
 by_cases h1:m<0<;>by_cases h2:n<0
 ·rw[qee h1,qee h2] at h;have:=qxl (List.cons.inj h).2;omega
 ·exact absurd h (key h1 h2)
 ·exact absurd h.symm (key h2 h1)
 ·rw[qne h1,qne h2] at h;have:=qxl h;omega
theorem qDv (m:Int):(sat (tI m) 0=45)=(m<0):=by
 by_cases h:m<0
 ·rw[qee h];simp[sat,h]
 ·rw[qne h];obtain⟨c,t,hc,h3,h4⟩:=qlm (zM m.natAbs) (qtF _);rw[hc];simp[sat,h];omega
theorem wy (m:Int):(qw [.s (tI m)]).run=some (0,[.s (tN m.natAbs)]):=by
 rw[qyr];have hp:=qAA m;have hne:¬tI m=[]:=fun h=>by rw[h] at hp;simp at hp
 have h1:(0:Int)<qv (tI m):=by unfold qv;omega
 have h2:(1:Int)<=qv (tI m):=by omega
 simp only[STD,zQ,hne,h1,h2,qDv,qPr,show (0:Int)<=qv (tI m) by omega,and_self,show (0:Int)<=1 by omega];by_cases h:m<0
 ·rw[if_pos h,qee h];simp[qfh,qv]
 ·rw[if_neg h,qne h]
theorem vT (m:Int):(qy [.s (tI m)]).run=some (0,[.b (decide (m<0))]):=by
 rw[qwe];have hp:=qAA m;have h1:(0:Int)<qv (tI m):=by unfold qv;omega
 have h2:ieq (sat (tI m) 0) 45=decide (m<0):=by have:=qDv m;by_cases h:m<0<;>simp[ieq,h] at this ⊢<;>exact this
 simp only[STD,h1,h2,qPr,and_self]
theorem kM (n:Nat)(b:Bool)(hl:(tN n).length<=100000000):(qY [.s (tN n),.b b]).run=some (0,[.s (tI (if b then -(n:Int) else n))]):=by
 rw[qvq];have h1:qv [45]+qv (tN n)<=140737488355328:=by show (1:Int)+((tN n).length:Int)<=_;omega
 have h0:(tN n=[48])=(n=0):=by rw[<-qC2];exact propext ⟨fun h=>qxl h,fun h=>by rw[h]⟩
 simp only[STD,zQ,h1,h0];cases b with
 | false=>simp[q1x]
 | true=>
  by_cases hn:n=0
  ·subst hn;simp[tI,qC2]
  ·have:(-(n:Int))<0:=by omega
   simp[hn,qee this,qgU]
theorem qfF (m:Int)(hl:(tN m.natAbs).length<=100000000):(zR [.s (tI m)]).run=some (0,[.s (tI (-m))]):=by
 rw[quO];simp only[STD,wy,vT,kM _ _ hl];have e:(if ¬m<0 then -(m.natAbs:Int) else (m.natAbs:Int))=-m:=by
  by_cases h:m<0
  ·rw[if_neg (by simp[h])];omega
  ·rw[if_pos (by simp[h])];omega
 rw[e]
theorem qbh {s:qOK}(h:i<s.length):val (s.take (i+1))=10*val (s.take i)+dv s[i]:=by rw[List.take_add_one,qOS h,Option.toList_some,qoD]
theorem qzN {s:qOK}(h:q7P s)(i:Nat):q7P (s.take i):=fun c hc=>h c (qQT hc)
theorem qHn {s:qOK}(h:q7P s)(i:Nat):q7P (s.drop i):=fun c hc=>h c (qQU hc)
theorem qta {s:qOK}(h:q7P s)(hi:i<s.length):48<=s[i].toNat/\s[i].toNat<=57:=h _ (qPx hi)
theorem qBZ {s:qOK}(h:q7P s)(hi:i<s.length):q3C .i64 (wo .u8 (sat s (i:Int)) 48)=(dv s[i]:Int)/\dv s[i]<10:=by have hd:=qta h hi;rw[qu4 hi,qM4 (by omega),qzi (by omega)];unfold dv;omega
theorem qm0 (m:Int)(hl:(tN m.natAbs).length<=18):(yI [.s (tI m)]).run=some (0,[.i m]):=by
 rw[qvB];have hd:=zM m.natAbs;have k:=qu (S:=uR) (fun i=>[.s (tI m),.i (val ((tN m.natAbs).take i):Int),.s (tN m.natAbs),.i (i:Int)]) (0,[.s (tI m),.i (m.natAbs:Int)]) (tN m.natAbs).length (by omega) (fun i hi=>by
  rw[qg4];obtain⟨e1,e2⟩:=qBZ hd hi;have hv:=q7Y (qzN hd i);have hv2:10^((tN m.natAbs).take i).length<=100000000000000000:=qOP (qQg (n:=10) (by omega) (show _<=17 by rw[qPJ];omega)) (by decide);have hv3:=qPs hv hv2;clear hv hv2;have hlt:(i:Int)<qv (tN m.natAbs):=by unfold qv;omega
  have e3:qo .i64 (wd .i64 10 (val ((tN m.natAbs).take i):Int)) (dv (tN m.natAbs)[i]:Int)=((10*val ((tN m.natAbs).take i)+dv (tN m.natAbs)[i]:Nat):Int):=by rw[uK (by omega),qK (by omega)];omega
  simp only[STD,hlt,qe3,and_self,e1,j5 hi (by omega),qbh hi,e3]) (by
  rw[qg4];have:¬((tN m.natAbs).length:Int)<qv (tN m.natAbs):=by unfold qv;omega
  simp only[STD,this,qPX,q0u])
 have k':(qf uR [.s (tI m),.i 0,.s (tN m.natAbs),.i 0]).run=_:=k;have hm:m.natAbs<1000000000000000000:=qPs (q7C hl) (by decide);have hneg:m<0->wo .i64 0 (m.natAbs:Int)=m:=fun h=>by rw[qBT (by omega)];omega
 have hpos:¬m<0->(m.natAbs:Int)=m:=fun h=>by omega
 clear hm k hd;simp only[STD,wy,k',vT];by_cases h:m<0
 ·rw[if_pos h,hneg h]
 ·rw[if_neg h,hpos h]
theorem q7J (m n:Int):(vF [.s (tI m),.s (tI n)]).run=some (0,if (tN m.natAbs).length<=18/\(tN n.natAbs).length<=18 then [.i m,.i n,.b true] else [.i 0,.i 0,.b false]):=by
 rw[qwR];have e:∀t:List UInt8,(18<qv t)=¬(t.length<=18):=fun t=>by unfold qv;simp only[eq_iff_iff];omega
 by_cases h1:(tN m.natAbs).length<=18
 ·by_cases h2:(tN n.natAbs).length<=18
  ·simp only[STD,wy,e,h1,h2,qm0 m h1,qm0 n h2,and_self]
  ·simp only[STD,wy,e,h1,h2,and_false]
 ·simp only[STD,wy,e,h1,false_and]
theorem qzg {d:Int}(h0:0<=d)(h:d<10):qrw [[.i (q3C .u8 (qo .i64 48 d))]]=[dch d.toNat]:=by rw[qK (by omega),qxo (by omega)];show [UInt8.ofNat (48+d).toNat]=[UInt8.ofNat (48+d.toNat)];rw[show (48+d).toNat=48+d.toNat by omega]
theorem qIc {S:List PV->TR}(hS:∀(y0:Int) (y1:qOK),S [.i y0,.s y1]=(.br (ilt 9 y0) (.br (ile ((qv (qrw [[(.i (q3C .u8 (qo .i64 48 (qdN y0 10))))]]))+(qv y1)) 140737488355328) (.leaf (0,[(.i (qev .i64 y0 10)),(.s (qgU (qrw [[(.i (q3C .u8 (qo .i64 48 (qdN y0 10))))]]) y1))])) .fail) (.leaf (1,[(.i y0),(.s y1)]))))(n:Nat) (hn:n<9223372036854775808):∃(a:Nat) (r:qOK),(qf S [.i (n:Int),.s []]).run=some (0,[.i (a:Int),.s r])/\a<10/\tN n=tN a++r:=by
 have hlen:(tN n).length<=19:=q2Y 18 n (by omega);obtain⟨j,qs,h1,h2⟩:=jn (S:=S) (fun k ps=>∃(r:qOK),ps=[.i (k:Int),.s r]/\tN n=tN k++r) (fun j qs=>∃(a:Nat) (r:qOK),j=0/\qs=[.i (a:Int),.s r]/\a<10/\tN n=tN a++r) hn (fun k ps hk ⟨r,hps,ht⟩=>by
  subst hps;by_cases h9:k<10
  ·right;have:¬(9:Int)<(k:Int):=by omega
   exact⟨0,_,by rw[hS];simp only[STD,this],k,r,rfl,rfl,h9,ht⟩
  ·left;have h9':(9:Int)<(k:Int):=by omega
   have hr:qdN (k:Int) 10=((k%10:Nat):Int):=qsY k 10;have hq:qev .i64 (k:Int) 10=((k/10:Nat):Int):=qDM (b:=10) (by omega);have hd:qrw [[(.i (q3C .u8 (qo .i64 48 (qdN (k:Int) 10))))]]=[dch (k%10)]:=by rw[hr,qzg (by omega) (by omega)];rfl
   have hrl:r.length<=19:=by have:=congrArg List.length ht;rw[qP6] at this;omega
   have hle:qv [dch (k%10)]+qv r<=140737488355328:=by show (1:Int)+(r.length:Int)<=_;omega
   refine⟨k/10,[.i ((k/10:Nat):Int),.s ([dch (k%10)]++r)],by omega,?_,_,rfl,?_⟩
   ·rw[hS];simp only[STD,h9',hd,hq,hle];rfl
   ·rw[ht,qBK (by omega),qPj]) (ps:=[.i (n:Int),.s []]) ⟨[],rfl,by simp⟩
 obtain⟨a,r,rfl,rfl,h3,h4⟩:=h2;exact⟨a,r,h1,h3,h4⟩
theorem qHf {a:Nat}{r:qOK}(ha:a<10):qgU (qrw [[(.i (q3C .u8 (qo .i64 48 (a:Int))))]]) r=tN a++r:=by rw[qzg (by omega) (by omega),qAy ha];rfl
theorem qMA {a:Nat}{r:qOK}(ha:a<10)(hr:r.length<=1000):qv (qrw [[(.i (q3C .u8 (qo .i64 48 (a:Int))))]])+qv r<=140737488355328:=by rw[qzg (by omega) (by omega)];show (1:Int)+(r.length:Int)<=_;omega
theorem qKV {x:Int}(h1:-9223372036854775808<x)(h2:x<=9223372036854775807):wo .i64 0 x=-x:=qBT (by omega)
theorem qNy (n:Nat)(hn:n<9223372036854775808):(q5A [.i (n:Int)]).run=some (0,[.s (tN n)])/\(zH [.i (n:Int)]).run=some (0,[.s (tN n)]):=by
 obtain⟨a,r,h1,h2,h3⟩:=qIc qws n hn;obtain⟨a',r',h1',h2',h3'⟩:=qIc qyx n hn;have hlen:(tN n).length<=19:=q2Y 18 n (by omega);have hr:r.length<=1000:=by have:=congrArg List.length h3;rw[qP6] at this;omega
 have hr':r'.length<=1000:=by have:=congrArg List.length h3';rw[qP6] at this;omega
 have hneg:wo .i64 0 (n:Int)=-(n:Int):=qKV (by omega) (by omega);have h0:((n:Int)=-(n:Int))=(n=0):=by simp only[eq_iff_iff];omega
 have hlt:¬(n:Int)<0:=by omega
 have hz:((n:Int)=0)=(n=0):=by simp only[eq_iff_iff];omega
 constructor
 ·rw[qB0];simp only[STD,hneg,h0,hz,hlt,h1,qHf h2,qMA h2 hr,<-h3];by_cases h:n=0<;>simp[h]
 ·rw[quq];simp only[STD,hneg,h0,hz,hlt,h1',qHf h2',qMA h2' hr',<-h3'];by_cases h:n=0<;>simp[h]
theorem q1P (n:Int)(h1:-9223372036854775808<n)(h2:n<=9223372036854775807):(zH [.i n]).run=some (0,[.s (tI n)]):=by
 by_cases h:n<0
 ·obtain⟨a,ha⟩:∃a:Nat,n=-(a:Int):=⟨n.natAbs,by omega⟩;subst ha;have hneg:wo .i64 0 (-(a:Int))=(a:Int):=by rw[qKV (by omega) (by omega)];omega
  have hlen:(tN a).length<=19:=q2Y 18 a (by omega);have ht:=qfF (a:Int) (by simp;omega);rw[q1x] at ht;rw[quq];have e1:¬(-(a:Int)=(a:Int)):=by omega
  simp only[STD,hneg,h,e1,(qNy a (by omega)).1,ht]
 ·obtain⟨a,rfl⟩:∃a:Nat,n=(a:Int):=⟨n.toNat,by omega⟩;rw[(qNy a (by omega)).2,q1x]
theorem qjG (m n:Nat):(q34 [.s (tN m),.s (tN n)]).run=some (0,[.b (decide (m<n))]):=by
 rw[qzr];have h:=qD5 m n;have e1:(qv (tN m)<qv (tN n))=((tN m).length<(tN n).length):=by unfold qv;simp only[eq_iff_iff];omega
 have e2:(qv (tN m)=qv (tN n))=((tN m).length=(tN n).length):=by unfold qv;simp only[eq_iff_iff];omega
 simp only[STD,e1,e2];by_cases h1:(tN m).length<(tN n).length
 ·have:m<n:=h.1 (.inl h1);simp[h1,this]
 ·by_cases h2:(tN m).length=(tN n).length
  ·cases hs:slt (tN m) (tN n) with
   | true=>simp[h2,h.1 (.inr ⟨h2,hs⟩)]
   | false=>
    have:¬m<n:=fun hh=>by rcases h.2 hh with h3|⟨_,h3⟩<;>simp_all
    simp[h2,this]
  ·have:¬m<n:=fun hh=>by rcases h.2 hh with h3|⟨h3,_⟩<;>omega
   simp[h1,h2,this]
end Go.Eng

namespace Go.Eng
variable {k:Nat}
theorem qs9 (s:qOK)(n:Nat)(h0:0<n)(hn:n<=1000000000)(hl:s.length<=n):(q6f [.s s,.i (n:Int)]).run=some (0,[.s (List.replicate (n-s.length) 48++s)]):=by
 rw[qxV];have k:=qu (S:=q1U) (fun i=>[.s s,.i (n:Int),.i (i:Int),.r (rI (List.replicate i 48++List.replicate (n-i) 0))]) (0,[.s s,.i (n:Int),.r (rI (List.replicate n 48))]) n (by omega) (fun i hi=>by
  rw[qjy];have h1:(i:Int)<(n:Int):=by omega
  have h2:(i:Int)<qg (rI (List.replicate i 48++List.replicate (n-i) 0)):=by rw[qk5];simp;omega
  have h3:(List.replicate i (48:Int)++List.replicate (n-i) 0).set (i:Int).toNat 48=List.replicate (i+1) 48++List.replicate (n-(i+1)) 0:=by rw[qOX,List.set_append_right _ _ (by simp),List.length_replicate,qPv];rw[show n-i=(n-(i+1))+1 by omega,qQa,qP1,List.replicate_succ'];simp
  simp only[STD,h1,h2,qe3,and_self,j5 hi (by omega),qB6,h3]) (by
  rw[qjy];simp only[STD,Int.lt_irrefl,qPv,List.replicate_zero,qPL])
 have k':(qf q1U [.s s,.i (n:Int),.i 0,.r (rI (List.replicate n 0))]).run=some (0,[.s s,.i (n:Int),.r (rI (List.replicate n 48))]):=by simpa using k
 have e1:wo .i64 (n:Int) (qv s)=((n-s.length:Nat):Int):=by rw[ze (by unfold qv;omega)];unfold qv;omega
 have e2:(0:Int)<=(n:Int):=by omega
 have e3:(n:Int)<=140737488355328:=by omega
 have e4:(0:Int)<qg (rI (List.replicate n 48)):=by rw[qk5,List.length_replicate];omega
 have e5:((n-s.length:Nat):Int)<=qg (rI (List.replicate n 48)):=by rw[qk5,List.length_replicate];omega
 have e6:qv s<=qC0 (qg (rI (List.replicate n 48))) ((n-s.length:Nat):Int):=by rw[qk5,List.length_replicate];unfold qC0 qv;omega
 have e7:qrw (rI (List.take ((n-s.length:Nat):Int).toNat (List.replicate n 48)++s.map (fun c=>(c.toNat:Int))++List.drop (((n-s.length:Nat):Int).toNat+s.length) (List.replicate n 48)))=List.replicate (n-s.length) 48++s:=by
  rw[qOX,List.take_replicate,List.drop_replicate,qPK (by omega),show n-(n-s.length+s.length)=0 by omega,List.replicate_zero,qPL];have:List.replicate (n-s.length) (48:Int)=(List.replicate (n-s.length) (48:UInt8)).map fun c=>(c.toNat:Int):=by rw[List.map_replicate];rfl
  rw[this,<-qP9,qrt]
 simp only[STD,qo7,qOX,e2,e3,and_self,k',e4,e5,e1,qe3,e6,qNu];rw[qOX] at e7;rw[e7]
theorem qep {s:qOK}(hd:q7P s)(hn:s≠[])(hl:s.length<=1000000000):(yG [.s s]).run=some (0,[.s (tN (val s))]):=by
 rw[qyQ];obtain⟨j,qs,h1,h2⟩:=jn (S:=q4C) (fun k ps=>∃t:List UInt8,ps=[.s t]/\t.length=k/\q7P t/\t≠[]/\val t=val s) (fun j qs=>j=0/\qs=[.s (tN (val s))]) (n:=s.length) (by omega) (fun k ps hk ⟨t,hps,hlk,hdt,hnt,hv⟩=>by
  subst hps;have hp:0<t.length:=qQp.2 hnt;have hs0:(0:Int)<qv t:=by unfold qv;omega
  rw[qtS];by_cases h1:1<t.length
  ·have hs1:(1:Int)<qv t:=by unfold qv;omega
   obtain⟨c,u,rfl⟩:∃c u,t=c::u:=by
    cases t with
    | nil=>exact absurd rfl hnt
    | cons c u=>exact⟨c,u,rfl⟩
   have hsat:sat (c::u) 0=(c.toNat:Int):=by simp[sat]
   by_cases h48:c=48
   ·left;subst h48;have hu:u≠[]:=by intro h;subst h;simp at h1
    refine⟨u.length,[.s u],by simp at hlk;omega,?_,u,rfl,rfl,(q0x.1 hdt).2,hu,by rw[<-hv,qDe]⟩;have hsub:qfh (48::u) 1 (qv (48::u))=u:=by simp[qfh,qv]
    have h48':(((48:UInt8).toNat:Nat):Int)=48:=rfl;simp only[STD,hs1,hs0,hsat,h48',qPr,and_self,Int.le_of_lt hs1,Int.le_of_lt hs0,show (0:Int)<=1 by omega,hsub]
   ·right;have hne:¬((c.toNat:Int)=48):=fun h=>h48 (qQO.1 (by show c.toNat=48;omega));refine⟨0,[.s (c::u)],?_,rfl,?_⟩
    ·simp only[STD,hs1,hs0,hsat,hne,qPr,and_self]
    ·rw[<-hv,<-quR hdt hnt (.inr (by simpa using h48))]
  ·right;have hs1:¬(1:Int)<qv t:=by unfold qv;omega
   refine⟨0,[.s t],?_,rfl,?_⟩
   ·simp only[STD,hs1]
   ·rw[<-hv,<-quR hdt hnt (.inl (by omega))]) (ps:=[.s s]) ⟨s,rfl,rfl,hd,hn,rfl⟩
 obtain⟨rfl,rfl⟩:=h2;simp only[STD,h1]
theorem qK3 {x y:UInt8}(hx:48<=x.toNat/\x.toNat<=57)(hy:48<=y.toNat/\y.toNat<=57)(c:Nat)(hc:c<=1)(add:Bool) :∃(d:UInt8) (c':Nat),(48<=d.toNat/\d.toNat<=57)/\c'<=1/\(q4M [.i x.toNat,.i y.toNat,.i (c:Int),.b add]).run=some (0,[.i d.toNat,.i (c':Int)]) /\(if add then dv x+dv y+c=dv d+10*c' else dv x+10*c'=dv y+c+dv d):=by
 have ex:q3C .i64 (wo .u8 (x.toNat:Int) 48)=(dv x:Int):=by rw[qM4 (by omega),qzi (by omega)];unfold dv;omega
 have ey:q3C .i64 (wo .u8 (y.toNat:Int) 48)=(dv y:Int):=by rw[qM4 (by omega),qzi (by omega)];unfold dv;omega
 have lx:=qFb hx;have ly:=qFb hy;have mk:∀v:Nat,v<10->((dch v).toNat:Int)=48+v:=fun v hv=>by rw[q39 hv];omega
 rw[qtJ];simp only[STD,ex,ey];cases add with
 | true=>
  simp only[STD];have e1:qo .i64 (qo .i64 (dv x:Int) (dv y:Int)) (c:Int)=((dv x+dv y+c:Nat):Int):=by rw[qK (x:=(dv x:Int)) (by omega),qK (by omega)];omega
  rw[e1];by_cases h9:9<dv x+dv y+c
  ·have h9':(9:Int)<((dv x+dv y+c:Nat):Int):=by omega
   refine⟨dch (dv x+dv y+c-10),1,by rw[q39 (by omega)];omega,by omega,?_,by rw[qrW (by omega)];omega⟩;rw[if_pos h9',qK (by omega),ze (by omega),qxo (by omega),mk _ (by omega)];rw[show (48:Int)+((dv x+dv y+c:Nat):Int)-10=48+((dv x+dv y+c-10:Nat):Int) by omega];rfl
  ·have h9':¬(9:Int)<((dv x+dv y+c:Nat):Int):=by omega
   have h0:¬((dv x+dv y+c:Nat):Int)<0:=by omega
   refine⟨dch (dv x+dv y+c),0,by rw[q39 (by omega)];omega,by omega,?_,by rw[qrW (by omega)];omega⟩;rw[if_neg h9',if_neg h0,qK (by omega),qxo (by omega),mk _ (by omega)];rfl
 | false=>
  simp only[STD];have e1:wo .i64 (wo .i64 (dv x:Int) (dv y:Int)) (c:Int)=(dv x:Int)-dv y-c:=by rw[ze (x:=(dv x:Int)) (by omega),ze (by omega)]
  rw[e1];have h9':¬(9:Int)<(dv x:Int)-dv y-c:=by omega
  rw[if_neg h9'];by_cases h0:(dv x:Int)-dv y-c<0
  ·refine⟨dch (dv x+10-dv y-c),1,by rw[q39 (by omega)];omega,by omega,?_,?_⟩
   ·rw[if_pos h0,qK (x:=48) (by omega),qK (by omega),qxo (by omega),mk _ (by omega)];rw[show (48:Int)+((dv x:Int)-dv y-c)+10=48+((dv x+10-dv y-c:Nat):Int) by omega];rfl
   ·rw[qrW (by omega)];omega
  ·refine⟨dch (dv x-dv y-c),0,by rw[q39 (by omega)];omega,by omega,?_,?_⟩
   ·rw[if_neg h0,qK (by omega),qxo (by omega),mk _ (by omega)];rw[show (48:Int)+((dv x:Int)-dv y-c)=48+((dv x-dv y-c:Nat):Int) by omega];rfl
   ·rw[qrW (by omega)];omega
theorem qIp {s:qOK}(h:k<s.length):s.drop k=s[k]::s.drop (k+1):=(List.drop_eq_getElem_cons h)
theorem qDr {s:qOK}(h:k<s.length):val (s.drop k)=dv s[k]*10^(s.length-(k+1))+val (s.drop (k+1)):=by rw[qIp h,q79,qQK]
theorem qzO {a b:qOK}{n:Nat}(ha:q7P a)(hb:q7P b)(hla:a.length=n)(hlb:b.length=n)(hn:n<=100000001)(add:Bool) :∃(t:qOK) (c:Nat),(qf q0g [.s a,.s b,.b add,.i 0,.i ((n:Int)-1),.r (rI (List.replicate n 0))]).run=some (0,[.r (rI (t.map fun c=>(c.toNat:Int)))])/\q7P t/\t.length=n /\(if add then val a+val b=val t+c*10^n else val a+c*10^n=val b+val t):=by
 obtain⟨j,qs,h1,h2⟩:=jn (S:=q0g) (fun k ps=>∃(t:qOK) (c:Nat),ps=[.s a,.s b,.b add,.i (c:Int),.i ((k:Int)-1),.r (rI (List.replicate k 0++t.map fun c=>(c.toNat:Int)))]/\c<=1/\q7P t/\k+t.length=n /\
   (if add then val (a.drop k)+val (b.drop k)=val t+c*10^(n-k) else val (a.drop k)+c*10^(n-k)=val (b.drop k)+val t))
  (fun j qs=>j=0/\∃(t:qOK) (c:Nat),qs=[.r (rI (t.map fun c=>(c.toNat:Int)))]/\q7P t/\t.length=n/\(if add then val a+val b=val t+c*10^n else val a+c*10^n=val b+val t)) (n:=n) (by omega) (fun k ps hk ⟨t,c,hps,hc,hdt,hlt,hrel⟩=>by
  subst hps;rw[qsO];cases k with
  | zero=>
   right;have:¬(0:Int)<=((0:Nat):Int)-1:=by omega
   refine⟨0,[.r (rI (t.map fun c=>(c.toNat:Int)))],?_,rfl,t,c,rfl,hdt,by omega,by simpa using hrel⟩;simp only[STD,this,List.replicate_zero,qQ5]
  | succ k=>
   left;have e0:((k+1:Nat):Int)-1=(k:Int):=by omega
   rw[e0];have hka:k<a.length:=by omega
   have hkb:k<b.length:=by omega
   obtain⟨d,c',hd,hc',hrun,hcol⟩:=qK3 (qta ha hka) (qta hb hkb) c hc add;have h3:(k:Int)<qv a:=by unfold qv;omega
   have h4:(k:Int)<qv b:=by unfold qv;omega
   have h5:(k:Int)<qg (rI (List.replicate (k+1) 0++t.map fun c=>(c.toNat:Int))):=by rw[qk5];simp;omega
   have h6:(List.replicate (k+1) (0:Int)++t.map fun c=>(c.toNat:Int)).set (k:Int).toNat (d.toNat:Int)=List.replicate k 0++(d::t).map fun c=>(c.toNat:Int):=by rw[qOX,List.replicate_succ',qPj,List.set_append_right _ _ (by simp),List.length_replicate,qPv];rfl
   have h7:wo .i64 (k:Int) 1=(k:Int)-1:=ze (by omega);refine⟨k,[.s a,.s b,.b add,.i (c':Int),.i ((k:Int)-1),.r (rI (List.replicate k 0++(d::t).map fun c=>(c.toNat:Int)))],by omega,?_,d::t,c',rfl,hc',q0x.2 ⟨hd,hdt⟩,by simp;omega,?_⟩
   ·simp only[STD,qe3,h3,h4,h5,and_self,qu4 hka,qu4 hkb,hrun,qB6,h6,h7]
   ·rw[qDr hka,qDr hkb,q79,hla,hlb,show t.length=n-(k+1) by omega,show n-k=(n-(k+1))+1 by omega,qQ9];generalize 10^(n-(k+1))=p at *;cases add with
    | true=>
     simp only[↓reduceIte] at hrel hcol ⊢;have:=congrArg (·*p) hcol;simp only[qP2] at this;grind
    | false=>
     simp only[qPo,↓reduceIte] at hrel hcol ⊢;have:=congrArg (·*p) hcol;simp only[qP2] at this;grind) (ps:=[.s a,.s b,.b add,.i 0,.i ((n:Int)-1),.r (rI (List.replicate n 0))]) ⟨[],0,by simp,by omega,qsZ,by simp,by
    rw[qQs (by omega),qQs (by omega)];cases add<;>simp[qho]⟩
 obtain⟨rfl,t,c,rfl,h3,h4,h5⟩:=h2;exact⟨t,c,h1,h3,h4,h5⟩
theorem qHI {m n t c p:Nat}{add:Bool}(hm:m<p)(hn:n<p)(ht:t<p*10)(h4:if add then m+n=t+c*(p*10) else m+c*(p*10)=n+t)(hle:add=false->n<=m):t=if add then m+n else m-n:=by
 have hc0:c=0:=by
  rcases qPT c with h|h
  ·exact h
  ·exfalso;have h5:1*(p*10)<=c*(p*10):=qPb (p*10) h;cases add with
   | true=>simp only[↓reduceIte] at h4;omega
   | false=>simp only[qPo,↓reduceIte] at h4;have:=hle rfl;omega
 subst hc0;cases add with
 | true=>simp only[↓reduceIte] at h4 ⊢;omega
 | false=>simp only[qPo,↓reduceIte] at h4 ⊢;omega
theorem qz0 (a b:Nat):qzG (a:Int) (b:Int)=((max a b:Nat):Int):=by unfold qzG;split<;>omega
theorem qbr (m n:Nat)(add:Bool)(hm:(tN m).length<=100000000)(hn:(tN n).length<=100000000)(hle:add=false->n<=m) :(yv [.s (tN m),.s (tN n),.b add]).run=some (0,[.s (tN (if add then m+n else m-n))]):=by
 rw[qw7];obtain⟨N,hN⟩:∃N,N=max (tN m).length (tN n).length+1:=⟨_,rfl⟩;have l1:(tN m).length<=N-1:=by omega
 have l2:(tN n).length<=N-1:=by omega
 have l3:N=N-1+1:=by omega
 have p1:10^(tN m).length<=10^(N-1):=qQg (Nat.succ_pos 9) l1;have p2:10^(tN n).length<=10^(N-1):=qQg (Nat.succ_pos 9) l2;have p3:10^N=10^(N-1)*10:=(congrArg (10^·) l3).trans (qQ9 (n:=10) (m:=N-1));have e0:qo .i64 (qzG (qv (tN m)) (qv (tN n))) 1=(N:Int):=by unfold qv;rw[qz0,qK (by omega)];omega
 have e1:wo .i64 (N:Int) 1=(N:Int)-1:=ze (by omega);have e2:(0:Int)<=(N:Int)/\(N:Int)<=140737488355328:=by omega
 have wa:=qs9 (tN m) N (by omega) (by omega) (by omega);have wb:=qs9 (tN n) N (by omega) (by omega) (by omega);have hda:q7P (List.replicate (N-(tN m).length) 48++tN m):=qbU.2 ⟨qrm _,zM _⟩;have hdb:q7P (List.replicate (N-(tN n).length) 48++tN n):=qbU.2 ⟨qrm _,zM _⟩;obtain⟨t,c,h1,h2,h3,h4⟩:=qzO (n:=N) hda hdb (by simp;omega) (by simp;omega) (by omega) add;rw[qtX,qtX,q0u,q0u] at h4;have ht:t≠[]:=by intro h;subst h;simp at h3;omega
 have hb:=qep h2 ht (by omega);have e3:q4e (N:Int) [.i 0]=rI (List.replicate N 0):=by rw[qo7];rfl
 have hvm:=q7Y (zM m);have hvn:=q7Y (zM n);have hvt:=q7Y h2;rw[q0u] at hvm hvn;rw[h3] at hvt;rw[p3] at h4 hvt;have q1:=qPs hvm p1;have q2:=qPs hvn p2;clear hvm hvn p1 p2 p3;have hval:val t=if add then m+n else m-n:=qHI q1 q2 hvt h4 hle
 rw[hval] at hb;simp only[STD,e0,wa,wb,e1,e2,and_self,e3,h1,qrt,hb]
theorem qCT (m n:Nat):(tN (m+n)).length<=max (tN m).length (tN n).length+1:=by have h1:=q7Y (zM m);have h2:=q7Y (zM n);rw[q0u] at h1 h2;have p1:10^(tN m).length<=10^(max (tN m).length (tN n).length):=qQg (by omega) (by omega);have p2:10^(tN n).length<=10^(max (tN m).length (tN n).length):=qQg (by omega) (by omega);exact q2Y _ _ (by rw[qQ9];omega)
theorem qvD (m n:Nat):(tN (m*n)).length<=(tN m).length+(tN n).length:=by
 have h1:=q7Y (zM m);have h2:=q7Y (zM n);rw[q0u] at h1 h2;have h3:=qlW m;have h4:=qlW n;have:m*n<10^((tN m).length+(tN n).length):=by rw[Nat.pow_add];exact Nat.mul_lt_mul'' h1 h2
 have:=q2Y ((tN m).length+(tN n).length-1) (m*n) (by rwa [show (tN m).length+(tN n).length-1+1=(tN m).length+(tN n).length by omega]);omega
def nl(m:Int):Nat:=(tN m.natAbs).length
theorem qvl (m:Int):0<nl m:=qlW _
theorem qtl (m:Int):nl (-m)=nl m:=by unfold nl;rw[Int.natAbs_neg]
theorem qAG (m n:Int):nl (m+n)<=max (nl m) (nl n)+1:=by unfold nl;exact qOP (kA (Int.natAbs_add_le m n)) (qCT _ _)
theorem uB (m n:Int):nl (m*n)<=nl m+nl n:=by unfold nl;rw[qPZ];exact qvD _ _
theorem qO7 {m:Int}(h:nl m<=k):m.natAbs<10^k:=q7C h
theorem qsh (m n:Int)(hm:nl m<=100000000-1)(hn:nl n<=100000000-1):(q30 [.s (tI m),.s (tI n)]).run=some (0,[.s (tI (m+n))]):=by
 rw[qy3];have hm':(tN m.natAbs).length<=100000000-1:=hm;have hn':(tN n.natAbs).length<=100000000-1:=hn;have lt:=qAG m n;by_cases hb:(tN m.natAbs).length<=18/\(tN n.natAbs).length<=18
 ·have b1:m.natAbs<1000000000000000000:=qPs (q7C hb.1) (by decide);have b2:n.natAbs<1000000000000000000:=qPs (q7C hb.2) (by decide);have e1:qo .i64 m n=m+n:=qK (by omega);have e2:=q1P (m+n) (by omega) (by omega);clear b1 b2;have hbr:=q7J m n;rw[if_pos hb] at hbr;simp only[STD,hbr,e1,e2]
 ·have hbr:=q7J m n;rw[if_neg hb] at hbr;have hP:=qbr m.natAbs n.natAbs true (by omega) (by omega) (fun h=>by cases h);simp only[↓reduceIte] at hP;simp only[STD,hbr,wy,vT,qjG,decide_eq_decide,hP];have la:=qCT m.natAbs n.natAbs;by_cases hs:(m<0)=(n<0)
  ·have hs':(m<0↔n<0):=by rw[hs]
   rw[if_pos hs'];simp only[kM _ _ (show (tN (m.natAbs+n.natAbs)).length<=100000000 by omega),STD];have e:(if m<0 then -((m.natAbs+n.natAbs:Nat):Int) else ((m.natAbs+n.natAbs:Nat):Int))=m+n:=by
    by_cases h:m<0
    ·rw[if_pos h];have:=hs'.1 h;omega
    ·rw[if_neg h];have:¬n<0:=fun q=>h (hs'.2 q);omega
   rw[e]
  ·have hs':¬(m<0↔n<0):=fun h=>hs (propext h);rw[if_neg hs'];by_cases hlt:m.natAbs<n.natAbs
   ·have hP2:=qbr n.natAbs m.natAbs false (by omega) (by omega) (fun _=>by omega);simp only[qPo,↓reduceIte] at hP2;have ls:(tN (n.natAbs-m.natAbs)).length<=100000000:=qOP (kA (Nat.sub_le _ _)) (by omega);simp only[STD,hlt,hP2,kM _ _ ls];have e:(if n<0 then -((n.natAbs-m.natAbs:Nat):Int) else ((n.natAbs-m.natAbs:Nat):Int))=m+n:=by
     by_cases h:n<0
     ·rw[if_pos h];have:¬m<0:=fun q=>hs' ⟨fun _=>h,fun _=>q⟩;omega
     ·rw[if_neg h];have:m<0:=by
       rcases Decidable.em (m<0) with q|q
       ·exact q
       ·exact absurd ⟨fun x=>absurd x q,fun x=>absurd x h⟩ hs'
      omega
    rw[e]
   ·have hP2:=qbr m.natAbs n.natAbs false (by omega) (by omega) (fun _=>by omega);simp only[qPo,↓reduceIte] at hP2;have ls:(tN (m.natAbs-n.natAbs)).length<=100000000:=qOP (kA (Nat.sub_le _ _)) (by omega);simp only[STD,hlt,hP2,kM _ _ ls];have e:(if m<0 then -((m.natAbs-n.natAbs:Nat):Int) else ((m.natAbs-n.natAbs:Nat):Int))=m+n:=by
     by_cases h:m<0
     ·rw[if_pos h];have:¬n<0:=fun q=>hs' ⟨fun _=>q,fun _=>h⟩;omega
     ·rw[if_neg h];have:n<0:=by
       rcases Decidable.em (n<0) with q|q
       ·exact q
       ·exact absurd ⟨fun x=>absurd x h,fun x=>absurd x q⟩ hs'
      omega
    rw[e]
theorem qbw (m n:Int)(hm:nl m<=100000000-1)(hn:nl n<=100000000-1):(vN [.s (tI m),.s (tI n)]).run=some (0,[.s (tI (m-n))]):=by rw[qwj];have ht:=qfF n (by have:(tN n.natAbs).length<=100000000-1:=hn;omega);have hp:=qsh m (-n) hm (by rw[qtl];exact hn);rw[<-Int.sub_eq_add_neg] at hp;simp only[STD,ht,hp]
def sgn(n:Int):Int:=if n<0 then -1 else if n=0 then 0 else 1
theorem qoB (m n:Int)(hm:nl m<=100000000-1)(hn:nl n<=100000000-1):(q14 [.s (tI m),.s (tI n)]).run=some (0,[.i (sgn (m-n))]):=by
 rw[qvS];have h0:(tI (m-n)=[48])=(m-n=0):=by have:tI 0=[48]:=rfl;rw[<-this];exact propext ⟨fun h=>qB5 h,fun h=>by rw[h]⟩
 simp only[STD,qbw m n hm hn,zQ,h0,vT];unfold sgn;by_cases h1:m-n=0
 ·rw[if_pos h1,if_neg (by omega),if_pos h1]
 ·rw[if_neg h1];by_cases h2:m-n<0
  ·rw[if_pos h2,if_pos h2]
  ·rw[if_neg h2,if_neg h2,if_neg h1]
end Go.Eng

namespace Go.Eng
def wv(l:List Int):Int:=l.foldl (fun a x=>10*a+x) 0
theorem qzm:∀(t:List Int) (a:Int),t.foldl (fun a x=>10*a+x) a=a*10^t.length+wv t
 | [],a=>by simp[wv]
 | c::t,a=>by
  have h1:=qzm t (10*a+c);have h2:=qzm t (10*0+c);have h3:wv (c::t)=t.foldl (fun a x=>10*a+x) (10*0+c):=rfl;rw[h3,h2,qQB,h1,qPg,Int.pow_succ];grind
theorem qrr(c:Int)(t:List Int):wv (c::t)=c*10^t.length+wv t:=by have h3:wv (c::t)=t.foldl (fun a x=>10*a+x) (10*0+c):=rfl;rw[h3,qzm];grind
theorem qNM:wv []=0:=rfl
theorem qJL(n:Nat):wv (List.replicate n 0)=0:=by
 induction n with
 | zero=>rfl
 | succ n ih=>rw[qQa,qrr,ih];simp
theorem qKN:∀(l:List Int) (j:Nat) (hj:j<l.length) (y:Int),wv (l.set j y)=wv l+(y-l[j])*10^(l.length-(j+1))
 | [],j,hj,y=>by simp at hj
 | c::t,0,hj,y=>by
  rw[qP1,qrr,qrr];simp only[List.getElem_cons_zero,qPg,qR0,qPD];grind
 | c::t,j+1,hj,y=>by
  have hj':j<t.length:=by simpa using hj
  rw[qP3,qrr,qrr,qKN t j hj' y,qPY];simp only[List.getElem_cons_succ,qPg];rw[show t.length+1-(j+1+1)=t.length-(j+1) by omega];grind
theorem qM0{l:List Int}{k:Nat}(h:k<l.length):wv (l.drop k)=l[k]*10^(l.length-(k+1))+wv (l.drop (k+1)):=by rw[List.drop_eq_getElem_cons h,qrr,qQK]
theorem jw{l:List Int}{j:Nat}(h:j<l.length):l.getD j 0=l[j]:=by simp[h]
theorem qus{n i:Nat}(h:i<n):(10:Int)^(n-i)=10^(n-(i+1))*10:=by rw[<-Int.pow_succ];congr 1;omega
theorem qGZ{V A Q B:Int}:V*(Q*10)*B+A*B*Q=(10*V+A)*Q*B:=by grind
theorem qLk{P Q A V y:Int}:A*(10*V+y)*P*Q=A*V*(P*10)*Q+A*y*(P*Q):=by grind
theorem qzv{l:List Int}{j:Nat}{y B:Int}(h:∀x,x∈l->0<=x/\x<=B)(hy:0<=y/\y<=B):∀x,x∈l.set j y->0<=x/\x<=B:=by
 intro x hx;rcases qR1 hx with h1|h1
 ·exact h x h1
 ·rw[h1];exact hy
theorem qEP{a b:qOK}(ha:q7P a)(hb:q7P b){i:Nat}(hi:i<a.length)(hla:a.length<=1000000)(hlb:b.length<=1000000){cols:List Int}(hc:cols.length=a.length+b.length){C:Nat}(hC:C<=1000000000000)(hB:∀x,x∈cols->0<=x/\x<=81*(C:Int)) :∃cols':List Int,(qf yL [.s a,.s b,.i (i:Int),.i 0,.r (rI cols)]).run=some (0,[.s a,.s b,.i (i:Int),.r (rI cols')])/\cols'.length=a.length+b.length /\(∀x,x∈cols'->0<=x/\x<=81*((C+b.length:Nat):Int))/\wv cols'=wv cols+(dv a[i]:Int)*(val b:Int)*10^(a.length-(i+1)):=by
 obtain⟨j,qs,h1,h2⟩:=jn (S:=yL) (fun K ps=>∃(k:Nat) (cs:List Int),K+k=b.length/\ps=[.s a,.s b,.i (i:Int),.i (k:Int),.r (rI cs)]/\cs.length=a.length+b.length /\
   (∀x,x∈cs->0<=x/\x<=81*((C+k:Nat):Int))/\wv cs=wv cols+(dv a[i]:Int)*(val (b.take k):Int)*10^(b.length-k)*10^(a.length-(i+1)))
  (fun j qs=>j=0/\∃cs:List Int,qs=[.s a,.s b,.i (i:Int),.r (rI cs)]/\cs.length=a.length+b.length /\
   (∀x,x∈cs->0<=x/\x<=81*((C+b.length:Nat):Int))/\wv cs=wv cols+(dv a[i]:Int)*(val b:Int)*10^(a.length-(i+1))) (n:=b.length) (by omega) (fun K ps hK ⟨k,cs,hkK,hps,hlen,hbd,hw⟩=>by
  subst hps;rw[qoh];cases K with
  | zero=>
   right;obtain rfl:k=b.length:=by omega
   have:¬(b.length:Int)<qv b:=by unfold qv;omega
   refine⟨0,[.s a,.s b,.i (i:Int),.r (rI cs)],?_,rfl,cs,rfl,hlen,hbd,?_⟩
   ·simp only[STD,this]
   ·rw[hw,qPX,qPv];grind
  | succ K=>
   left;have hk:k<b.length:=by omega
   have g1:(k:Int)<qv b:=by unfold qv;omega
   have g2:(i:Int)<qv a:=by unfold qv;omega
   have e1:qo .i64 (qo .i64 (i:Int) (k:Int)) 1=((i+k+1:Nat):Int):=by rw[qK (x:=(i:Int)) (by omega),qK (by omega)];omega
   have hj:i+k+1<cs.length:=by omega
   have g3:((i+k+1:Nat):Int)<qg (rI cs):=by rw[qk5];omega
   obtain⟨da,la⟩:=qBZ ha hi;obtain⟨db,lb⟩:=qBZ hb hk;have hx:=hbd _ (qPx hj);have hmul:dv a[i]*dv b[k]<=9*9:=qPw (by omega) (by omega);have e2:wd .i64 (dv a[i]:Int) (dv b[k]:Int)=((dv a[i]*dv b[k]:Nat):Int):=by rw[uK (by rw[<-qPz];omega)];simp
   have e3:qo .i64 cs[i+k+1] ((dv a[i]*dv b[k]:Nat):Int)=cs[i+k+1]+((dv a[i]*dv b[k]:Nat):Int):=qK (by omega);have e4:=j5 hk (by omega);refine⟨K,[.s a,.s b,.i (i:Int),.i ((k+1:Nat):Int),.r (rI (cs.set (i+k+1) (cs[i+k+1]+((dv a[i]*dv b[k]:Nat):Int))))],by omega,?_,k+1,_,by omega,rfl,by simpa using hlen,?_,?_⟩
   ·simp only[STD,g1,g2,qe3,and_self,e1,g3,da,db,e2,qG6,qOX,jw hj,e3,e4,qB6]
   ·refine qzv (fun x hx=>?_) ?_
    ·have:=hbd x hx;omega
    ·omega
   ·rw[qKN _ _ hj,hw,qbh hk,hlen];have p1:=qus hk;have p2:(10:Int)^(a.length+b.length-(i+k+1+1))=10^(b.length-(k+1))*10^(a.length-(i+1)):=by rw[<-Int.pow_add];congr 1;omega
    rw[p1,p2];generalize (10:Int)^(b.length-(k+1))=P;generalize (10:Int)^(a.length-(i+1))=Q;simp only[qQF,qPz];generalize (dv a[i]:Int)=A;generalize (dv b[k]:Int)=y;generalize (val (b.take k):Int)=V;generalize cs[i+k+1]=c;have:=qLk (P:=P) (Q:=Q) (A:=A) (V:=V) (y:=y);grind) (ps:=[.s a,.s b,.i (i:Int),.i 0,.r (rI cols)]) ⟨0,cols,by omega,rfl,hc,by simpa using hB,by simp[qho]⟩
 obtain⟨rfl,cs,rfl,h3,h4,h5⟩:=h2;exact⟨cs,h1,h3,h4,h5⟩
theorem qEG{a b:qOK}(ha:q7P a)(hb:q7P b)(hla:a.length<=1000000)(hlb:b.length<=1000000) :∃cols:List Int,(qf yR [.s a,.s b,.i 0,.r (rI (List.replicate (a.length+b.length) 0))]).run=some (0,[.r (rI cols)])/\cols.length=a.length+b.length /\(∀x,x∈cols->0<=x/\x<=81000000000000)/\wv cols=(val a:Int)*(val b:Int):=by
 have hsq:∀i,i<=a.length->i*b.length<=1000000000000:=fun i hi=>by have:=qPw (show i<=1000000 by omega) hlb;omega
 obtain⟨j,qs,h1,h2⟩:=jn (S:=yR) (fun K ps=>∃(i:Nat) (cs:List Int),K+i=a.length/\ps=[.s a,.s b,.i (i:Int),.r (rI cs)]/\cs.length=a.length+b.length /\
   (∀x,x∈cs->0<=x/\x<=81*((i*b.length:Nat):Int))/\wv cs=(val (a.take i):Int)*10^(a.length-i)*(val b:Int))
  (fun j qs=>j=0/\∃cs:List Int,qs=[.r (rI cs)]/\cs.length=a.length+b.length/\(∀x,x∈cs->0<=x/\x<=81000000000000)/\wv cs=(val a:Int)*(val b:Int)) (n:=a.length) (by omega) (fun K ps hK ⟨i,cs,hiK,hps,hlen,hbd,hw⟩=>by
  subst hps;rw[qoR];have hs:=hsq i (by omega);cases K with
  | zero=>
   right;obtain rfl:i=a.length:=by omega
   have:¬(a.length:Int)<qv a:=by unfold qv;omega
   refine⟨0,[.r (rI cs)],?_,rfl,cs,rfl,hlen,fun x hx=>?_,?_⟩
   ·simp only[STD,this]
   ·have:=hbd x hx;omega
   ·rw[hw,qPX,qPv];grind
  | succ K=>
   left;have hi:i<a.length:=by omega
   have g1:(i:Int)<qv a:=by unfold qv;omega
   obtain⟨cs',q1,q2,q3,q4⟩:=qEP ha hb hi hla hlb hlen (C:=i*b.length) hs hbd;have e4:=j5 hi (by omega);refine⟨K,[.s a,.s b,.i ((i+1:Nat):Int),.r (rI cs')],by omega,?_,i+1,cs',by omega,rfl,q2,?_,?_⟩
   ·simp only[STD,g1,q1,e4]
   ·rw[qP2,qQo];exact q3
   ·rw[q4,hw,qbh hi];rw[qus hi,qQF,qPz];exact qGZ) (ps:=[.s a,.s b,.i 0,.r (rI (List.replicate (a.length+b.length) 0))]) ⟨0,List.replicate (a.length+b.length) 0,by omega,rfl,by simp,fun x hx=>by rw[(qQW.1 hx).2];omega,by rw[qJL];simp[qho]⟩
 obtain⟨rfl,cs,rfl,h3,h4,h5⟩:=h2;exact⟨cs,h1,h3,h4,h5⟩
theorem qEN{cols:List Int}{N:Nat}(hl:cols.length=N)(hN:N<=2000000)(hB:∀x,x∈cols->0<=x/\x<=81000000000000) :∃(t:qOK) (c:Nat),(qf jN [.i 0,.i ((N:Int)-1),.r (rI cols),.r (rI (List.replicate N 0))]).run=some (0,[.r (rI (t.map fun c=>(c.toNat:Int)))])/\q7P t/\t.length=N/\wv cols=(val t:Int)+(c:Int)*10^N:=by
 obtain⟨j,qs,h1,h2⟩:=jn (S:=jN) (fun K ps=>∃(t:qOK) (c:Nat),ps=[.i (c:Int),.i ((K:Int)-1),.r (rI cols),.r (rI (List.replicate K 0++t.map fun c=>(c.toNat:Int)))]/\c<=81000000000000/\q7P t/\K+t.length=N /\
   wv (cols.drop K)=(val t:Int)+(c:Int)*10^(N-K))
  (fun j qs=>j=0/\∃(t:qOK) (c:Nat),qs=[.r (rI (t.map fun c=>(c.toNat:Int)))]/\q7P t/\t.length=N/\wv cols=(val t:Int)+(c:Int)*10^N) (n:=N) (by omega) (fun K ps hK ⟨t,c,hps,hc,hdt,hlt,hrel⟩=>by
  subst hps;rw[qnF];cases K with
  | zero=>
   right;have:¬(0:Int)<=((0:Nat):Int)-1:=by omega
   refine⟨0,[.r (rI (t.map fun c=>(c.toNat:Int)))],?_,rfl,t,c,rfl,hdt,by omega,by simpa using hrel⟩;simp only[STD,this,List.replicate_zero,qQ5]
  | succ K=>
   left;have e0:((K+1:Nat):Int)-1=(K:Int):=by omega
   rw[e0];have hk:K<cols.length:=by omega
   obtain⟨x,hx⟩:∃x:Nat,cols[K]=(x:Int)/\x<=81000000000000:=by have:=hB _ (qPx hk);exact⟨cols[K].toNat,by omega,by omega⟩
   have e1:qo .i64 (c:Int) (x:Int)=((c+x:Nat):Int):=by rw[qK (by omega)];omega
   have e2:qev .i64 ((c+x:Nat):Int) 10=(((c+x)/10:Nat):Int):=qDM (b:=10) (by omega);have e3:qdN ((c+x:Nat):Int) 10=(((c+x)%10:Nat):Int):=qsY _ 10;have e4:q3C .u8 (qo .i64 48 (((c+x)%10:Nat):Int))=((dch ((c+x)%10)).toNat:Int):=by rw[qK (by omega),qxo (by omega),q39 (by omega)];omega
   have h3:(K:Int)<qg (rI cols):=by rw[qk5];omega
   have h5:(K:Int)<qg (rI (List.replicate (K+1) 0++t.map fun c=>(c.toNat:Int))):=by rw[qk5];simp;omega
   have h6:(List.replicate (K+1) (0:Int)++t.map fun c=>(c.toNat:Int)).set K ((dch ((c+x)%10)).toNat:Int)=List.replicate K 0++(dch ((c+x)%10)::t).map fun c=>(c.toNat:Int):=by rw[List.replicate_succ',qPj,List.set_append_right _ _ (by simp),List.length_replicate,qPv];rfl
   have h7:wo .i64 (K:Int) 1=(K:Int)-1:=ze (by omega);refine⟨K,[.i (((c+x)/10:Nat):Int),.i ((K:Int)-1),.r (rI cols),.r (rI (List.replicate K 0++(dch ((c+x)%10)::t).map fun c=>(c.toNat:Int)))],by omega,?_,_,_,rfl,by omega,q0x.2 ⟨by rw[q39 (by omega)];omega,hdt⟩,by simp;omega,?_⟩
   ·simp only[STD,qe3,h3,h5,and_self,qG6,qOX,jw hk,hx.1,e1,e2,e3,e4,qB6,h6,h7]
   ·rw[qM0 hk,hrel,q79,hx.1,hl,qrW (by omega),show t.length=N-(K+1) by omega];rw[qus (show K<N by omega)];have e:((c+x:Nat):Int)=10*(((c+x)/10:Nat):Int)+(((c+x)%10:Nat):Int):=by omega
    simp only[qQF,qPz,Int.natCast_pow] at e ⊢;generalize hP:(10:Int)^(N-(K+1))=P at *;generalize (((c+x)/10:Nat):Int)=q at *;generalize (((c+x)%10:Nat):Int)=r at *;have:(c:Int)=10*q+r-x:=by omega
    rw[this];grind) (ps:=[.i 0,.i ((N:Int)-1),.r (rI cols),.r (rI (List.replicate N 0))]) ⟨[],0,by simp,by omega,qsZ,by simp,by
    rw[qQs (by omega)];simp[qho,qNM]⟩
 obtain⟨rfl,t,c,rfl,h3,h4,h5⟩:=h2;exact⟨t,c,h1,h3,h4,h5⟩
theorem qui(m n:Nat)(hm:(tN m).length<=1000000)(hn:(tN n).length<=1000000):(q2Q [.s (tN m),.s (tN n)]).run=some (0,[.s (tN (m*n))]):=by
 rw[qsD];obtain⟨cols,c1,c2,c3,c4⟩:=qEG (zM m) (zM n) hm hn;obtain⟨N,hN⟩:∃N,N=(tN m).length+(tN n).length:=⟨_,rfl⟩;have hp:=qlW m;rw[<-hN] at c1 c2;obtain⟨t,c,t1,t2,t3,t4⟩:=qEN c2 (by omega) c3;have ht:t≠[]:=by intro h;subst h;simp at t3;omega
 have hb:=qep t2 ht (by omega);have e0:qo .i64 (qv (tN m)) (qv (tN n))=(N:Int):=by unfold qv;rw[qK (by omega)];omega
 have e1:(0:Int)<=(N:Int)/\(N:Int)<=17592186044416:=by omega
 have e1':(0:Int)<=(N:Int)/\(N:Int)<=140737488355328:=by omega
 have e2:q4e (N:Int) [.i 0]=rI (List.replicate N 0):=by rw[qo7];rfl
 have e3:qg (rI cols)=(N:Int):=by rw[qk5,c2]
 have e4:wo .i64 (N:Int) 1=(N:Int)-1:=ze (by omega);have hval:val t=m*n:=by
  have v1:=q7Y (zM m);have v2:=q7Y (zM n);have v3:=q7Y t2;rw[t3] at v3;rw[c4,q0u,q0u] at t4;rw[q0u] at v1 v2;have v4:m*n<10^N:=by rw[hN,Nat.pow_add];exact Nat.mul_lt_mul'' v1 v2
  have t5:m*n=val t+c*10^N:=by
   have:((m*n:Nat):Int)=((val t+c*10^N:Nat):Int):=by simpa using t4
   omega
  clear t4 c4 v1 v2;generalize 10^N=P at *;rcases qPT c with h|h
  ·subst h;omega
  ·have:=qPb P h;omega
 rw[hval] at hb;simp only[STD,e0,e1,e1',and_self,e2,c1,e3,e4,t1,qrt,hb]
theorem qpp(m n:Int)(hm:nl m<=1000000)(hn:nl n<=1000000):(wP [.s (tI m),.s (tI n)]).run=some (0,[.s (tI (m*n))]):=by
 rw[qwO];have hm':(tN m.natAbs).length<=1000000:=hm;have hn':(tN n.natAbs).length<=1000000:=hn;have hbr:=q7J m n;have hP:=qui m.natAbs n.natAbs hm' hn';have lm:=qvD m.natAbs n.natAbs;have hS:=fun b=>kM (m.natAbs*n.natAbs) b (by omega);have tm:=qB7 m;have tn:=qB7 n;have e0:qo .i64 (qv (tI m)) (qv (tI n))=(((tI m).length+(tI n).length:Nat):Int):=by unfold qv;rw[qK (by omega)];omega
 have sg:(if (¬((m<0)=(n<0))) then -((m.natAbs*n.natAbs:Nat):Int) else ((m.natAbs*n.natAbs:Nat):Int))=m*n:=by
  by_cases h1:m<0<;>by_cases h2:n<0
  ·simp only[h1,h2,not_true_eq_false,if_false];rw[qPz,show (m.natAbs:Int)=-m by omega,show (n.natAbs:Int)=-n by omega];grind
  ·simp only[h1,h2];rw[if_pos (by simp),qPz,show (m.natAbs:Int)=-m by omega,show (n.natAbs:Int)=n by omega];grind
  ·simp only[h1,h2];rw[if_pos (by simp),qPz,show (m.natAbs:Int)=m by omega,show (n.natAbs:Int)=-n by omega];grind
  ·simp only[h1,h2,not_true_eq_false,if_false];rw[qPz,show (m.natAbs:Int)=m by omega,show (n.natAbs:Int)=n by omega]
 by_cases hb:(tN m.natAbs).length<=18/\(tN n.natAbs).length<=18
 ·rw[if_pos hb] at hbr;by_cases h18:(tI m).length+(tI n).length<=18
  ·have h18':(((tI m).length+(tI n).length:Nat):Int)<=18:=by omega
   have lmn:(tN (m*n).natAbs).length<=18:=by
    rw[qPZ];have h3:∀q:Int,(tN q.natAbs).length<=(tI q).length:=fun q=>by unfold tI;split<;>simp
    have:=h3 m;have:=h3 n;omega
   have b1:(m*n).natAbs<1000000000000000000:=qPs (q7C lmn) (by decide);have e1:wd .i64 m n=m*n:=uK (by omega);have e2:=q1P (m*n) (by omega) (by omega);clear b1;simp only[STD,hbr,e0,h18',e1,e2]
  ·have h18':¬(((tI m).length+(tI n).length:Nat):Int)<=18:=by omega
   simp only[STD,hbr,e0,h18',wy,hP,vT,hS,decide_eq_decide];rw[<-sg];simp only[eq_iff_iff]
 ·rw[if_neg hb] at hbr;simp only[STD,hbr,wy,hP,vT,hS,decide_eq_decide];rw[<-sg];simp only[eq_iff_iff]
theorem qNz{x:Int}(h:0<=x/\x<=254):qo .u8 x 1=x+1:=by unfold qo IntKind.wrap;simp[IntKind.signed,IntKind.bits];omega
theorem qC8(a q:qOK)(i:Int){b x0:Nat}(hb:0<b)(hx:x0<10*b)(lb:(tN b).length<=1000000)(lx:(tN x0).length<=1000002) :(qf jK [.s a,.s (tN b),.s q,.s (tN x0),.i i,.i 48]).run=some (0,[.s a,.s (tN b),.s q,.s (tN (x0%b)),.i i,.i (48+((x0/b:Nat):Int))]):=by
 obtain⟨j,qs,h1,h2⟩:=jn (S:=jK) (fun k ps=>∃x c:Nat,ps=[.s a,.s (tN b),.s q,.s (tN x),.i i,.i (48+(c:Int))]/\x+c*b=x0/\c+k=10/\c<=9)
  (fun j qs=>j=0/\qs=[.s a,.s (tN b),.s q,.s (tN (x0%b)),.i i,.i (48+((x0/b:Nat):Int))]) (n:=10) (by omega) (fun k ps hk ⟨x,c,hps,he,hck,hc⟩=>by
  subst hps;rw[qnl];have hxl:x<=x0:=by rw[<-he];exact Nat.le_add_right _ _
  have hP:=qbr x b false (by have:=kA hxl;omega) (by omega);by_cases hlt:x<b
  ·right;refine⟨0,[.s a,.s (tN b),.s q,.s (tN x),.i i,.i (48+(c:Int))],?_,rfl,?_⟩
   ·simp only[STD,qjG,hlt,decide_true]
   ·have e1:x0/b=c:=by rw[<-he,Nat.add_mul_div_right _ _ hb,Nat.div_eq_of_lt hlt,qPD]
    have e2:x0%b=x:=by rw[<-he,Nat.add_mul_mod_self_right,Nat.mod_eq_of_lt hlt]
    rw[e1,e2]
  ·left;have hge:b<=x:=by omega
   have hP:=hP (fun _=>hge);simp only[qPo,↓reduceIte] at hP;have hc9:c+1<10:=by apply Nat.lt_of_mul_lt_mul_right (a:=b);have:(c+1)*b=c*b+b:=Nat.succ_mul c b;omega
   refine⟨k-1,[.s a,.s (tN b),.s q,.s (tN (x-b)),.i i,.i (48+((c+1:Nat):Int))],by omega,?_,x-b,c+1,rfl,?_,by omega,by omega⟩
   ·simp only[STD,qjG,hlt,decide_false,hP,qNz (show (0:Int)<=48+(c:Int)/\48+(c:Int)<=254 by omega)];rw[show (48+(c:Int)+1)=48+((c+1:Nat):Int) by omega]
   ·have:(c+1)*b=c*b+b:=Nat.succ_mul c b;omega) (ps:=[.s a,.s (tN b),.s q,.s (tN x0),.i i,.i 48]) ⟨x0,0,by simp,by simp,by omega,by omega⟩
 obtain⟨rfl,rfl⟩:=h2;exact h1
theorem qJ5{s:qOK}{i:Nat}(h:i<s.length):qfh s (i:Int) (((i+1:Nat):Int))=[s[i]]:=by unfold qfh;simp only[qOX];rw[List.take_succ_eq_append_getElem h,List.drop_append_of_le_length (by simp;omega)];rw[List.drop_of_length_le (by simp;omega)];rfl
theorem qtq{m n:Nat}(hn:0<n)(lm:(tN m).length<=1000000)(ln:(tN n).length<=1000000) :(q2E [.s (tN m),.s (tN n)]).run=some (0,[.s (tN (m/n)),.s (tN (m%n))]):=by
 rw[qsj];have hdm:=zM m;obtain⟨j,qs,h1,rfl,q,h2,h3,h4,h5⟩:=jn (S:=q0s) (fun k ps=>∃(i r:Nat) (q:qOK),ps=[.s (tN m),.s (tN n),.s q,.s (tN r),.i (i:Int)]/\i+k=(tN m).length/\q.length=i/\q7P q/\val q*n+r=val ((tN m).take i)/\r<n)
  (fun j qs=>j=0/\∃q:List UInt8,qs=[.s q,.s (tN (m%n))]/\q.length=(tN m).length/\q7P q/\val q=m/n) (n:=(tN m).length) (by omega) (fun k ps hk ⟨i,r,q,hps,hik,hql,hdq,hv,hr⟩=>by
  subst hps;rw[qpx];by_cases hi:i<(tN m).length
  ·left;have hc:=qta hdm hi;have hw:qo .i64 (i:Int) 1=((i+1:Nat):Int):=by rw[qK (by omega)];omega
   have hlr:(tN r).length<=(tN n).length:=kA (by omega);have hd10:=qFb hc;have hB:=qep (s:=tN r++[(tN m)[i]]) (qbU.2 ⟨zM r,fun c hcc=>by simp at hcc;subst hcc;exact hc⟩) (by simp) (by simp;omega);rw[qoD,q0u] at hB;have lx:(tN (10*r+dv (tN m)[i])).length<=1000002:=by
    have h10:10*r+dv (tN m)[i]<=10*n:=by omega
    have e10:(tN (10*n)).length<=(tN 10).length+(tN n).length:=qvD 10 n;have e11:(tN 10).length=2:=by decide
    have:=kA h10;omega
   have hI:=qC8 (tN m) q (i:Int) hn (x0:=10*r+dv (tN m)[i]) (by omega) ln lx;have hq10:(10*r+dv (tN m)[i])/n<10:=by rw[Nat.div_lt_iff_lt_mul hn];omega
   have hd1:(i:Int)<qv (tN m):=by unfold qv;omega
   have hd2:((i+1:Nat):Int)<=qv (tN m):=by unfold qv;omega
   have hrs:qrw [[.i (48+(((10*r+dv (tN m)[i])/n:Nat):Int))]]=[dch ((10*r+dv (tN m)[i])/n)]:=by simp only[qrw,qPS,List.map_nil,qQf,U.toI,dch];congr 2
   have hl1:qv (tN r)+qv [(tN m)[i]]<=140737488355328:=by unfold qv;simp;omega
   have hl2:qv q+qv [dch ((10*r+dv (tN m)[i])/n)]<=140737488355328:=by unfold qv;simp;omega
   refine⟨k-1,[.s (tN m),.s (tN n),.s (q++[dch ((10*r+dv (tN m)[i])/n)]),.s (tN ((10*r+dv (tN m)[i])%n)),.i ((i+1:Nat):Int)],by omega,?_,i+1,_,_,rfl,by omega,by simp[hql],?_,?_,qQ3 _ hn⟩
   ·simp only[STD,hw,hd1,hd2,qJ5 hi,hl1,qgU,hB,hI,hrs,hl2,show (0:Int)<=(i:Int) by omega,show (0:Int)<=((i+1:Nat):Int) by omega,show (i:Int)<=((i+1:Nat):Int) by omega,and_self]
   ·exact qbU.2 ⟨hdq,qyk hq10⟩
   ·rw[qoD,qrW hq10,qbh hi,<-hv];have hdm:=qQM (10*r+dv (tN m)[i]) n;generalize (10*r+dv (tN m)[i])/n=c at *;generalize (10*r+dv (tN m)[i])%n=e at *;have e1:(10*val q+c)*n=10*(val q*n)+n*c:=by rw[qP2,Nat.mul_assoc,Nat.mul_comm c n]
    omega
  ·right;have hie:i=(tN m).length:=by omega
   have hd1:¬((i:Int)<qv (tN m)):=by unfold qv;omega
   rw[hie,qPX,q0u] at hv;have e1:m/n=val q:=by rw[<-hv,Nat.add_comm,Nat.add_mul_div_right _ _ hn,Nat.div_eq_of_lt hr,qPD]
   have e2:m%n=r:=by rw[<-hv,Nat.add_comm,Nat.add_mul_mod_self_right,Nat.mod_eq_of_lt hr]
   refine⟨0,[.s q,.s (tN r)],?_,rfl,q,by rw[e2],by omega,hdq,e1.symm⟩;simp only[STD,hd1]) (ps:=[.s (tN m),.s (tN n),.s [],.s [48],.i 0]) ⟨0,0,[],rfl,by omega,rfl,qsZ,by simp[qho],hn⟩
 subst h2;have hB:=qep (s:=q) h4 (by intro h;subst h;have:=qlW m;simp at h3;omega) (by omega);rw[h5] at hB;simp only[STD,h1,hB]
def fq(m n:Int):Int:=if 0<n then m/n else (-m)/(-n)
theorem qr7{m n q:Int}(h:(0<n/\q*n<=m/\m<q*n+n)\/(n<0/\q*n+n<m/\m<=q*n)):fq m n=q:=by
 unfold fq;rcases h with⟨h0,h1,h2⟩|⟨h0,h1,h2⟩
 ·rw[if_pos h0];exact((Int.ediv_emod_unique (r:=m-q*n) h0).2 ⟨by rw[qPU];omega,by omega,by omega⟩).1
 ·rw[if_neg (by omega)];have e:-n*q=-(q*n):=by rw[Int.neg_mul,qPU]
  exact((Int.ediv_emod_unique (r:=q*n-m) (show 0 < -n by omega)).2 ⟨by omega,by omega,by omega⟩).1
theorem qt2{n q:Int}(h:n≠0):fq (q*n) n=q:=by
 apply qr7;rcases Int.lt_or_lt_of_ne h with h|h
 ·exact .inr ⟨h,by omega,by omega⟩
 ·exact .inl ⟨h,by omega,by omega⟩
theorem qOi(m:Int){n:Int}(_:n≠0):(fq m n).natAbs<=m.natAbs+1:=by
 unfold fq;split
 ·have:=qQP m n;omega
 ·have:=qQP (-m) (-n);omega
theorem qqp(m:Int){n:Int}(hn:n≠0):n*m.tdiv n+qdN m n=m/\(qdN m n).natAbs<n.natAbs/\(0<=m->0<=qdN m n)/\(m<=0->qdN m n<=0):=by
 unfold qdN;refine⟨Int.mul_tdiv_add_tmod m n,?_,fun h=>Int.tmod_nonneg n h,fun h=>?_⟩
 ·rw[Int.natAbs_tmod];exact qQ3 _ (by omega)
 ·have:=Int.tmod_nonneg n (show 0<=-m by omega);rw[Int.neg_tmod] at this;omega
theorem qIS{m:Int}(h:(tN m.natAbs).length<=18):m.natAbs<1000000000000000000:=qPs (q7C h) (by decide)
theorem ql3{n t:Int}(hn:n≠0)(h:-9223372036854775808<=t/\t<=9223372036854775807):qev .i64 (n*t) n=t:=by unfold qev;rw[Int.mul_tdiv_cancel_left _ hn];unfold IntKind.wrap;simp[IntKind.signed,IntKind.bits];omega
theorem qLq(m n:Int):(m.tdiv n).natAbs<=m.natAbs:=by rw[Int.natAbs_tdiv];exact qQG _ _
theorem qK0{m n:Int}(hn:n≠0) :(qdN m n≠0/\¬((qdN m n<0)=(n<0))->fq m n=m.tdiv n-1/\m-fq m n*n=qdN m n+n)/\(¬(qdN m n≠0/\¬((qdN m n<0)=(n<0)))->fq m n=m.tdiv n/\m-fq m n*n=qdN m n):=by
 obtain⟨h1,h2,h3,h4⟩:=qqp m hn;generalize m.tdiv n=t at *;generalize qdN m n=r at *;have e:n*t=t*n:=qPU _ _;have e2:(t-1)*n=t*n-n:=by rw[Int.sub_mul,qQ6]
 constructor
 ·intro⟨c1,c2⟩;have c3:¬(r<0↔n<0):=fun h=>c2 (propext h);have:fq m n=t-1:=by
   apply qr7;rw[e2];rcases Int.lt_or_lt_of_ne hn with h|h
   ·have:¬r<0:=fun q=>c3 ⟨fun _=>h,fun _=>q⟩;exact .inr ⟨h,by omega,by omega⟩
   ·have:r<0:=by
     rcases Decidable.em (r<0) with q|q
     ·exact q
     ·exact absurd ⟨fun x=>by omega,fun x=>by omega⟩ c3
    exact .inl ⟨h,by omega,by omega⟩
  rw[this,e2];exact⟨rfl,by omega⟩
 ·intro c;have c':r=0\/(r<0↔n<0):=by
   rcases Decidable.em (r=0) with q|q
   ·exact .inl q
   ·right;rcases Decidable.em (r<0↔n<0) with q2|q2
    ·exact q2
    ·exact absurd ⟨q,fun h=>q2 (by rw[h])⟩ c
  have:fq m n=t:=by
   apply qr7;rcases Int.lt_or_lt_of_ne hn with h|h
   ·rcases c' with q|q
    ·exact .inr ⟨h,by omega,by omega⟩
    ·have:=q.2 h;exact .inr ⟨h,by omega,by omega⟩
   ·rcases c' with q|q
    ·exact .inl ⟨h,by omega,by omega⟩
    ·have:¬r<0:=fun x=>by have:=q.1 x;omega
     exact .inl ⟨h,by omega,by omega⟩
  rw[this];exact⟨rfl,by omega⟩
theorem qNG{m n:Int}(hn:n≠0) :(m.natAbs%n.natAbs≠0/\¬((m<0)=(n<0))->fq m n=-((m.natAbs/n.natAbs:Nat):Int)-1) /\(¬(m.natAbs%n.natAbs≠0/\¬((m<0)=(n<0)))->fq m n=if ¬((m<0)=(n<0)) then -((m.natAbs/n.natAbs:Nat):Int) else ((m.natAbs/n.natAbs:Nat):Int)):=by
 have hd:=qQM m.natAbs n.natAbs;have hl:=qQ3 m.natAbs (show 0<n.natAbs by omega);generalize m.natAbs/n.natAbs=q at *;generalize m.natAbs%n.natAbs=r at *;have hq:((n.natAbs*q:Nat):Int)=(n.natAbs:Int)*(q:Int):=by simp
 have e1:n<0->(n.natAbs:Int)*(q:Int)=-((q:Int)*n):=fun h=>by rw[show (n.natAbs:Int)=-n by omega,Int.neg_mul,qPU]
 have e2:0<n->(n.natAbs:Int)*(q:Int)=(q:Int)*n:=fun h=>by rw[show (n.natAbs:Int)=n by omega,qPU]
 have e3:(-(q:Int)-1)*n=-((q:Int)*n)-n:=by rw[Int.sub_mul,Int.neg_mul,qQ6]
 have e4:(-(q:Int))*n=-((q:Int)*n):=Int.neg_mul _ _;constructor
 ·intro⟨c1,c2⟩;have c3:¬(m<0↔n<0):=fun h=>c2 (propext h);apply qr7;rw[e3];rcases Int.lt_or_lt_of_ne hn with h|h
  ·have:=e1 h;have:¬m<0:=fun q=>c3 ⟨fun _=>h,fun _=>q⟩;exact .inr ⟨h,by omega,by omega⟩
  ·have:=e2 h;have:m<0:=by
    rcases Decidable.em (m<0) with q|q
    ·exact q
    ·exact absurd ⟨fun x=>by omega,fun x=>by omega⟩ c3
   exact .inl ⟨h,by omega,by omega⟩
 ·intro c;by_cases c2:(m<0)=(n<0)
  ·rw[if_neg (by simpa using c2)];have c3:m<0↔n<0:=by rw[c2]
   apply qr7;rcases Int.lt_or_lt_of_ne hn with h|h
   ·have:=e1 h;have:=c3.2 h;exact .inr ⟨h,by omega,by omega⟩
   ·have:=e2 h;have:¬m<0:=fun x=>by have:=c3.1 x;omega
    exact .inl ⟨h,by omega,by omega⟩
  ·rw[if_pos c2];have hr:r=0:=by
    rcases qPT r with h|h
    ·exact h
    ·exact absurd ⟨by omega,c2⟩ c
   have c3:¬(m<0↔n<0):=fun h=>c2 (propext h);apply qr7;rw[e4];rcases Int.lt_or_lt_of_ne hn with h|h
   ·have:=e1 h;have:¬m<0:=fun q=>c3 ⟨fun _=>h,fun _=>q⟩;exact .inr ⟨h,by omega,by omega⟩
   ·have:=e2 h;have:m<=0:=by
     rcases Decidable.em (m<0) with q|q
     ·omega
     ·exact absurd ⟨fun x=>by omega,fun x=>by omega⟩ c3
    exact .inl ⟨h,by omega,by omega⟩
theorem qKr:tI 1=[49]:=rfl
theorem q5M(n:Nat):(tN n=[48])=(n=0):=by rw[<-qC2];exact propext ⟨fun h=>qxl h,fun h=>by rw[h]⟩
theorem qJu(m:Int){n:Int}(hn:n≠0):nl (fq m n)<=nl m+2:=by have h:=qOi m hn;have h2:=kA h;have h3:=qCT m.natAbs 1;have h4:(tN 1).length=1:=rfl;have:=qlW m.natAbs;unfold nl;omega
theorem q4m(m n:Int)(hn0:n≠0)(hm:nl m<=400000)(hn:nl n<=400000):(vu [.s (tI m),.s (tI n)]).run=some (0,[.s (tI (fq m n)),.s (tI (m-fq m n*n))]):=by
 rw[qtZ];have hbr:=q7J m n;by_cases hb:(tN m.natAbs).length<=18/\(tN n.natAbs).length<=18
 ·rw[if_pos hb] at hbr;have b1:=qIS hb.1;have b2:=qIS hb.2;obtain⟨h1,h2,h3,h4⟩:=qqp m hn0;obtain⟨g1,g2⟩:=qK0 (m:=m) hn0;have ht:=qLq m n;by_cases c0:qdN m n=0
  ·obtain⟨e1,e2⟩:=g2 (fun h=>h.1 c0);rw[e2,e1];have w1:wo .i64 m (qdN m n)=n*m.tdiv n:=by rw[ze (by omega)];omega
   have w2:=ql3 (t:=m.tdiv n) hn0 (by omega);have o1:=q1P (m.tdiv n) (by omega) (by omega);have o2:=q1P (qdN m n) (by omega) (by omega);simp only[STD,hbr,hn0,c0] at w1 o2 ⊢;simp only[STD,w1,w2,o1,o2]
  ·by_cases c1:(qdN m n<0)=(n<0)
   ·obtain⟨e1,e2⟩:=g2 (fun h=>h.2 c1);rw[e2,e1];have w1:wo .i64 m (qdN m n)=n*m.tdiv n:=by rw[ze (by omega)];omega
    have w2:=ql3 (t:=m.tdiv n) hn0 (by omega);have o1:=q1P (m.tdiv n) (by omega) (by omega);have o2:=q1P (qdN m n) (by omega) (by omega);have hbq:(ilt (qdN m n) 0=ilt n 0)=True:=by simp only[ilt,decide_eq_decide,eq_iff_iff,iff_true];rw[c1]
    simp only[STD,hbr,hn0,c0,hbq,w1,w2,o1,o2]
   ·obtain⟨e1,e2⟩:=g1 ⟨c0,c1⟩;rw[e2,e1];have w0:qo .i64 (qdN m n) n=qdN m n+n:=qK (by omega);have e3:n*(m.tdiv n-1)=n*m.tdiv n-n:=by rw[Int.mul_sub,Int.mul_one]
    have w1:wo .i64 m (qdN m n+n)=n*(m.tdiv n-1):=by rw[ze (by omega)];omega
    have w2:=ql3 (t:=m.tdiv n-1) hn0 (by omega);have o1:=q1P (m.tdiv n-1) (by omega) (by omega);have o2:=q1P (qdN m n+n) (by omega) (by omega);have hbq:(ilt (qdN m n) 0=ilt n 0)=False:=by simp only[ilt,decide_eq_decide,eq_iff_iff,iff_false];exact fun h=>c1 (propext h)
    simp only[STD,hbr,hn0,c0,hbq,w0,w1,w2,o1,o2]
 ·rw[if_neg hb] at hbr;have hm':(tN m.natAbs).length<=400000:=hm;have hn':(tN n.natAbs).length<=400000:=hn;have hD:=qtq (m:=m.natAbs) (n:=n.natAbs) (by omega) (by omega) (by omega);have lq:(tN (m.natAbs/n.natAbs)).length<=(tN m.natAbs).length:=kA (qQG _ _);have hS:=fun b=>kM (m.natAbs/n.natAbs) b (by omega);have hbq:(decide (m<0)=decide (n<0))=((m<0)=(n<0)):=by simp only[decide_eq_decide,eq_iff_iff]
  have lf:=qJu m hn0;have hT:=qpp (fq m n) n (by omega) (by omega);have lt:=uB (fq m n) n;have hM:=qbw m (fq m n*n) (by omega) (by omega);obtain⟨g1,g2⟩:=qNG (m:=m) hn0;by_cases c1:(m<0)=(n<0)
  ·have e1:=g2 (fun h=>h.2 c1);rw[if_neg (by simpa using c1)] at e1;have hS':=hS false;simp only[qPo,if_false] at hS';rw[<-e1] at hS';have hnb:(!Go.Eng.beq (decide (m<0)) (decide (n<0)))=false:=by simp only[Go.Eng.beq,Bool.not_eq_false',beq_iff_eq];rw[hbq];exact c1
   by_cases c0:m.natAbs%n.natAbs=0
   ·simp only[STD,hbr,wy,hD,vT,hnb,hS',zQ,q5M,c0,hT,hM]
   ·simp only[STD,hbr,wy,hD,vT,hnb,hS',zQ,q5M,c0,hT,hM]
  ·have hnb:(!Go.Eng.beq (decide (m<0)) (decide (n<0)))=true:=by
    have:¬(decide (m<0)=decide (n<0)):=by rw[hbq];exact c1
    simp only[Go.Eng.beq,qQn,beq_eq_false_iff_ne];exact this
   have hS':=hS true;simp only[if_true] at hS';by_cases c0:m.natAbs%n.natAbs=0
   ·have e1:=g2 (fun h=>h.1 c0);rw[if_pos c1] at e1;rw[<-e1] at hS';simp only[STD,hbr,wy,hD,vT,hnb,hS',zQ,q5M,c0,hT,hM]
   ·have e1:=g1 ⟨c0,c1⟩;have hMi:=qbw (-((m.natAbs/n.natAbs:Nat):Int)) 1 (by rw[qtl];show (tN (m.natAbs/n.natAbs)).length<=_;omega) (by decide);rw[qKr,<-e1] at hMi;simp only[STD,hbr,wy,hD,vT,hnb,hS',zQ,q5M,c0,hMi,hT,hM]
theorem qMz(x:Nat){y:Nat}(h:0<y):fq (x:Int) (y:Int)=((x/y:Nat):Int)/\(x:Int)-fq (x:Int) (y:Int)*(y:Int)=((x%y:Nat):Int):=by
 have e:fq (x:Int) (y:Int)=((x/y:Nat):Int):=by unfold fq;rw[if_pos (by omega)];rfl
 refine⟨e,?_⟩;rw[e];have:=qQM x y;have h2:((y*(x/y):Nat):Int)=((x/y:Nat):Int)*(y:Int):=by rw[Nat.mul_comm];simp
 omega
theorem qIU(a b:Nat)(hb:b<9223372036854775808):(qf yU [.i (a:Int),.i (b:Int)]).run=some (0,[.i ((Nat.gcd a b:Nat):Int)]):=by
 obtain⟨j,qs,h1,rfl,rfl⟩:=jn (S:=yU) (fun k ps=>∃x y:Nat,ps=[.i (x:Int),.i (y:Int)]/\y=k/\Nat.gcd x y=Nat.gcd a b)
  (fun j qs=>j=0/\qs=[.i ((Nat.gcd a b:Nat):Int)]) (n:=b) hb (fun k ps hk ⟨x,y,hps,hy,hg⟩=>by
  subst hps;rw[qpO];by_cases h0:y=0
  ·right;refine⟨0,[.i (x:Int)],?_,rfl,?_⟩
   ·simp only[STD,h0];simp[]
   ·rw[<-hg,h0,Nat.gcd_zero_right]
  ·left;refine⟨x%y,[.i (y:Int),.i ((x%y:Nat):Int)],by rw[<-hy];exact qQ3 _ (by omega),?_,y,x%y,rfl,rfl,?_⟩
   ·simp only[STD,show (0:Int)<(y:Int) by omega,show ¬((y:Int)=0) by omega,qsY]
   ·rw[<-hg,qQh y,<-Nat.gcd_rec,qQh]) (ps:=[.i (a:Int),.i (b:Int)]) ⟨a,b,rfl,rfl,rfl⟩
 exact h1
def eM(a b:Nat):Nat:=if b=0 then 0 else Nat.log2 (a*b)+1+if a<b then 1 else 0
theorem qFY{m n:Nat}(h:m<=n):Nat.log2 m<=Nat.log2 n:=by
 by_cases hm:m=0
 ·subst hm;simp
 ·rcases qOT (Nat.log2 n) (Nat.log2 m) with h1|h1
  ·have:=(Nat.log2_lt (show n≠0 by omega)).1 h1;have h2:=Nat.log2_self_le hm;omega
  ·exact h1
theorem qHx{a b:Nat}(hb:b≠0):eM b (a%b)<eM a b:=by
 have hlt:=qQ3 a (show 0<b by omega);unfold eM;rw[if_neg hb];by_cases hr:a%b=0
 ·rw[if_pos hr];omega
 ·rw[if_neg hr,if_neg (show ¬b<a%b by omega)];by_cases hab:a<b
  ·rw[if_pos hab,Nat.mod_eq_of_lt hab,Nat.mul_comm b a];omega
  ·rw[if_neg hab];have hd:=qQM a b;have hq:1<=a/b:=(Nat.le_div_iff_mul_le (by omega)).2 (by omega);have h1:b*1<=b*(a/b):=Nat.mul_le_mul_left _ hq;have h2:2*(b*(a%b))<=a*b:=by
    have:2*(a%b)<=a:=by omega
    have:=qPb b this;rw[Nat.mul_assoc,Nat.mul_comm (a%b) b] at this;exact this
   have h3:=qFY h2;have h4:Nat.log2 (2*(b*(a%b)))=Nat.log2 (b*(a%b))+1:=by apply Nat.log2_two_mul;exact Nat.mul_ne_zero hb hr
   omega
theorem qI5{x k j:Nat}(h:(tN x).length<=k)(hj:4*k=j):x<2^j:=by
 have h3:x<10^k:=q7C h;have h4:(10:Nat)^k<=16^k:=Nat.pow_le_pow_left (by omega) _;have h5:(16:Nat)^k=2^j:=by rw[show (16:Nat)=2^4 from rfl,<-Nat.pow_mul,hj]
 rw[h5] at h4;exact qPs h3 h4
theorem qE6{a b:Nat}(ha:(tN a).length<=400000)(hb:(tN b).length<=400000):eM a b<9223372036854775808:=by
 unfold eM;have h1:=qvD a b;by_cases h0:a*b=0
 ·rw[h0];simp;split<;>(try split)<;>omega
 ·obtain⟨j,hj⟩:∃j,j=3200000:=⟨_,rfl⟩;have h2:a*b<2^j:=qI5 (k:=800000) (by omega) (by omega);have:=(Nat.log2_lt h0).2 h2;split<;>(try split)<;>omega
theorem qwo(m n:Int)(hm:nl m<=400000)(hn:nl n<=400000):(q4q [.s (tI m),.s (tI n)]).run=some (0,[.s (tN (Nat.gcd m.natAbs n.natAbs))]):=by
 rw[qu2];have hm':(tN m.natAbs).length<=400000:=hm;have hn':(tN n.natAbs).length<=400000:=hn;have hS:=fun x (h:(tN x).length<=400000)=>kM x false (by omega);simp only[qPo,if_false,q1x] at hS;obtain⟨j,qs,h1,h2,rfl⟩:=jn (S:=q1B) (fun k ps=>∃x y:Nat,ps=[.s (tN x),.s (tN y)]/\eM x y=k/\Nat.gcd x y=Nat.gcd m.natAbs n.natAbs/\(tN x).length<=400000/\(tN y).length<=400000)
  (fun j qs=>(j=0\/j=1)/\qs=[.s (tN (Nat.gcd m.natAbs n.natAbs))]) (n:=eM m.natAbs n.natAbs) (qE6 hm' hn') (fun k ps hk ⟨x,y,hps,hy,hg,lx,ly⟩=>by
  subst hps;rw[qrd];by_cases h0:y=0
  ·right;refine⟨0,[.s (tN x)],?_,.inl rfl,?_⟩
   ·simp only[STD,zQ,q5M,h0]
   ·rw[<-hg,h0,Nat.gcd_zero_right]
  ·have hbr:=q7J (x:Int) (y:Int);rw[q1x,q1x] at hbr;simp only[Int.natAbs_natCast] at hbr;by_cases hb:(tN x).length<=18/\(tN y).length<=18
   ·right;rw[if_pos hb] at hbr;have b1:=qIS (m:=(x:Int)) hb.1;have b2:=qIS (m:=(y:Int)) hb.2;simp only[Int.natAbs_natCast] at b1 b2;have hE:=qIU x y (by omega);have hgl:Nat.gcd x y<=y:=Nat.gcd_le_right _ (by omega);have hO:=q1P ((Nat.gcd x y:Nat):Int) (by omega) (by omega);rw[q1x] at hO;refine⟨1,[.s (tN (Nat.gcd x y))],?_,.inr rfl,by rw[hg]⟩;simp only[STD,zQ,q5M,h0,hbr,hE,hO]
   ·left;rw[if_neg hb] at hbr;have hP:=q4m (x:Int) (y:Int) (by omega) (by exact lx) (by exact ly);rw[q1x,q1x,(qMz x (show 0<y by omega)).2,q1x] at hP;refine⟨eM y (x%y),[.s (tN y),.s (tN (x%y))],by rw[<-hy];exact qHx h0,?_,y,x%y,rfl,rfl,?_,ly,qOP (kA (Nat.le_of_lt (qQ3 _ (by omega)))) ly⟩
    ·simp only[STD,zQ,q5M,h0,hbr,hP]
    ·rw[<-hg,qQh y,<-Nat.gcd_rec,qQh]) (ps:=[.s (tN m.natAbs),.s (tN n.natAbs)]) ⟨_,_,rfl,rfl,rfl,hm',hn'⟩
 rcases h2 with rfl|rfl
 ·simp only[STD,wy,hS _ hm',hS _ hn',h1,zm h1,ite_self]
 ·simp only[STD,wy,hS _ hm',hS _ hn',h1,zm h1,ite_self]
def mag(s:qOK):List UInt8:=if s.getD 0 0=45 then s.drop 1 else s
theorem qAV(m:Int):mag (tI m)=tN m.natAbs:=by
 unfold mag;by_cases h:m<0
 ·rw[qee h];simp
 ·rw[qne h];obtain⟨c,t,e,h1,h2⟩:=qlm (zM m.natAbs) (qtF _);rw[e];simp only[qQf];rw[if_neg];intro hc;subst hc;revert h1;decide
theorem qIl(s:qOK):(∃m:Int,s=tI m)↔mag s≠[]/\q7P (mag s)/\((mag s).getD 0 0=48->s.length=1):=by
 constructor
 ·rintro ⟨m,rfl⟩;rw[qAV];refine⟨qtF _,zM _,fun h=>?_⟩;rcases qHk m.natAbs with h1|h1
  ·have h2:=qy9 m.natAbs;have hv:m.natAbs=0:=by obtain⟨c,e⟩:∃c,tN m.natAbs=[c]:=List.length_eq_one_iff.1 h1;rw[e] at h;simp at h;have:=q0u m.natAbs;rw[e,h] at this;simpa[val,dv] using this.symm
   have hm0:m=0:=by omega
   rw[hm0];rfl
  ·exact absurd h h1
 ·rintro ⟨h1,h2,h3⟩;by_cases h45:s.getD 0 0=45
  ·have hm:mag s=s.drop 1:=by unfold mag;rw[if_pos h45]
   obtain⟨c,t,rfl⟩:∃c t,s=c::t:=by
    cases s with
    | nil=>simp at h45
    | cons c t=>exact⟨c,t,rfl⟩
   simp at h45;subst h45;rw[hm] at h1 h2 h3;simp only[List.drop_succ_cons,List.drop_zero] at h1 h2 h3;have h4:t.getD 0 0≠48:=fun h=>by have:=h3 h;simp at this;exact h1 this
   have hv:=qDZ h2 h1 h4;have hp:0<10^(t.length-1):=Nat.pow_pos (by omega);refine⟨-((val t:Nat):Int),?_⟩;rw[qee (by omega)];simp only[Int.natAbs_neg,Int.natAbs_natCast];rw[<-quR h2 h1 (.inr h4)]
  ·have hm:mag s=s:=by unfold mag;rw[if_neg h45]
   rw[hm] at h1 h2 h3;refine⟨((val s:Nat):Int),?_⟩;rw[q1x];refine quR h2 h1 ?_;by_cases h4:s.getD 0 0=48
   ·exact .inl (h3 h4)
   ·exact .inr h4
open Classical in
noncomputable def qDS(s:qOK):Int:=if ∃m:Int,s=tI m then (if (mag s).length<=1024 then 0 else 11) else 3
end Go.Eng

namespace Go.Eng
variable {q:Rat}
def tQ(q:Rat):List UInt8:=if q.den=1 then tI q.num else tI q.num++47::tN q.den
def dl(n:Nat):Nat:=(tN n).length
def qn(q:Rat):Nat:=nl q.num
def qd(q:Rat):Nat:=dl q.den
theorem qFO {s:qOK}(h:q7P s):∀c,c∈s->c≠47:=fun c hc e=>by have:=h c hc;rw[e] at this;revert this;decide
theorem qvM (m:Int):∀c,c∈tI m->c≠47:=by
 intro c hc;unfold tI at hc;split at hc
 ·rcases qP5.1 hc with rfl|hc
  ·decide
  ·exact qFO (zM _) c hc
 ·exact qFO (zM _) c hc
theorem qEc:∀{s s' t t':qOK},(∀c,c∈s->c≠47)->(∀c,c∈s'->c≠47)->s++47::t=s'++47::t'->s=s'/\t=t'
 | [],[],t,t',_,_,h=>⟨rfl,by simpa using h⟩
 | [],c::s',t,t',_,h2,h=>by
  simp only[qQ5,qQb,qQd] at h;exact absurd h.1.symm (h2 c qP8)
 | c::s,[],t,t',h1,_,h=>by
  simp only[qQ5,qQb,qQd] at h;exact absurd h.1 (h1 c qP8)
 | c::s,c'::s',t,t',h1,h2,h=>by
  simp only[qQb,qQd] at h;obtain⟨e1,e2⟩:=qEc (fun c hc=>h1 c (qPc _ hc)) (fun c hc=>h2 c (qPc _ hc)) h.2;exact⟨by rw[h.1,e1],e2⟩
theorem qjg (h:q.den=1):tQ q=tI q.num:=by unfold tQ;rw[if_pos h]
theorem qeT (h:q.den≠1):tQ q=tI q.num++47::tN q.den:=by unfold tQ;rw[if_neg h]
theorem qMo {a b:Rat}(h:tQ a=tQ b):a=b:=by
 by_cases ha:a.den=1<;>by_cases hb:b.den=1
 ·rw[qjg ha,qjg hb] at h;exact Rat.ext (qB5 h) (ha.trans hb.symm)
 ·rw[qjg ha,qeT hb] at h;exact absurd rfl (qvM a.num 47 (by rw[h];simp))
 ·rw[qeT ha,qjg hb] at h;exact absurd rfl (qvM b.num 47 (by rw[<-h];simp))
 ·rw[qeT ha,qeT hb] at h;obtain⟨e1,e2⟩:=qEc (qvM _) (qvM _) h;exact Rat.ext (qB5 e1) (qxl e2)
theorem qFx (a b:Rat):(tQ a=tQ b)=(a=b):=propext ⟨qMo,fun h=>by rw[h]⟩
theorem qGm (m:Int):tQ (m:Rat)=tI m:=qjg (by simp)
theorem quv {m n:Int}(h:m.natAbs<=n.natAbs):nl m<=nl n:=kA h
theorem qLa {m n:Nat}(h:m<=n):dl m<=dl n:=kA h
theorem qjE (n:Nat):nl (n:Int)=dl n:=rfl
theorem qGY (m n:Nat):dl (m*n)<=dl m+dl n:=qvD m n
theorem qDR (m n:Int):nl (m-n)<=max (nl m) (nl n)+1:=by
 rw[Int.sub_eq_add_neg];have:=qAG m (-n)
 rwa [qtl] at this
theorem qlt (N:Int)(D:Nat):nl (mkRat N D).num<=nl N/\dl (mkRat N D).den<=dl D:=by
 rw[Rat.num_mkRat,Rat.den_mkRat];by_cases h:D=0
 ·rw[if_pos h,if_pos h,h];exact⟨quv (by simp),by decide⟩
 ·rw[if_neg h,if_neg h];exact⟨quv (qQP _ _),qLa (qQG _ _)⟩
theorem qKP (a b:Rat):qn (a*b)<=qn a+qn b:=by unfold qn;rw[Rat.mul_def'];exact qOP (qlt _ _).1 (uB _ _)
theorem qKQ (a b:Rat):qd (a*b)<=qd a+qd b:=by unfold qd;rw[Rat.mul_def'];exact qOP (qlt _ _).2 (qGY _ _)
theorem qMp (a b:Rat):qn (a+b)<=max (qn a+qd b) (qn b+qd a)+1:=by unfold qn qd;rw[Rat.add_def'];have h1:=(qlt (a.num*b.den+b.num*a.den) (a.den*b.den)).1;have h2:=qAG (a.num*b.den) (b.num*a.den);have h3:=uB a.num b.den;have h4:=uB b.num a.den;rw[qjE] at h3 h4;omega
theorem qNr (a b:Rat):qd (a+b)<=qd a+qd b:=by unfold qd;rw[Rat.add_def'];exact qOP (qlt _ _).2 (qGY _ _)
theorem qNe (a b:Rat):qn (a-b)<=max (qn a+qd b) (qn b+qd a)+1:=by unfold qn qd;rw[Rat.sub_def'];have h1:=(qlt (a.num*b.den-b.num*a.den) (a.den*b.den)).1;have h2:=qDR (a.num*b.den) (b.num*a.den);have h3:=uB a.num b.den;have h4:=uB b.num a.den;rw[qjE] at h3 h4;omega
theorem qMm (a b:Rat):qd (a-b)<=qd a+qd b:=by unfold qd;rw[Rat.sub_def'];exact qOP (qlt _ _).2 (qGY _ _)
theorem qNw (a:Rat):qn (-a)=qn a:=by unfold qn;rw[Rat.neg_num,qtl]
theorem qxq (a:Rat):0<qn a:=qvl _
theorem qxx (a:Rat):0<qd a:=qlW _
theorem qMU {a:Rat}(h:a≠0):qn a⁻¹<=qd a:=by unfold qn qd;rw[Rat.num_inv,<-qjE];apply quv;rw[qPZ,qR2 (by rwa [Ne,Rat.num_eq_zero])];simp
theorem qNq {a:Rat}(h:a≠0):qd a⁻¹<=qn a:=by unfold qn qd;rw[Rat.den_inv,if_neg (by rwa [Rat.num_eq_zero])];exact qON _
theorem qN4 (a:Rat){b:Rat}(h:b≠0):qn (a/b)<=qn a+qd b:=by rw[Rat.div_def];exact qOP (qKP _ _) (Nat.add_le_add_left (qMU h) _)
theorem qMB (a:Rat){b:Rat}(h:b≠0):qd (a/b)<=qd a+qn b:=by rw[Rat.div_def];exact qOP (qKQ _ _) (Nat.add_le_add_left (qNq h) _)
def sgq(q:Rat):Int:=sgn q.num
theorem qM5 (m:Int):sgn (-m)=-sgn m:=by
 unfold sgn;rcases qQk m 0 with h|h|h
 ·rw[if_pos h,if_neg (by omega),if_neg (by omega)];rfl
 ·subst h;rfl
 ·rw[if_pos (by omega),if_neg (by omega),if_neg (by omega)]
theorem qCO (h:0<q):sgq q=1:=by
 unfold sgq sgn;have h1:0<=q.num:=Rat.num_nonneg.2 (Rat.le_of_lt h);have h2:q.num≠0:=fun e=>by rw[Rat.num_eq_zero] at e;rw[e] at h;exact Rat.lt_irrefl h
 rw[if_neg (by omega),if_neg h2]
theorem qLB (q:Rat):sgq (-q)=-sgq q:=by unfold sgq;rw[Rat.neg_num,qM5]
theorem qKA (h:q<0):sgq q=-1:=by
 have h1:0 < -q:=by grind
 have:=qCO h1;rw[qLB] at this;omega
theorem qu1 (q:Rat):(q<0/\sgq q=-1)\/(q=0/\sgq q=0)\/(0<q/\sgq q=1):=by
 by_cases h1:q<0
 ·exact .inl ⟨h1,qKA h1⟩
 ·by_cases h2:q=0
  ·exact .inr (.inl ⟨h2,by rw[h2];rfl⟩)
  ·exact .inr (.inr ⟨by grind,qCO (by grind)⟩)
theorem qEY (q:Rat):(sgq q<0)=(q<0):=by rcases qu1 q with⟨h,e⟩|⟨h,e⟩|⟨h,e⟩<;>rw[e]<;>simp<;>grind
theorem qGC (N:Int){D:Nat}(h:D≠0):sgq (mkRat N D)=sgn N:=by
 have hp:(0:Rat)<(D:Rat):=by
  have:0<D:=by omega
  exact Rat.natCast_pos.2 this
 have e:(mkRat N D)*(D:Rat)=(N:Rat):=by rw[Rat.mkRat_eq_div];exact Rat.div_mul_cancel (by grind)
 have h2:sgn N=sgq (N:Rat):=by unfold sgq;simp
 rw[h2,<-e];rcases qu1 (mkRat N D) with⟨h,e⟩|⟨h,e⟩|⟨h,e⟩
 ·rw[e,qKA];exact(Rat.mul_neg_iff_of_pos_right hp).2 h
 ·rw[e,h,Rat.zero_mul];rfl
 ·rw[e,qCO];exact qQz h hp
theorem qLm (a b:Rat):sgq (a-b)=sgn (a.num*b.den-b.num*a.den):=by rw[Rat.sub_def',qGC];exact Nat.mul_ne_zero a.den_nz b.den_nz
end Go.Eng

namespace Go.Eng
def sP(s:qOK):Nat:=s.findIdx (·==47)
def spn(s:qOK):List UInt8:=s.take (sP s)
def spd(s:qOK):List UInt8:=if sP s<s.length then s.drop (sP s+1) else [49]
theorem qLy(s:qOK):sP s<=s.length:=List.findIdx_le_length
theorem qL1{s:qOK}{i:Nat}(h:i<s.length)(h1:s[i]=47)(h2:∀j (hj:j<i),s[j]≠47):sP s=i:=by unfold sP;rw[List.findIdx_eq h];exact⟨by simp[h1],fun j hj=>by simp[h2 j hj]⟩
theorem qz1{s:qOK}(h:∀c,c∈s->c≠47):sP s=s.length:=by unfold sP;rw[List.findIdx_eq_length];intro x hx;simpa using h x hx
theorem qI1{s t:qOK}(h:∀c,c∈s->c≠47):sP (s++47::t)=s.length:=by
 apply qL1 (by simp)
 ·simp
 ·intro j hj;rw[List.getElem_append_left hj];exact h _ (qPx hj)
theorem qH4(q:Rat):spn (tQ q)=tI q.num:=by
 unfold spn;by_cases h:q.den=1
 ·rw[qjg h,qz1 (qvM _),qPX]
 ·rw[qeT h,qI1 (qvM _)];simp
theorem qIa(q:Rat):spd (tQ q)=tN q.den:=by
 unfold spd;by_cases h:q.den=1
 ·rw[qjg h,qz1 (qvM _),if_neg (Nat.lt_irrefl _),h];rfl
 ·rw[qeT h,qI1 (qvM _),if_pos (by simp)];simp
theorem qLr(s:qOK)(hl:s.length<=9223372036854775807):(q7H [.s s]).run=some (0,[.i (if sP s<s.length then (sP s:Int) else -1)]):=by
 rw[qwy];obtain⟨j,qs,h1,h2⟩:=jn (S:=q2N) (fun k ps=>∃i:Nat,ps=[.s s,.i (i:Int)]/\i+k=s.length/\∀j (hj:j<i) (hj2:j<s.length),s[j]≠47)
  (fun j qs=>(¬sP s<s.length/\j=0/\qs=[])\/(sP s<s.length/\j=1/\qs=[.i (sP s:Int)])) (n:=s.length) (by omega) (fun k ps hk ⟨i,hps,hi,hd⟩=>by
  subst hps;rw[qsu];by_cases hlt:i<s.length
  ·have a1:(i:Int)<qv s:=by unfold qv;omega
   have a2:(0:Int)<=(i:Int):=by omega
   have hs:=qu4 hlt;have hw:qo .i64 (i:Int) 1=((i+1:Nat):Int):=by rw[qK (by omega)];omega
   by_cases b1:s[i]=47
   ·right;have e:=qL1 hlt b1 (fun j hj=>hd j hj (by omega));have b2:(s[i].toNat:Int)=47:=by rw[b1];rfl
    refine⟨1,[.i (i:Int)],?_,.inr ⟨by rw[e];exact hlt,rfl,by rw[e]⟩⟩;simp only[STD,a1,a2,hs,b2,and_self]
   ·left;have b2:¬(s[i].toNat:Int)=47:=fun h=>b1 (qQO.1 (by show s[i].toNat=47;omega));refine⟨k-1,[.s s,.i ((i+1:Nat):Int)],by omega,?_,i+1,rfl,by omega,?_⟩
    ·simp only[STD,a1,a2,hs,b2,and_self,hw]
    ·intro j hj hj2;rcases qOT j i with h|h
     ·exact hd j h hj2
     ·obtain rfl:j=i:=by omega
      exact b1
  ·right;have a1:¬((i:Int)<qv s):=by unfold qv;omega
   refine⟨0,[],?_,.inl ⟨?_,rfl,rfl⟩⟩
   ·simp only[STD,a1]
   ·rw[qz1]
    ·omega
    ·intro c hc;obtain⟨j,hj,rfl⟩:=List.mem_iff_getElem.1 hc;exact hd j (by omega) hj) (ps:=[.s s,.i 0]) ⟨0,rfl,by omega,fun j hj=>by omega⟩
 rcases h2 with⟨h2,rfl,rfl⟩|⟨h2,rfl,rfl⟩
 ·rw[if_neg h2];simp only[STD,h1,zm h1]
 ·rw[if_pos h2];simp only[STD,h1,zm h1,show ¬(1=0) by omega]
theorem qLv(s:qOK)(hl:s.length<=9223372036854775807):(yp [.s s]).run=some (0,[.s (spn s),.s (spd s)]):=by
 rw[qvV];have hs:=qLr s hl;have hle:=qLy s;unfold spd spn;by_cases h:sP s<s.length
 ·rw[if_pos h] at hs ⊢;have a1:¬((sP s:Int)<0):=by omega
  have a2:(sP s:Int)<=qv s:=by unfold qv;omega
  have hw:qo .i64 (sP s:Int) 1=((sP s+1:Nat):Int):=by rw[qK (by omega)];omega
  have a3:((sP s+1:Nat):Int)<=qv s:=by unfold qv;omega
  have e1:qfh s 0 (sP s:Int)=s.take (sP s):=by simp[qfh]
  have e2:qfh s ((sP s+1:Nat):Int) (qv s)=s.drop (sP s+1):=by unfold qfh qv;simp only[qOX,qPX]
  simp only[STD,hs,a1,a2,hw,a3,e1,e2,show (0:Int)<=(sP s:Int) by omega,show (0:Int)<=((sP s+1:Nat):Int) by omega,show (0:Int)<=qv s by unfold qv;omega,qPr,and_self]
 ·rw[if_neg h] at hs ⊢;have e:s.take (sP s)=s:=List.take_of_length_le (by omega);rw[e];simp only[STD,hs,show (-1:Int)<0 by omega]
theorem qKM(q:Rat):(tQ q).length<=qn q+qd q+2:=by
 have h1:=qB7 q.num;unfold qn qd nl dl;by_cases h:q.den=1
 ·rw[qjg h];omega
 ·rw[qeT h];simp;omega
theorem qyH(q:Rat)(hn:qn q<=400000)(hd:qd q<=400000):(yp [.s (tQ q)]).run=some (0,[.s (tI q.num),.s (tI (q.den:Int))]):=by have:=qKM q;rw[qLv _ (by omega),qH4,qIa,q1x]
theorem qjB(a b:Rat)(ha:qn a<=400000)(ha':qd a<=400000)(hb:qn b<=400000)(hb':qd b<=400000) :(zf [.s (tQ a),.s (tQ b)]).run=some (0,[.r [[.s (tI (a.num*b.den))],[.s (tI (b.num*a.den))],[.s (tI (a.den*b.den))],[.s (tI (a.num*b.num))],[.s (tI (a.den*b.num))]]]):=by rw[qsr];have t:=fun (m n:Int) (h1:nl m<=400000) (h2:nl n<=400000)=>qpp m n (by omega) (by omega);simp only[STD,qyH a ha ha',qyH b hb hb',t a.num b.den ha hb',t b.num a.den hb ha',t a.den b.den ha' hb',t a.num b.num ha hb,t a.den b.num ha' hb]
theorem qc1(n:Nat):(tN n=[49])=(n=1):=by have:tN 1=[49]:=rfl;rw[<-this];exact propext ⟨fun h=>qxl h,fun h=>by rw[h]⟩
theorem qsX(m n:Int)(hn:n≠0)(hm':nl m<=400000)(hn':nl n<=400000):(wJ [.s (tI m),.s (tI n)]).run=some (0,[.s (tQ (Rat.divInt m n))]):=by
 rw[qtU];have hS:=qwo m n hm' hn';have hg0:0<Nat.gcd m.natAbs n.natAbs:=Nat.gcd_pos_of_pos_right _ (by omega);have hgn:Nat.gcd m.natAbs n.natAbs<=n.natAbs:=Nat.gcd_le_right _ (by omega);have hgl:(tN (Nat.gcd m.natAbs n.natAbs)).length<=400000:=qOP (kA hgn) hn';have hnum:=Rat.num_divInt m n;have hden:=Rat.den_divInt m n;rw[if_neg hn] at hden;have hgc:Int.gcd n m=Nat.gcd m.natAbs n.natAbs:=by unfold Int.gcd;exact qQh _ _
 rw[hgc] at hnum hden;obtain⟨k,hk⟩:((Nat.gcd m.natAbs n.natAbs:Nat):Int) ∣ m:=Int.ofNat_dvd_left.2 (Nat.gcd_dvd_left _ _);obtain⟨l,hl⟩:((Nat.gcd m.natAbs n.natAbs:Nat):Int) ∣ n:=Int.ofNat_dvd_left.2 (Nat.gcd_dvd_right _ _);generalize Nat.gcd m.natAbs n.natAbs=g at *;generalize Rat.divInt m n=q at *;have hB:=vT n;have hm2:k*(g:Int)=m:=by rw[qPU];exact hk.symm
 have hn2:l*(g:Int)=n:=by rw[qPU];exact hl.symm
 have hql:nl q.num<=400000:=by refine qOP (quv ?_) hm';rw[hnum];refine qOP (qQP _ _) ?_;rw[qPZ,qR2 hn];omega
 have hdl:(tN q.den).length<=400000:=by refine qOP (kA ?_) hn';rw[hden];exact qQG _ _
 have hil:=qB7 q.num;have hil2:(tN q.num.natAbs).length<=400000:=hql;have fin:(Tree.br (seq (tI (q.den:Int)) [49]) (Tree.leaf (0,[PV.s (tI q.num)])) (Tree.br (ile (qv (tI q.num)+qv [47]) 140737488355328) (Tree.br (ile (qv (qgU (tI q.num) [47])+qv (tI (q.den:Int))) 140737488355328)
   (Tree.leaf (0,[PV.s (qgU (qgU (tI q.num) [47]) (tI (q.den:Int)))])) Tree.fail) Tree.fail)).run=some (0,[PV.s (tQ q)]):=by
  rw[q1x];have a1:qv (tI q.num)+qv [47]<=140737488355328:=by unfold qv;simp;omega
  have a2:qv (qgU (tI q.num) [47])+qv (tN q.den)<=140737488355328:=by unfold qv qgU;simp;omega
  by_cases h1:q.den=1
  ·simp only[STD,zQ,qc1,h1,qjg h1]
  ·simp only[STD,zQ,qc1,h1,qeT h1,a1,a2];simp[qgU]
 by_cases hneg:n<0
 ·have hT:=qfF (g:Int) (by simp only[Int.natAbs_natCast];omega);rw[q1x] at hT;have e1:fq m (-(g:Int))=q.num:=by have:fq ((-k)*(-(g:Int))) (-(g:Int))=-k:=qt2 (by omega);rw[show (-k)*(-(g:Int))=m by rw[qQl];exact hm2] at this;rw[this,hnum,Int.sign_eq_neg_one_of_neg hneg,<-hm2];rw[show (-1:Int)*(k*(g:Int))=(-k)*(g:Int) by rw[Int.neg_mul,qQ6,Int.neg_mul]];exact(qQw _ (by omega)).symm
  have e2:fq n (-(g:Int))=(q.den:Int):=by
   have:fq ((-l)*(-(g:Int))) (-(g:Int))=-l:=qt2 (by omega);rw[show (-l)*(-(g:Int))=n by rw[qQl];exact hn2] at this;rw[this,hden];have h3:(n.natAbs:Int)=(-l)*(g:Int):=by rw[Int.neg_mul];omega
   rw[Int.natCast_ediv,h3,qQw _ (by omega)]
  have P1:=q4m m (-(g:Int)) (by omega) hm' (by rw[qtl];exact hgl);have P2:=q4m n (-(g:Int)) (by omega) hn' (by rw[qtl];exact hgl);rw[e1] at P1;rw[e2] at P2;simp only[STD,hS,hB,hneg,hT,P1,P2] at fin ⊢;exact fin
 ·have e1:fq m (g:Int)=q.num:=by have:fq (k*(g:Int)) (g:Int)=k:=qt2 (by omega);rw[hm2] at this;rw[this,hnum,Int.sign_eq_one_of_pos (by omega),qQ6,<-hm2];exact(qQw _ (by omega)).symm
  have e2:fq n (g:Int)=(q.den:Int):=by
   have:fq (l*(g:Int)) (g:Int)=l:=qt2 (by omega);rw[hn2] at this;rw[this,hden];have h3:(n.natAbs:Int)=l*(g:Int):=by omega
   rw[Int.natCast_ediv,h3,qQw _ (by omega)]
  have P1:=q4m m (g:Int) (by omega) hm' hgl;have P2:=q4m n (g:Int) (by omega) hn' hgl;rw[e1,q1x] at P1;rw[e2,q1x] at P2;simp only[STD,hS,hB,hneg,P1,P2] at fin ⊢;rw[q1x] at fin;exact fin
def sm(K:Nat)(q:Rat):Prop:=qn q<=K/\qd q<=K
theorem qIM(a:Rat):(0:Int)<(a.den:Int):=by have:=a.den_nz;omega
theorem q9r{a b:Rat}(ha:sm 100000 a)(hb:sm 100000 b):(zP [.s (tQ a),.s (tQ b)]).run=some (0,[.s (tQ (a+b))]):=by
 rw[qzo];obtain⟨h1,h2⟩:=ha;obtain⟨h3,h4⟩:=hb;have hc:=qjB a b (by omega) (by omega) (by omega) (by omega);simp only[qn,qd] at h1 h2 h3 h4;have l1:=uB a.num b.den;have l2:=uB b.num a.den;have l3:=uB a.den b.den;rw[qjE] at l1 l2 l3;rw[qjE] at l3;have l4:=qAG (a.num*b.den) (b.num*a.den);have hP:=qsh (a.num*b.den) (b.num*a.den) (by omega) (by omega);have hL:=qsX (a.num*b.den+b.num*a.den) (a.den*b.den) (by have:=Int.mul_pos (qIM a) (qIM b);omega) (by omega) (by omega);have e:Rat.divInt (a.num*b.den+b.num*a.den) ((a.den:Int)*(b.den:Int))=a+b:=by rw[Rat.add_def',<-Rat.divInt_ofNat];simp
 rw[e] at hL;simp only[STD,hc,cS,zJ,qg,qPg,qPu,Int.toNat_zero,qQf,U.toS,show (1:Int).toNat=1 from rfl,show (2:Int).toNat=2 from rfl,List.getD_cons_succ,hP,hL];simp[]
theorem q6T{a b:Rat}(ha:sm 100000 a)(hb:sm 100000 b):(vG [.s (tQ a),.s (tQ b)]).run=some (0,[.s (tQ (a-b))]):=by
 rw[qwS];obtain⟨h1,h2⟩:=ha;obtain⟨h3,h4⟩:=hb;have hc:=qjB a b (by omega) (by omega) (by omega) (by omega);simp only[qn,qd] at h1 h2 h3 h4;have l1:=uB a.num b.den;have l2:=uB b.num a.den;have l3:=uB a.den b.den;rw[qjE] at l1 l2 l3;rw[qjE] at l3;have l4:=qDR (a.num*b.den) (b.num*a.den);have hP:=qbw (a.num*b.den) (b.num*a.den) (by omega) (by omega);have hL:=qsX (a.num*b.den-b.num*a.den) (a.den*b.den) (by have:=Int.mul_pos (qIM a) (qIM b);omega) (by omega) (by omega);have e:Rat.divInt (a.num*b.den-b.num*a.den) ((a.den:Int)*(b.den:Int))=a-b:=by rw[Rat.sub_def',<-Rat.divInt_ofNat];simp
 rw[e] at hL;simp only[STD,hc,cS,zJ,qg,qPg,qPu,Int.toNat_zero,qQf,U.toS,show (1:Int).toNat=1 from rfl,show (2:Int).toNat=2 from rfl,List.getD_cons_succ,hP,hL];simp[]
theorem q3A{a b:Rat}(ha:sm 100000 a)(hb:sm 100000 b):(za [.s (tQ a),.s (tQ b)]).run=some (0,[.s (tQ (a*b))]):=by
 rw[qwl];obtain⟨h1,h2⟩:=ha;obtain⟨h3,h4⟩:=hb;have hc:=qjB a b (by omega) (by omega) (by omega) (by omega);simp only[qn,qd] at h1 h2 h3 h4;have l1:=uB a.num b.num;have l3:=uB a.den b.den;rw[qjE,qjE] at l3;have hL:=qsX (a.num*b.num) (a.den*b.den) (by have:=Int.mul_pos (qIM a) (qIM b);omega) (by omega) (by omega);have e:Rat.divInt (a.num*b.num) ((a.den:Int)*(b.den:Int))=a*b:=by rw[Rat.mul_def',<-Rat.divInt_ofNat];simp
 rw[e] at hL;simp only[STD,hc,cS,zJ,qg,qPg,qPu,U.toS,show (3:Int).toNat=3 from rfl,show (2:Int).toNat=2 from rfl,List.getD_cons_succ,qQf,hL];simp[]
theorem qFw{a b:Rat}(hb0:b≠0)(ha:sm 100000 a)(hb:sm 100000 b):(qgu [.s (tQ a),.s (tQ b)]).run=some (0,[.s (tQ (a/b))]):=by
 rw[qD1];obtain⟨h1,h2⟩:=ha;obtain⟨h3,h4⟩:=hb;have hc:=qjB a b (by omega) (by omega) (by omega) (by omega);simp only[qn,qd] at h1 h2 h3 h4;have l1:=uB a.num b.den;have l3:=uB a.den b.num;rw[qjE] at l1 l3;have hbn:b.num≠0:=fun h=>hb0 (Rat.num_eq_zero.1 h);have hL:=qsX (a.num*b.den) (a.den*b.num) (by have:=qIM a;exact Int.mul_ne_zero (by omega) hbn) (by omega) (by omega);have e:Rat.divInt (a.num*b.den) ((a.den:Int)*b.num)=a/b:=by rw[Rat.div_def,Rat.inv_def,<-Rat.divInt_mul_divInt,Rat.num_divInt_den]
 rw[e] at hL;simp only[STD,hc,cS,zJ,qg,qPg,qPu,U.toS,Int.toNat_zero,show (4:Int).toNat=4 from rfl,List.getD_cons_succ,qQf,hL];simp[]
theorem qpa{a b:Rat}(ha:sm 100000 a)(hb:sm 100000 b):(yx [.s (tQ a),.s (tQ b)]).run=some (0,[.i (sgq (a-b))]):=by rw[qvN];obtain⟨h1,h2⟩:=ha;obtain⟨h3,h4⟩:=hb;have hc:=qjB a b (by omega) (by omega) (by omega) (by omega);simp only[qn,qd] at h1 h2 h3 h4;have l1:=uB a.num b.den;have l2:=uB b.num a.den;rw[qjE] at l1 l2;have hP:=qoB (a.num*b.den) (b.num*a.den) (by omega) (by omega);rw[<-qLm] at hP;simp only[STD,hc,cS,zJ,qg,qPg,qPu,U.toS,Int.toNat_zero,show (1:Int).toNat=1 from rfl,List.getD_cons_succ,qQf,hP];simp[]
theorem qwu{a:Rat}(ha:sm 100000 a):(kG [.s (tQ a)]).run=some (0,[.i (sgq a)]):=by rw[qv8];obtain⟨h1,h2⟩:=ha;have hP:=qoB a.num 0 (by unfold qn at h1;omega) (by decide);rw[Int.sub_zero,show tI 0=[48] from rfl] at hP;simp only[STD,qyH a (by omega) (by omega),hP];rfl
variable {n:Nat}
def mv:List Int->Int
 | []=>0
 | x::l=>x+1000000000*mv l
def pB(n:Nat):Int:=1000000000^n
theorem q78:pB 0=1:=rfl
theorem qdA (n:Nat):pB (n+1)=pB n*1000000000:=Int.pow_succ _ _
theorem qeB:∀n,0<pB n
 | 0=>by decide
 | n+1=>by rw[qdA];have:=qeB n;omega
theorem qN7 (m n:Nat):pB (m+n)=pB m*pB n:=Int.pow_add _ _ _
theorem qf0 {m n:Nat}(h:m<=n):pB m<=pB n:=by
 obtain⟨k,rfl⟩:∃k,n=m+k:=⟨n-m,by omega⟩;induction k with
 | zero=>simp
 | succ k ih=>
  have h1:=ih (by omega);rw[show m+(k+1)=(m+k)+1 by omega,qdA];have:=qeB (m+k);omega
def dgs(l:List Int):Prop:=∀x,x∈l->0<=x/\x<1000000000
theorem qDq:∀(l:List Int) (j:Nat) (h:j<l.length) (y:Int),mv (l.set j y)=mv l+(y-l[j])*pB j
 | [],j,h,_=>by simp at h
 | x::l,0,_,y=>by simp only[qP1,mv,List.getElem_cons_zero,q78];omega
 | x::l,j+1,h,y=>by
  have ih:=qDq l j (by simpa using h) y;simp only[qP3,mv,List.getElem_cons_succ,qdA];rw[ih];grind
theorem qFn:∀(l:List Int) (n:Nat),dgs l->(∀i,n<=i->l.getD i 0=0)->0<=mv l/\mv l<pB n
 | [],n,_,_=>⟨qPr _,qeB n⟩
 | x::l,0,hd,hz=>by
  have ih:=qFn l 0 (fun y hy=>hd y (qPc _ hy)) (fun i _=>by have:=hz (i+1) (by omega);simpa using this);have hx:x=0:=by simpa using hz 0 (by omega)
  rw[q78] at ih ⊢;simp only[mv];omega
 | x::l,n+1,hd,hz=>by
  have ih:=qFn l n (fun y hy=>hd y (qPc _ hy)) (fun i hi=>by have:=hz (i+1) (by omega);simpa using this);have hx:=hd x qP8;rw[qdA];simp only[mv];generalize pB n=p at *;omega
theorem qMK:∀(l:List Int) (j:Nat) (h:j<l.length),dgs l->l[j]≠0->pB j<=mv l
 | [],j,h,_,_=>by simp at h
 | x::l,0,_,hd,hx=>by
  have h1:=hd x qP8;have h2:=(qFn l l.length (fun y hy=>hd y (qPc _ hy)) (fun i hi=>by simp[hi])).1;simp only[List.getElem_cons_zero] at hx;simp only[mv,q78];omega
 | x::l,j+1,h,hd,hx=>by
  have ih:=qMK l j (by simpa using h) (fun y hy=>hd y (qPc _ hy)) (by simpa using hx);have h1:=hd x qP8;rw[qdA];simp only[mv];omega
theorem qE1:∀(s t:List Int),mv (s++t)=mv s+pB s.length*mv t
 | [],t=>by simp[mv,q78]
 | x::s,t=>by
  simp only[qQb,mv,qPg,qdA];rw[qE1 s t];grind
theorem qhl (n:Nat):mv (List.replicate n 0)=0:=by
 induction n with
 | zero=>rfl
 | succ n ih=>simp[qQa,mv,ih]
theorem qf5 {l:List Int}{i:Nat}(h:i<l.length):mv (l.drop i)=l[i]+1000000000*mv (l.drop (i+1)):=by rw[List.drop_eq_getElem_cons h];rfl
theorem wU {l:List Int}{n i:Nat}(hd:dgs l)(hz:∀i,n<=i->l.getD i 0=0)(hi:n<=i):mv (l.drop i)=0:=by have:=qFn (l.drop i) 0 (fun x hx=>hd x (qQU hx)) (fun j _=>by have:=hz (i+j) (by omega);simpa[qOM] using this);rw[q78] at this;omega
structure WOK (n:Nat) (l:List Int):Prop where
 len:l.length=232
 le:n<=232
 dig:dgs l
 z:∀i,n<=i->l.getD i 0=0
def nrm(n:Nat)(l:List Int):Prop:=n=0\/l.getD (n-1) 0≠0
theorem WOK.bd {l:List Int}(h:WOK n l):0<=mv l/\mv l<pB n:=qFn l n h.dig h.z
theorem WOK.lo {l:List Int}(h:WOK n l)(hn:nrm n l)(h0:n≠0):pB (n-1)<=mv l:=by
 have h1:=h.le;have h2:=h.len;rcases hn with hn|hn
 ·exact absurd hn h0
 ·refine qMK l (n-1) (by omega) h.dig ?_
  rwa [jw (by omega)] at hn
theorem qAq (N i:Nat):(List.replicate N (0:Int)).getD i 0=0:=by rw[qOM,List.getElem?_replicate];split<;>rfl
theorem qGw (N:Nat):dgs (List.replicate N 0):=fun x hx=>by have:=(qQW.1 hx).2;omega
theorem WOK.zero:WOK 0 (List.replicate 232 0):=⟨List.length_replicate,by omega,qGw 232,fun i _=>qAq 232 i⟩
theorem WOK.get {l:List Int}(h:WOK n l)(i:Nat):0<=l.getD i 0/\l.getD i 0<1000000000:=by
 rcases qOT i l.length with hi|hi
 ·rw[jw hi];exact h.dig _ (qPx hi)
 ·simp[hi]
theorem WOK.setW {l:List Int}(h:WOK n l){j:Nat}{y:Int}(hj:j<232)(hy:0<=y/\y<1000000000):WOK (max n (j+1)) (l.set j y):=by
 have h1:=h.le;refine⟨by simp[h.len],by omega,fun x hx=>?_,fun i hi=>?_⟩
 ·rcases qR1 hx with hx|rfl
  ·exact h.dig x hx
  ·exact hy
 ·have:=h.z i (by omega);rw[qOM,qOO (by omega),<-qOM];exact this
theorem q67 (l:List Int)(i:Nat):cI (rI l) (i:Int) 0=l.getD i 0:=by rw[qG6,qOX]
theorem qmS (l:List Int)(i:Nat)(v:Int):qcN (rI l) (i:Int) 0 [.i v]=rI (l.set i v):=by rw[qB6,qOX]
theorem qpE {l:List Int}(h:WOK n l)(b:Bool):∃m,(qO [.b b,.i (n:Int),.r (rI l)]).run=some (0,[.b b,.i ((m:Nat):Int),.r (rI l)])/\WOK m l/\nrm m l:=by
 rw[qkc];have h232:=h.le;obtain⟨j,qs,h1,rfl,m,rfl,h3,h4⟩:=jn (S:=j7) (fun k ps=>ps=[.b b,.i (k:Int),.r (rI l)]/\WOK k l)
  (fun j qs=>j=0/\∃m:Nat,qs=[.b b,.i (m:Int),.r (rI l)]/\WOK m l/\nrm m l) (n:=n) (by omega) (fun k ps hk ⟨hps,hw⟩=>by
  subst hps;rw[qib];have hk2:=hw.le;by_cases h0:k=0
  ·right;refine⟨0,_,?_,rfl,k,rfl,hw,.inl h0⟩;simp only[STD,h0];rfl
  ·have hs:wo .i64 (k:Int) 1=((k-1:Nat):Int):=by rw[ze (by omega)];omega
   have a1:(0:Int)<(k:Int):=by omega
   have a2:(0:Int)<=((k-1:Nat):Int)/\((k-1:Nat):Int)<232:=by omega
   by_cases hz:l.getD (k-1) 0=0
   ·left;refine⟨k-1,[.b b,.i ((k-1:Nat):Int),.r (rI l)],by omega,?_,rfl,hw.len,by omega,hw.dig,fun i hi=>?_⟩
    ·simp only[STD,a1,hs,a2,q67,hz,and_self]
    ·rcases qQm hi with e|e
     ·rw[<-e];exact hz
     ·exact hw.z i (by omega)
   ·right;refine⟨0,[.b b,.i (k:Int),.r (rI l)],?_,rfl,k,rfl,hw,.inr hz⟩;simp only[STD,a1,hs,a2,q67,hz,and_self]) (ps:=[.b b,.i (n:Int),.r (rI l)]) ⟨rfl,h⟩
 exact⟨m,by simp only[STD,h1],h3,h4⟩
theorem qMY (s:Int):∃q r:Int,s.tdiv 1000000000=q/\s=q*1000000000+r/\(0<=s->0<=r)/\(s<=0->r<=0)/\-1000000000<r/\r<1000000000:=by obtain⟨h1,h2,h3,h4⟩:=qqp s (show (1000000000:Int)≠0 by decide);refine⟨_,qdN s 1000000000,rfl,by omega,h3,h4,by omega,by omega⟩
theorem qEu {f up rest:Int}{i n j:Nat}{l ly:List Int}{bx b2:Bool}{ny:Nat}{S:Int}(hj:((j:Nat):Int)=qo .i64 (i:Int) up)(hj2:j<232)(hw:WOK n l)(hin:i<233)(hS:S=if i<ny then l.getD j 0+rest+f*ly.getD i 0 else l.getD j 0+rest) (hr:-1000000000<=rest/\rest<=1000000000) (hfy:-999999999999999999<=f*ly.getD i 0/\f*ly.getD i 0<=999999999999999999) (hny:ny<=232)(hgo:i<ny\/rest≠0) :∃q s:Int,S=q*1000000000+s/\0<=s/\s<1000000000 /\(vW [.i f,.i up,.i rest,.i (i:Int),.b bx,.i (n:Int),.r (rI l),.b b2,.i (ny:Int),.r (rI ly)]).run=some (0,[.i f,.i up,.i q,.i ((i+1:Nat):Int),.b bx,.i ((max n (j+1):Nat):Int),.r (rI (l.set j s)),.b b2,.i (ny:Int),.r (rI ly)]):=by
 have hg:=hw.get j;obtain⟨q,r,e1,e2,e3,e4,e5,e6⟩:=qMY S;have hSb:-1000000000999999999<=S/\S<=1000000001999999998:=by rw[hS];split<;>omega
 have w1:qev .i64 S 1000000000=q:=by unfold qev;rw[e1];unfold IntKind.wrap;simp[IntKind.signed,IntKind.bits];omega
 have w2:wd .i64 q 1000000000=q*1000000000:=uK (by omega);have w3:wo .i64 S (q*1000000000)=r:=by rw[ze (by omega)];omega
 have w4:qo .i64 (l.getD j 0) rest=l.getD j 0+rest:=qK (by omega);have w5:qo .i64 (i:Int) 1=((i+1:Nat):Int):=by rw[qK (by omega)];omega
 have w6:qo .i64 (j:Int) 1=((j+1:Nat):Int):=by rw[qK (by omega)];omega
 have w7:qzG (n:Int) ((j+1:Nat):Int)=((max n (j+1):Nat):Int):=qz0 _ _;have a1:(0:Int)<=(j:Int)/\(j:Int)<232:=by omega
 have hw8:r<0->qo .i64 r 1000000000=r+1000000000:=fun _=>qK (by omega);have hw9:r<0->wo .i64 q 1=q-1:=fun _=>ze (by omega);rw[q9z];by_cases hi:i<ny
 ·rw[if_pos hi] at hS;have a2:(i:Int)<(ny:Int):=by omega
  have a3:(0:Int)<=(i:Int)/\(i:Int)<232:=by omega
  have w10:wd .i64 f (ly.getD i 0)=f*ly.getD i 0:=uK (by omega);have w11:qo .i64 (l.getD j 0+rest) (f*ly.getD i 0)=S:=by rw[qK (by omega),hS]
  by_cases hneg:r<0
  ·refine⟨q-1,r+1000000000,by omega,by omega,by omega,?_⟩;simp only[STD,a2,<-hj,a1,a3,q67,w4,w10,w11,w1,w2,w3,hneg,hw8 hneg,hw9 hneg,w5,w6,w7,qmS,and_self]
  ·refine⟨q,r,by omega,by omega,by omega,?_⟩;simp only[STD,a2,<-hj,a1,a3,q67,w4,w10,w11,w1,w2,w3,hneg,w5,w6,w7,qmS,and_self]
 ·rw[if_neg hi] at hS;have hr0:rest≠0:=hgo.resolve_left hi;have a2:¬(i:Int)<(ny:Int):=by omega
  rw[<-hS] at w4;by_cases hneg:r<0
  ·refine⟨q-1,r+1000000000,by omega,by omega,by omega,?_⟩;simp only[STD,a2,hr0,<-hj,a1,q67,w4,w1,w2,w3,hneg,hw8 hneg,hw9 hneg,w5,w6,w7,qmS,and_self]
  ·refine⟨q,r,by omega,by omega,by omega,?_⟩;simp only[STD,a2,hr0,<-hj,a1,q67,w4,w1,w2,w3,hneg,w5,w6,w7,qmS,and_self]
theorem qtC {f:Int}{up nx ny:Nat}{lx ly:List Int}(hx:WOK nx lx)(hy:WOK ny ly)(hf:-999999999<=f/\f<=999999999)(hup:ny+up<=232){T:Int}(hT:T=mv lx+f*mv ly*pB up)(h0:0<=T)(h1:T<pB 232)(bx b2:Bool) :∃(n:Nat) (l:List Int),(qR [.i f,.i (up:Int),.b bx,.i (nx:Int),.r (rI lx),.b b2,.i (ny:Int),.r (rI ly)]).run=some (0,[.b bx,.i (n:Int),.r (rI l),.b b2,.i (ny:Int),.r (rI ly)])/\WOK n l/\nrm n l/\mv l=T:=by
 rw[qn3];have hny:=hy.le;obtain⟨j,qs,g1,rfl,n,l,rfl,g3,g4⟩:=jn (S:=vW) (fun k ps=>∃(i n:Nat) (rest:Int) (l:List Int),ps=[.i f,.i (up:Int),.i rest,.i (i:Int),.b bx,.i (n:Int),.r (rI l),.b b2,.i (ny:Int),.r (rI ly)] /\
   i+k=300/\i<=232/\WOK n l/\-1000000000<=rest/\rest<=1000000000/\mv l+rest*pB (i+up)+f*mv (ly.drop i)*pB (i+up)=T)
  (fun j qs=>j=0/\∃(n:Nat) (l:List Int),qs=[.b bx,.i (n:Int),.r (rI l),.b b2,.i (ny:Int),.r (rI ly)]/\WOK n l/\mv l=T) (n:=300) (by omega) (fun k ps hk ⟨i,n,rest,l,hps,hik,hi,hw,hr1,hr2,hv⟩=>by
  subst hps;have hg:=hy.get i;have hfy:=qNQ (A:=999999999) (B:=999999999) hf.1 hf.2 (show -(999999999:Int)<=ly.getD i 0 by omega) (show ly.getD i 0<=999999999 by omega);have hbd:=hw.bd;have hn232:=hw.le;by_cases hgo:i<ny\/rest≠0
  ·left;have hj:i+up<232:=by
    rcases qOT i ny with h|h
    ·omega
    ·rcases qOT (i+up) 232 with h2|h2
     ·exact h2
     ·exfalso;have hr0:=hgo.resolve_left (by omega);rw[wU hy.dig hy.z h] at hv;have hP:=qf0 h2;have hlt:=qf0 hn232;simp only[Int.mul_zero,Int.zero_mul,Int.add_zero] at hv;generalize pB (i+up)=P at *;rcases Int.lt_or_lt_of_ne hr0 with h3|h3
      ·have:rest*P<=-1*P:=qQH (by omega) (by have:=qeB 232;omega);omega
      ·have:1*P<=rest*P:=qQH (by omega) (by have:=qeB 232;omega);omega
   have hjw:(((i+up:Nat)):Int)=qo .i64 (i:Int) (up:Int):=by rw[qK (by omega)];omega
   obtain⟨q,s,s1,s2,s3,s4⟩:=qEu (bx:=bx) (b2:=b2) (f:=f) (ly:=ly) hjw hj hw (by omega) rfl ⟨hr1,hr2⟩ (by omega) hny hgo;refine⟨k-1,_,by omega,s4,i+1,_,q,_,rfl,by omega,by omega,hw.setW hj ⟨s2,s3⟩,?_,?_,?_⟩
   ·have hgl:=hw.get (i+up);split at s1<;>omega
   ·have hgl:=hw.get (i+up);split at s1<;>omega
   ·have hjl:i+up<l.length:=by rw[hw.len];exact hj
    rw[qDq l (i+up) hjl,<-hv,show i+1+up=(i+up)+1 by omega,qdA];rw[jw hjl] at s1;have hil:i<ly.length:=by rw[hy.len];omega
    rw[qf5 hil];rw[jw hil] at s1;generalize pB (i+up)=P at *;generalize l[i+up]=d at *;by_cases hiny:i<ny
    ·rw[if_pos hiny] at s1;generalize ly[i]=y at *;generalize mv (ly.drop (i+1))=m at *;grind
    ·rw[if_neg hiny] at s1;have z1:ly[i]=0:=by rw[<-jw hil];exact hy.z i (by omega)
     rw[z1,wU hy.dig hy.z (show ny<=i+1 by omega)];grind
  ·right;have c1:¬i<ny:=fun h=>hgo (.inl h);have c2:rest=0:=Decidable.byContradiction fun h=>hgo (.inr h);refine⟨0,[.b bx,.i (n:Int),.r (rI l),.b b2,.i (ny:Int),.r (rI ly)],?_,rfl,n,l,rfl,hw,?_⟩
   ·rw[q9z];have a2:¬(i:Int)<(ny:Int):=by omega
    simp only[STD,a2,c2]
   ·rw[wU hy.dig hy.z (by omega),c2] at hv;simp only[Int.mul_zero,Int.zero_mul,Int.add_zero] at hv;exact hv) (ps:=[.i f,.i (up:Int),.i 0,.i 0,.b bx,.i (nx:Int),.r (rI lx),.b b2,.i (ny:Int),.r (rI ly)])
  ⟨0,nx,0,lx,rfl,by omega,by omega,hx,by omega,by omega,by simp[hT]⟩
 obtain⟨m,t1,t2,t3⟩:=qpE g3 bx;exact⟨m,l,by simp only[STD,g1,t1],t2,t3,g4⟩
end Go.Eng

namespace Go.Eng
theorem qdU(l:List Int)(j:Nat)(h:j<=l.length):mv l=mv (l.take j)+pB j*mv (l.drop j):=by have:=qE1 (l.take j) (l.drop j);rw[qQX,qPJ,qPK h] at this;exact this
theorem qIR{l:List Int}(h:dgs l)(j:Nat):dgs (l.take j):=fun x hx=>h x (qQT hx)
theorem qbZ{l:List Int}(h:dgs l)(j:Nat):0<=mv (l.take j)/\mv (l.take j)<pB j:=
 qFn (l.take j) j (qIR h j) fun i hi=>by rw[qOM,qP7 (by simp;omega)];rfl
theorem qsg{l:List Int}{i:Nat}(h:i<l.length):mv (l.take (i+1))=mv (l.take i)+l[i]*pB i:=by rw[List.take_succ_eq_append_getElem h,qE1,qPJ,qPK (by omega)];simp only[mv];grind
theorem WOK.mono{n m:Nat}{l:List Int}(h:WOK n l)(hm:n<=m)(h2:m<=232):WOK m l:=⟨h.len,h2,h.dig,fun i hi=>h.z i (by omega)⟩
theorem qoy{n:Nat}{l:List Int}(h:WOK n l)(hn:nrm n l):(n=0)=(mv l=0):=by
 apply propext;constructor
 ·intro h0;have:=h.bd;rw[h0,q78] at this;omega
 ·intro h0;rcases qPT n with h1|h1
  ·exact h1
  ·have:=h.lo hn (by omega);have:=qeB (n-1);omega
theorem qO0{n m:Nat}{l k:List Int}(h:WOK n l)(hn:nrm n l)(h2:WOK m k)(hle:mv l<=mv k):n<=m:=by
 rcases qOT m n with h3|h3
 ·exfalso;have h4:=h.lo hn (by omega);have h5:=h2.bd.2;have h6:=qf0 (show m<=n-1 by omega);omega
 ·exact h3
theorem qEl{nx ny:Nat}{lx ly:List Int}(hx:WOK nx lx)(hnx:nrm nx lx)(hy:WOK ny ly)(hny:nrm ny ly)(bx b2:Bool) :∃r:Int,(wR [.b bx,.i (nx:Int),.r (rI lx),.b b2,.i (ny:Int),.r (rI ly)]).run=some (0,[.i r,.b bx,.i (nx:Int),.r (rI lx),.b b2,.i (ny:Int),.r (rI ly)])/\((0<=r)=(mv ly<=mv lx)):=by
 rw[qlK];have h1:=hx.le;have h2:=hy.le;by_cases hne:nx=ny
 ·subst hne;have hs:wo .i64 (nx:Int) 1=(nx:Int)-1:=ze (by omega);obtain⟨j,qs,g1,g2⟩:=jn (S:=jB) (fun k ps=>ps=[.i ((k:Int)-1),.b bx,.i (nx:Int),.r (rI lx),.b b2,.i (nx:Int),.r (rI ly)]/\k<=nx/\mv (lx.drop k)=mv (ly.drop k))
   (fun j qs=>(j=0/\qs=[.b bx,.i (nx:Int),.r (rI lx),.b b2,.i (nx:Int),.r (rI ly)]/\mv lx=mv ly)\/(j=1/\∃r:Int,qs=[.i r,.b bx,.i (nx:Int),.r (rI lx),.b b2,.i (nx:Int),.r (rI ly)]/\((0<=r)=(mv ly<=mv lx)))) (n:=nx) (by omega) (fun k ps hk ⟨hps,hkn,hd⟩=>by
   subst hps;rw[qj9];by_cases h0:k=0
   ·right;refine⟨0,_,?_,.inl ⟨rfl,rfl,?_⟩⟩
    ·have a:¬(0:Int)<=(k:Int)-1:=by omega
     simp only[STD,a]
    ·rw[h0] at hd;simpa using hd
   ·obtain⟨i,rfl⟩:∃i,k=i+1:=⟨k-1,by omega⟩;have e:(((i+1:Nat):Int)-1)=(i:Int):=by omega
    rw[e];have a1:(0:Int)<=(i:Int):=by omega
    have a2:(i:Int)<232:=by omega
    have gx:=hx.get i;have gy:=hy.get i;have hxl:i<lx.length:=by rw[hx.len];omega
    have hyl:i<ly.length:=by rw[hy.len];omega
    by_cases hc:lx.getD i 0=ly.getD i 0
    ·left;refine⟨i,[.i ((i:Int)-1),.b bx,.i (nx:Int),.r (rI lx),.b b2,.i (nx:Int),.r (rI ly)],by omega,?_,rfl,by omega,?_⟩
     ·have w:wo .i64 (i:Int) 1=(i:Int)-1:=ze (by omega);simp only[STD,a1,a2,and_self,q67,hc,w]
     ·rw[qf5 hxl,qf5 hyl,hd];rw[jw hxl,jw hyl] at hc;rw[hc]
    ·right;have w:wo .i64 (lx.getD i 0) (ly.getD i 0)=lx.getD i 0-ly.getD i 0:=ze (by omega);refine⟨1,[.i (lx.getD i 0-ly.getD i 0),.b bx,.i (nx:Int),.r (rI lx),.b b2,.i (nx:Int),.r (rI ly)],?_,.inr ⟨rfl,_,rfl,?_⟩⟩
     ·simp only[STD,a1,a2,and_self,q67,hc,w]
     ·have sx:=qdU lx i (by omega);have sy:=qdU ly i (by omega);rw[qf5 hxl] at sx;rw[qf5 hyl] at sy;have tx:=qbZ hx.dig i;have ty:=qbZ hy.dig i;rw[jw hxl,jw hyl] at hc ⊢;rw[hd] at sx;have hp:=qeB i;generalize pB i=P at *;generalize lx[i]=u at *;generalize ly[i]=v at *;generalize mv (ly.drop (i+1))=w at *;have e1:P*(u+1000000000*w)=P*u+P*(1000000000*w):=Int.mul_add _ _ _;have e2:P*(v+1000000000*w)=P*v+P*(1000000000*w):=Int.mul_add _ _ _;have e3:P*(u-v)=P*u-P*v:=Int.mul_sub _ _ _;apply propext;rcases Int.lt_or_lt_of_ne (show u-v≠0 by omega) with h|h
      ·have:P*(u-v)<=P*(-1):=qR3 (by omega) (by omega);constructor
       ·intro;omega
       ·intro;omega
      ·have:P*1<=P*(u-v):=qR3 (by omega) (by omega);constructor
       ·intro;omega
       ·intro;omega) (ps:=[.i ((nx:Int)-1),.b bx,.i (nx:Int),.r (rI lx),.b b2,.i (nx:Int),.r (rI ly)])
   ⟨rfl,qON _,by rw[wU hx.dig hx.z (qON _),wU hy.dig hy.z (qON _)]⟩
  rcases g2 with⟨rfl,rfl,g2⟩|⟨rfl,r,rfl,g2⟩
  ·refine⟨0,?_,?_⟩
   ·simp only[STD,hs,g1,zm g1]
   ·apply propext;simp;omega
  ·refine⟨r,?_,g2⟩;simp only[STD,hs,g1,zm g1,show ¬(1=0) by omega]
 ·have hs:wo .i64 (nx:Int) (ny:Int)=(nx:Int)-(ny:Int):=ze (by omega);refine⟨(nx:Int)-(ny:Int),?_,?_⟩
  ·have a:¬(nx:Int)=(ny:Int):=by omega
   simp only[STD,a,hs]
  ·apply propext;have b1:=hx.bd;have b2:=hy.bd;rcases Nat.lt_or_gt_of_ne hne with h|h
   ·have:=hy.lo hny (by omega);have:=qf0 (show nx<=ny-1 by omega);constructor
    ·intro;omega
    ·intro;omega
   ·have:=hx.lo hnx (by omega);have:=qf0 (show ny<=nx-1 by omega);constructor
    ·intro;omega
    ·intro;omega
def sv(b:Bool)(l:List Int):Int:=if b then -mv l else mv l
theorem qKJ{nx ny:Nat}{lx ly:List Int}(hx:WOK nx lx)(hnx:nrm nx lx)(hy:WOK ny ly)(hny:nrm ny ly)(hb:mv lx+mv ly<pB 232)(bx b2:Bool) :∃(b:Bool) (n:Nat) (l:List Int),(wW [.b bx,.i (nx:Int),.r (rI lx),.b b2,.i (ny:Int),.r (rI ly)]).run=some (0,[.b b,.i (n:Int),.r (rI l),.b b2,.i (ny:Int),.r (rI ly)])/\WOK n l/\nrm n l/\sv b l=sv bx lx+sv b2 ly:=by
 rw[qoX];have h1:=hx.bd;have h2:=hy.bd;have l1:=hx.le;have l2:=hy.le;by_cases hs:bx=b2
 ·subst hs;obtain⟨n,l,g1,g2,g3,g4⟩:=qtC (f:=1) (up:=0) hx hy (by omega) (by omega) (T:=mv lx+mv ly) (by rw[q78];omega) (by omega) hb bx bx;refine⟨bx,n,l,?_,g2,g3,?_⟩
  ·simp only[STD,show ((0:Nat):Int)=0 from rfl] at g1 ⊢;simp only[STD,g1]
  ·unfold sv;rw[g4];cases bx<;>simp<;>omega
 ·obtain⟨r,r1,r2⟩:=qEl hx hnx hy hny bx b2;by_cases hr:mv ly<=mv lx
  ·have hr':0<=r:=by rw[r2];exact hr
   obtain⟨n,l,g1,g2,g3,g4⟩:=qtC (f:=-1) (up:=0) hx hy (by omega) (by omega) (T:=mv lx-mv ly) (by rw[q78];omega) (by omega) (by omega) bx b2;refine⟨bx,n,l,?_,g2,g3,?_⟩
   ·simp only[show ((0:Nat):Int)=0 from rfl] at g1;simp only[STD,hs,r1,hr',g1]
   ·unfold sv;rw[g4];cases bx<;>cases b2<;>simp_all<;>omega
  ·have hr':¬0<=r:=by rw[r2];exact hr
   obtain⟨n,l,g1,g2,g3,g4⟩:=qtC (f:=-1) (up:=0) hy hx (by omega) (by omega) (T:=mv ly-mv lx) (by rw[q78];omega) (by omega) (by omega) b2 bx;refine⟨b2,n,l,?_,g2,g3,?_⟩
   ·simp only[show ((0:Nat):Int)=0 from rfl] at g1;simp only[STD,hs,r1,hr',g1]
   ·unfold sv;rw[g4];cases bx<;>cases b2<;>simp_all<;>omega
theorem qHN{x y:Int}{m n:Nat}(h0:0<=x)(h1:x<pB m)(h2:0<=y)(h3:y<=pB n):x*y<pB (m+n)\/y=0:=by
 rcases Int.lt_or_eq_of_le h2 with h|h
 ·left;rw[qN7];have e1:x*y<pB m*y:=Int.mul_lt_mul_of_pos_right h1 h;have e2:pB m*y<=pB m*pB n:=qR3 h3 (by omega);omega
 ·exact .inr h.symm
theorem qLf{nx ny:Nat}{lx ly:List Int}(hx:WOK nx lx)(hy:WOK ny ly)(hb:nx+ny<=232)(bx b2:Bool) :∃(n:Nat) (l:List Int),(kn [.b bx,.i (nx:Int),.r (rI lx),.b b2,.i (ny:Int),.r (rI ly)]).run=some (0,[.b bx,.i (nx:Int),.r (rI lx),.b b2,.i (ny:Int),.r (rI ly),.b (!(Go.Eng.beq bx b2)),.i (n:Int),.r (rI l)])/\WOK n l/\nrm n l/\mv l=mv lx*mv ly:=by
 rw[qn1];have hbx:=hx.bd;have e0:q4e 232 [.i 0]=rI (List.replicate 232 0):=qo7 232 0;obtain⟨j,qs,g1,rfl,n,l,rfl,g2,g3,g4⟩:=jn (S:=yi) (fun k ps=>∃(i n:Nat) (l:List Int),ps=[.i (ny:Int),.i (i:Int),.b bx,.i (nx:Int),.r (rI lx),.b b2,.i (ny:Int),.r (rI ly),.b (!(Go.Eng.beq bx b2)),.i (n:Int),.r (rI l)] /\
   i+k=ny/\WOK n l/\nrm n l/\mv l=mv lx*mv (ly.take i))
  (fun j qs=>j=0/\∃(n:Nat) (l:List Int),qs=[.b bx,.i (nx:Int),.r (rI lx),.b b2,.i (ny:Int),.r (rI ly),.b (!(Go.Eng.beq bx b2)),.i (n:Int),.r (rI l)]/\WOK n l/\nrm n l/\mv l=mv lx*mv ly) (n:=ny) (by omega) (fun k ps hk ⟨i,n,l,hps,hik,hw,hn,hv⟩=>by
  subst hps;rw[qkQ];by_cases hi:i<ny
  ·left;have hil:i<ly.length:=by rw[hy.len];omega
   have gy:=hy.get i;have tb:=qbZ hy.dig i;have tb2:=qbZ hy.dig (i+1);have hT:mv lx*mv (ly.take (i+1))=mv l+ly.getD i 0*mv lx*pB i:=by rw[qsg hil,hv,jw hil];grind
   have hlt:mv lx*mv (ly.take (i+1))<pB 232:=by
    rcases qHN (n:=i+1) hbx.1 hbx.2 tb2.1 (by omega) with h|h
    ·exact Int.lt_of_lt_of_le h (qf0 (by omega))
    ·rw[h,Int.mul_zero];exact qeB _
   obtain⟨n',l',c1,c2,c3,c4⟩:=qtC (f:=ly.getD i 0) (up:=i) hw hx (by omega) (by omega) hT (qQv hbx.1 tb2.1) hlt (!(Go.Eng.beq bx b2)) bx;have w:qo .i64 (i:Int) 1=((i+1:Nat):Int):=by rw[qK (by omega)];omega
   refine⟨k-1,_,by omega,?_,i+1,n',l',rfl,by omega,c2,c3,c4⟩;have a1:(i:Int)<(ny:Int):=by omega
   have a2:(0:Int)<=(i:Int)/\(i:Int)<232:=by omega
   simp only[STD,a1,a2,and_self,q67,c1,w]
  ·right;have hi2:i=ny:=by omega
   have a1:¬(i:Int)<(ny:Int):=by omega
   refine⟨0,[.b bx,.i (nx:Int),.r (rI lx),.b b2,.i (ny:Int),.r (rI ly),.b (!(Go.Eng.beq bx b2)),.i (n:Int),.r (rI l)],?_,rfl,n,l,rfl,hw,hn,?_⟩
   ·simp only[STD,a1]
   ·have:=qdU ly ny (by rw[hy.len];exact hy.le);rw[wU hy.dig hy.z (qON _),Int.mul_zero,Int.add_zero] at this;rw[hv,hi2,<-this])
  (ps:=[.i (ny:Int),.i 0,.b bx,.i (nx:Int),.r (rI lx),.b b2,.i (ny:Int),.r (rI ly),.b (!(Go.Eng.beq bx b2)),.i 0,.r (rI (List.replicate 232 0))])
  ⟨0,0,_,rfl,by omega,WOK.zero,.inl rfl,by rw[qhl];simp[mv]⟩
 refine⟨n,l,?_,g2,g3,g4⟩;simp only[e0];simp only[STD,g1]
theorem qFg{nx ny:Nat}{lx ly:List Int}(hx:WOK nx lx)(hnx:nrm nx lx)(hy:WOK ny ly)(hny:nrm ny ly)(h0:ny≠0)(hle:mv ly<=mv lx)(hlt:mv lx<pB (ny+1))(hn231:ny<=231)(bx b2:Bool) :∃k:Int,(q1z [.b bx,.i (nx:Int),.r (rI lx),.b b2,.i (ny:Int),.r (rI ly)]).run=some (0,[.i k,.b bx,.i (nx:Int),.r (rI lx),.b b2,.i (ny:Int),.r (rI ly)])/\1<=k/\k<=999999999/\k*mv ly<=mv lx:=by
 rw[qr1];obtain⟨m,rfl⟩:∃m,ny=m+1:=⟨ny-1,by omega⟩;have hxl:=hx.len;have hyl:=hy.len;have hnx1:m+1<=nx:=qO0 hy hny hx hle;have hnx2:nx<=m+2:=by
  rcases qOT (m+2) nx with h|h
  ·exfalso;have h1:=hx.lo hnx (by omega);have h2:=qf0 (show m+1+1<=nx-1 by omega);omega
  ·exact h
 have gx1:=hx.get m;have gx2:=hx.get (m+1);have gy:=hy.get m;have sx:=qdU lx m (by omega);have sy:=qdU ly m (by omega);rw[qf5 (show m<lx.length by omega),qf5 (show m+1<lx.length by omega),wU hx.dig hx.z (show nx<=m+1+1 by omega)] at sx;rw[qf5 (show m<ly.length by omega),wU hy.dig hy.z (qON _)] at sy;have tx:=qbZ hx.dig m;have ty:=qbZ hy.dig m;have hyn:ly.getD m 0≠0:=by
  rcases hny with h|h
  ·omega
  ·simpa using h
 have w1:wo .i64 ((m+1:Nat):Int) 1=(m:Int):=by rw[ze (by omega)];omega
 have c1:¬((m+1:Nat):Int)<0:=by omega
 have c2:¬(nx:Int)<=(m:Int):=by omega
 have c3:¬(m:Int)<0:=by omega
 have c4:¬((m+1:Nat):Int)<=(m:Int):=by omega
 have c5:(0:Int)<=(m:Int)/\(m:Int)<232:=by omega
 have c6:(0:Int)<=((m+1:Nat):Int)/\((m+1:Nat):Int)<232:=by omega
 have gex:lx[m]'(by omega)=lx.getD m 0:=(jw (by omega)).symm;have gex1:lx[m+1]'(by omega)=lx.getD (m+1) 0:=(jw (by omega)).symm;have gey:ly[m]'(by omega)=ly.getD m 0:=(jw (by omega)).symm;rw[gex,gex1] at sx;rw[gey] at sy;have hp:=qeB m;have key:∀a b:Int,a=lx.getD m 0+1000000000*lx.getD (m+1) 0->0<b->mv ly<=b*pB m->∀k,k=a/b->k*mv ly<=mv lx/\qo8 k 999999999*mv ly<=mv lx:=by
  intro a b ha hb hbY k hk;have hk0:0<=k:=by rw[hk];exact Int.ediv_nonneg (by omega) (by omega)
  have hkb:k*b<=a:=by rw[hk];exact Int.ediv_mul_le a (by omega)
  have hY:=(hy.bd).1;have f1:k*mv ly<=k*(b*pB m):=qR3 hbY hk0;have f2:k*b*pB m<=a*pB m:=qQH hkb (by omega);have f3:k*(b*pB m)=k*b*pB m:=(Int.mul_assoc _ _ _).symm;have f4:a*pB m=pB m*(lx.getD m 0+1000000000*(lx.getD (m+1) 0+1000000000*0)):=by rw[ha];grind
  have f5:k*mv ly<=mv lx:=by omega
  refine⟨f5,?_⟩;have:qo8 k 999999999<=k:=by unfold qo8;split<;>omega
  have:=qQH this hY;omega
 have wq:∀a b:Int,0<=a->a<1000000000000000000->0<b->qev .i64 a b=a/b:=by intro a b h1 h2 h3;unfold qev;rw[Int.tdiv_eq_ediv_of_nonneg h1];have q1:0<=a/b:=Int.ediv_nonneg h1 (by omega);have q2:a/b<=a:=Int.ediv_le_self _ h1;generalize a/b=q at *;unfold IntKind.wrap;simp[IntKind.signed,IntKind.bits];omega
 have fin:∀k:Int,(0<k->k*mv ly<=mv lx/\qo8 k 999999999*mv ly<=mv lx)->∃k':Int,(if 0<k then qo8 k 999999999 else 1)=k'/\1<=k'/\k'<=999999999/\k'*mv ly<=mv lx:=by
  intro k hk;by_cases h:0<k
  ·rw[if_pos h];refine⟨_,rfl,?_,?_,(hk h).2⟩
   ·unfold qo8;split<;>omega
   ·unfold qo8;split<;>omega
  ·rw[if_neg h];exact⟨1,rfl,by omega,by omega,by omega⟩
 by_cases hcase:nx<=m+1
 ·have c7:(nx:Int)<=((m+1:Nat):Int):=by omega
  have z1:lx.getD (m+1) 0=0:=hx.z _ (by omega);have wa:qo .i64 0 (lx.getD m 0)=lx.getD m 0:=by rw[qK (by omega)];omega
  by_cases hm:m=0
  ·subst hm;have c8:¬(1:Int)<((0+1:Nat):Int):=by omega
   have hq:=wq (lx.getD 0 0) (ly.getD 0 0) (by omega) (by omega) (by omega);have hbY:mv ly<=ly.getD 0 0*pB 0:=by rw[q78] at sy ty ⊢;omega
   obtain⟨k',f1,f2,f3,f4⟩:=fin (lx.getD 0 0/ly.getD 0 0) (fun _=>key _ _ (by rw[z1];omega) (by omega) hbY _ rfl);refine⟨k',?_,f2,f3,f4⟩;rw[<-f1];simp only[STD,c1,w1,c2,c3,c4,c5,c6,c7,c8,and_self,q67,wa,hyn,hq];split<;>rfl
  ·have c8:(1:Int)<((m+1:Nat):Int):=by omega
   have wb:qo .i64 (ly.getD m 0) 1=ly.getD m 0+1:=qK (by omega);have hq:=wq (lx.getD m 0) (ly.getD m 0+1) (by omega) (by omega) (by omega);have hbY:mv ly<=(ly.getD m 0+1)*pB m:=by
    have:(ly.getD m 0+1)*pB m=pB m*(ly.getD m 0+1000000000*0)+pB m:=by grind
    omega
   obtain⟨k',f1,f2,f3,f4⟩:=fin (lx.getD m 0/(ly.getD m 0+1)) (fun _=>key _ _ (by rw[z1];omega) (by omega) hbY _ rfl);refine⟨k',?_,f2,f3,f4⟩;rw[<-f1];have hne:¬ly.getD m 0+1=0:=by omega
   simp only[STD,c1,w1,c2,c3,c4,c5,c6,c7,c8,and_self,q67,wa,wb,hne,hq];split<;>rfl
 ·have c7:¬(nx:Int)<=((m+1:Nat):Int):=by omega
  have wm:wd .i64 (lx.getD (m+1) 0) 1000000000=lx.getD (m+1) 0*1000000000:=uK (by omega);have wa:qo .i64 (lx.getD (m+1) 0*1000000000) (lx.getD m 0)=lx.getD (m+1) 0*1000000000+lx.getD m 0:=qK (by omega);by_cases hm:m=0
  ·subst hm;have c8:¬(1:Int)<((0+1:Nat):Int):=by omega
   have hq:=wq (lx.getD (0+1) 0*1000000000+lx.getD 0 0) (ly.getD 0 0) (by omega) (by omega) (by omega);have hbY:mv ly<=ly.getD 0 0*pB 0:=by rw[q78] at sy ty ⊢;omega
   obtain⟨k',f1,f2,f3,f4⟩:=fin ((lx.getD (0+1) 0*1000000000+lx.getD 0 0)/ly.getD 0 0) (fun _=>key _ _ (by omega) (by omega) hbY _ rfl);refine⟨k',?_,f2,f3,f4⟩;rw[<-f1];simp only[STD,c1,w1,c2,c3,c4,c5,c6,c7,c8,and_self,q67,wm,wa,hyn,hq];split<;>rfl
  ·have c8:(1:Int)<((m+1:Nat):Int):=by omega
   have wb:qo .i64 (ly.getD m 0) 1=ly.getD m 0+1:=qK (by omega);have hq:=wq (lx.getD (m+1) 0*1000000000+lx.getD m 0) (ly.getD m 0+1) (by omega) (by omega) (by omega);have hbY:mv ly<=(ly.getD m 0+1)*pB m:=by
    have:(ly.getD m 0+1)*pB m=pB m*(ly.getD m 0+1000000000*0)+pB m:=by grind
    omega
   obtain⟨k',f1,f2,f3,f4⟩:=fin ((lx.getD (m+1) 0*1000000000+lx.getD m 0)/(ly.getD m 0+1)) (fun _=>key _ _ (by omega) (by omega) hbY _ rfl);refine⟨k',?_,f2,f3,f4⟩;rw[<-f1];have hne:¬ly.getD m 0+1=0:=by omega
   simp only[STD,c1,w1,c2,c3,c4,c5,c6,c7,c8,and_self,q67,wm,wa,wb,hne,hq];split<;>rfl
theorem qKt(u:Nat):Lib.decDigits u=tN u:=by
 induction u using Nat.strongRecOn with
 | _ u ih=>
  rw[Lib.decDigits];split
  ·rename_i h;rw[qAy h];rfl
  ·rename_i h;rw[ih (u/10) (by omega)];exact(qBK (n:=u) (by omega)).symm
theorem qCN(n:Int):Lib.itoa n=tI n:=by
 unfold Lib.itoa;by_cases h:n<0
 ·rw[if_pos h,qKt,qee h]
 ·rw[if_neg h,qKt,qne h];congr 1;omega
theorem qMW(n:Int)(h:-9223372036854775808<=n/\n<=9223372036854775807):(q4D [.i n]).run=some (0,[.s (tI n)]):=by show (qIn [.i n]).run=_;unfold qIn;simp only;rw[if_pos h,qCN];rfl
theorem qAS{c:UInt8}(h:48<=c.toNat/\c.toNat<=57):Lib.digitVal c=some (dv c):=by
 unfold Lib.digitVal dv
 simp_all
theorem qu7:∀{s:qOK} (a:Nat),q7P s->Lib.decFrom a s=some (a*10^s.length+val s)
 | [],a,_=>by simp[Lib.decFrom,val]
 | c::s,a,h=>by
  obtain⟨h1,h2⟩:=q0x.1 h;rw[Lib.decFrom,qAS h1];simp only;rw[qu7 _ h2,q79,qPg,qQ9];congr 1;grind
theorem qxf{s:qOK}(h:q7P s)(hn:s≠[]):Lib.decNat s=some (val s):=by unfold Lib.decNat;rw[if_neg (by simpa using hn),qu7 0 h];simp
theorem qAr{s:qOK}(h:q7P s)(hn:s≠[]):Lib.atoi s=some (val s:Int):=by
 obtain⟨c,t,e,h1,h2⟩:=qlm h hn;rw[e] at h ⊢;have n1:(c==45)=false:=by rw[beq_eq_false_iff_ne];intro hc;subst hc;revert h1;decide
 have n2:(c==43)=false:=by rw[beq_eq_false_iff_ne];intro hc;subst hc;revert h1;decide
 unfold Lib.atoi;simp only[n1,n2,qPo,if_false];rw[qxf h (by simp)];rfl
theorem qIB(m:Int):Lib.atoi (tI m)=some m:=by
 by_cases h:m<0
 ·rw[qee h];unfold Lib.atoi;simp only[beq_self_eq_true,if_true];rw[qxf (zM _) (qtF _),q0u];simp;omega
 ·rw[qne h,qAr (zM _) (qtF _),q0u];congr 1;omega
theorem qGR{s:qOK}{n:Int}(hl:s.length<=18)(h:Lib.atoi s=some n):(js [.s s]).run=some (0,[.i n]):=by show (qHl [.s s]).run=_;unfold qHl;simp only;rw[if_pos hl,h];rfl
theorem qDV:∀s:List UInt8,Lib.indexByte s 47=if sP s<s.length then (sP s:Int) else -1
 | []=>by simp[Lib.indexByte,sP]
 | c::s=>by
  have ih:=qDV s;have hle:=qLy s;unfold Lib.indexByte;by_cases h:c=47
  ·subst h;have:sP (47::s)=0:=qL1 (by simp) (by simp) (fun j hj=>by omega);rw[this];simp
  ·have hc:(c==47)=false:=by simpa using h
   have e:sP (c::s)=sP s+1:=by unfold sP;rw[List.findIdx_cons,hc];rfl
   rw[e];generalize sP s=k at *;have el:(c::s).length=s.length+1:=rfl;simp only[hc,el,ih,qPo,if_false];grind
theorem qLo(s:qOK):(vh [.s s,.s [47]]).run=some (0,[.i (if sP s<s.length then (sP s:Int) else -1)]):=by show (qzW [.s s,.s [47]]).run=_;unfold qzW;simp only;rw[<-qDV];rfl
theorem qDD:∀{s t:qOK},q7P s->q7P t->s.length=t.length->Lib.compareBytes s t=sgn ((val s:Int)-(val t:Int))
 | [],[],_,_,_=>by simp[Lib.compareBytes,val,sgn]
 | [],_::_,_,_,h=>by simp at h
 | _::_,[],_,_,h=>by simp at h
 | a::s,b::t,hs,ht,h=>by
  obtain⟨h1,h2⟩:=q0x.1 hs;obtain⟨h3,h4⟩:=q0x.1 ht;have hl:s.length=t.length:=by simpa using h
  have ih:=qDD h2 h4 hl;have v1:=q7Y h2;have v2:=q7Y h4;unfold Lib.compareBytes;rw[q79,q79,hl];rw[hl] at v1;have hp:0<10^t.length:=Nat.pow_pos (by omega);generalize 10^t.length=P at *;unfold dv;by_cases c1:a.toNat<b.toNat
  ·rw[if_pos (show a<b from c1)];have:(a.toNat-48+1)*P<=(b.toNat-48)*P:=qPb _ (by omega);rw[qP2,qQo] at this;unfold sgn;rw[if_pos (by omega)]
  ·rw[if_neg (show ¬a<b from c1)];by_cases c2:b.toNat<a.toNat
   ·rw[if_pos (show b<a from c2)];have:(b.toNat-48+1)*P<=(a.toNat-48)*P:=qPb _ (by omega);rw[qP2,qQo] at this;unfold sgn;rw[if_neg (by omega),if_neg (by omega)]
   ·rw[if_neg (show ¬b<a from c2),ih];have:a.toNat=b.toNat:=by omega
    rw[this];congr 1;omega
theorem qFc{s t:qOK}(hs:q7P s)(ht:q7P t)(h:s.length=t.length):(q3u [.s s,.s t]).run=some (0,[.i (sgn ((val s:Int)-(val t:Int)))]):=by show (qt0 [.s s,.s t]).run=_;unfold qt0;simp only;rw[qDD hs ht h];rfl
def qGg:List UInt8:=[48,49,50,51,52,53,54,55,56,57]
theorem qDX(c:UInt8):(qGg.contains c=true)↔(48<=c.toNat/\c.toNat<=57):=by
 constructor
 ·intro h;simp only[qGg,List.contains_eq_mem,qP5,List.not_mem_nil,or_false,decide_eq_true_eq] at h;rcases h with rfl|rfl|rfl|rfl|rfl|rfl|rfl|rfl|rfl|rfl<;>decide
 ·rintro ⟨h1,h2⟩;have hk:∃k,c=UInt8.ofNat k/\48<=k/\k<=57:=⟨c.toNat,by simp,h1,h2⟩;obtain⟨k,rfl,k1,k2⟩:=hk;have:k=48\/k=49\/k=50\/k=51\/k=52\/k=53\/k=54\/k=55\/k=56\/k=57:=by omega
  rcases this with rfl|rfl|rfl|rfl|rfl|rfl|rfl|rfl|rfl|rfl<;>decide
theorem qb8{p:UInt8->Bool}:∀{l:qOK},l.dropWhile p=[]↔∀x,x∈l->p x=true
 | []=>by simp
 | a::l=>by
  rw[List.dropWhile_cons];by_cases h:p a=true
  ·rw[if_pos h,qb8];simp[h]
  ·rw[if_neg h];simp[h]
theorem qlv(s:qOK):(Lib.trimS s qGg=[])=q7P s:=by
 apply propext;unfold Lib.trimS Lib.trimLeftS Lib.trimRightS;constructor
 ·intro h;have h1:∀c,c∈(s.reverse.dropWhile (qGg.contains ·)).reverse->qGg.contains c=true:=by intro c hc;have:=qb8.1 h c hc;simpa using this
  have h2:s.reverse.dropWhile (qGg.contains ·)=[]:=by
   cases hd:s.reverse.dropWhile (qGg.contains ·) with
   | nil=>rfl
   | cons c t=>
    exfalso;have h3:=List.head_dropWhile_not (p:=(qGg.contains ·)) (l:=s.reverse) (by rw[hd];simp);simp only[hd,List.head_cons] at h3;have:=h1 c (by rw[hd];simp);rw[this] at h3;cases h3
  intro c hc;have:=qb8.1 h2 c (by simpa using hc);exact(qDX c).1 (by simpa using this)
 ·intro h;have h2:s.reverse.dropWhile (qGg.contains ·)=[]:=by rw[qb8];intro c hc;exact(qDX c).2 (h c (by simpa using hc))
  rw[h2];rfl
theorem qMx(s:qOK)(hl:s.length<=9223372036854775807):(q8X [.s s,.s [48,49,50,51,52,53,54,55,56,57]]).run=some (0,[.s (Lib.trimS s qGg)]):=by show (qIo [.s s,.s qGg]).run=_;unfold qIo;simp only;rw[if_pos ⟨hl,by decide,by decide⟩];rfl
variable {n:Nat}
theorem qH5 (n:Nat):pB n=((10^(9*n):Nat):Int):=by unfold pB;rw[Nat.pow_mul];simp
theorem qEA:∀k:Nat,k<=9->qfh [48,48,48,48,48,48,48,48,48] (k:Int) 9=List.replicate (9-k) 48
 | 0,_=>rfl
 | 1,_=>rfl
 | 2,_=>rfl
 | 3,_=>rfl
 | 4,_=>rfl
 | 5,_=>rfl
 | 6,_=>rfl
 | 7,_=>rfl
 | 8,_=>rfl
 | 9,_=>rfl
 | n+10,h=>by omega
theorem qKY {v:Nat}(h:v<1000000000):q7P (qHr (tN v))/\(qHr (tN v)).length=9/\val (qHr (tN v))=v:=by
 have hl:(tN v).length<=9:=q2Y 8 v (by omega);have e:qHr (tN v)=List.replicate (9-(tN v).length) 48++tN v:=by unfold qHr qgU;rw[show qv (tN v)=((tN v).length:Int) from rfl,qEA _ hl]
 rw[e];refine⟨qbU.2 ⟨qrm _,zM v⟩,by simp;omega,by rw[qtX,q0u]⟩
theorem qxF{l:List Int}(hl:l.length=232)(hd:dgs l):∀i:Nat,i<=232->q7P (qoO (rI l) i)/\(qoO (rI l) i).length=9*i/\((val (qoO (rI l) i):Nat):Int)=mv (l.take i)
 | 0,_=>⟨qsZ,rfl,by simp[qoO,qho,mv]⟩
 | i+1,h=>by
  obtain⟨h1,h2,h3⟩:=qxF hl hd i (by omega);have hil:i<l.length:=by omega
  have hg:=hd _ (qPx hil);have e:cI (rI l) (i:Int) 0=l[i]:=by rw[q67,jw hil]
  have e2:Lib.itoa l[i]=tN l[i].toNat:=by rw[qCN,qne (by omega)];congr 1;omega
  obtain⟨p1,p2,p3⟩:=qKY (v:=l[i].toNat) (by omega);unfold qoO;rw[e,e2];refine⟨qbU.2 ⟨p1,h1⟩,by rw[qP6,p2,h2];omega,?_⟩;rw[qy1,p3,h2,qsg hil,qH5];simp only[qQF,qPz,h3];rw[qQD hg.1];omega
theorem qIP {l:List Int}(h:WOK n l)(hn:nrm n l)(b:Bool):qHJ b (n:Int) (rI l)=tI (sv b l):=by
 unfold qHJ;by_cases h0:n=0
 ·have h1:mv l=0:=by rw[<-qoy h hn];exact h0
  rw[if_pos (by omega)];unfold sv;rw[h1];cases b<;>rfl
 ·rw[if_neg (by omega)];obtain⟨m,rfl⟩:∃m,n=m+1:=⟨n-1,by omega⟩;have hle:=h.le;have hml:m<l.length:=by rw[h.len];omega
  have e1:(((m+1:Nat):Int)-1)=(m:Int):=by omega
  rw[e1,qOX,q67,jw hml];have hg:=h.dig _ (qPx hml);have e2:Lib.itoa l[m]=tN l[m].toNat:=by rw[qCN,qne (by omega)];congr 1;omega
  obtain⟨t1,t2,t3⟩:=qxF h.len h.dig m (by omega);have hnz:l[m]≠0:=by
   rcases hn with hn|hn
   ·omega
   ·rw[qR0,jw hml] at hn;exact hn
  have hlo:=h.lo hn h0;have hp:=qeB m;simp only[qR0] at hlo;have hv:((val (tN l[m].toNat++qoO (rI l) m):Nat):Int)=mv l:=by rw[qy1,q0u,t2,qdU l m (by omega),qf5 hml,wU h.dig h.z (qON _),qH5];simp only[qQF,qPz,t3];rw[qQD hg.1];grind
  have hT:tN l[m].toNat++qoO (rI l) m=tN (mv l).toNat:=by
   have hd:q7P (tN l[m].toNat++qoO (rI l) m):=qbU.2 ⟨zM _,t1⟩;have hne:tN l[m].toNat++qoO (rI l) m≠[]:=by simp[qtF]
   have hz:(tN l[m].toNat++qoO (rI l) m).getD 0 0≠48:=by
    have hv0:=q0u l[m].toNat;have hd0:=zM l[m].toNat;rcases qHk l[m].toNat with h1|h1
    ·obtain⟨c,e⟩:=List.length_eq_one_iff.1 h1;rw[e] at hv0 ⊢;simp only[qQb,qQf];intro hc;subst hc;rw[qCm] at hv0;simp[dv] at hv0;omega
    ·obtain⟨c,t,e,_⟩:=qlm hd0 (qtF _);rw[e] at h1 ⊢;simpa using h1
   have:=quR hd hne (.inr hz);rw[this];congr 1;omega
  rw[e2,qPj,hT];unfold sv;cases b
  ·rw[if_neg (by simp),if_neg (by simp),qne (by omega)];simp;congr 1;omega
  ·rw[if_pos rfl,if_pos rfl,qee (by omega)];simp;congr 1;omega
theorem qFA {l:List Int}(h:WOK n l):qze (n:Int) (rI l)=true:=by unfold qze;have:=h.le;simp only[qP0,decide_eq_true_eq,qPi,qPH];refine⟨⟨by omega,by omega⟩,fun i _=>?_⟩;have:=h.get i;rw[q67];exact this
theorem qEd {l:List Int}(h:WOK n l)(hn:nrm n l)(b:Bool):(zd [.b b,.i (n:Int),.r (rI l)]).run=some (0,[.s (tI (sv b l)),.b b,.i (n:Int),.r (rI l)]):=by show (qIC [.b b,.i (n:Int),.r (rI l)]).run=_;unfold qIC;simp only;rw[if_pos (qFA h),qIP h hn];rfl
end Go.Eng

namespace Go.Eng
theorem qJM{nr ny:Nat}{lr ly:List Int}(hr:WOK nr lr)(hnr:nrm nr lr)(hy:WOK ny ly)(hny:nrm ny ly)(h0:ny≠0)(hy231:ny<=231)(hlt:mv lr<mv ly*1000000000)(y0:Int)(xb:Bool)(xi:Int)(xr:R)(b2 qb:Bool)(qi:Int)(qr:R)(br:Bool) :∃(d:Int) (n:Nat) (l:List Int),(qf jI [.i y0,.i 0,.b xb,.i xi,.r xr,.b b2,.i (ny:Int),.r (rI ly),.b qb,.i qi,.r qr,.b br,.i (nr:Int),.r (rI lr)]).run = some (0,[.i y0,.i d,.b xb,.i xi,.r xr,.b b2,.i (ny:Int),.r (rI ly),.b qb,.i qi,.r qr,.b br,.i (n:Int),.r (rI l)])/\WOK n l/\nrm n l/\0<=d/\d<1000000000/\mv lr=d*mv ly+mv l/\mv l<mv ly:=by
 have hyp:0<mv ly:=by have:=hy.lo hny h0;have:=qeB (ny-1);omega
 have hyb:=hy.bd;obtain⟨j,qs,g1,rfl,d,n,l,rfl,g2⟩:=jn (S:=jI) (fun k ps=>∃(d:Int) (n:Nat) (l:List Int),ps=[.i y0,.i d,.b xb,.i xi,.r xr,.b b2,.i (ny:Int),.r (rI ly),.b qb,.i qi,.r qr,.b br,.i (n:Int),.r (rI l)] /\
   WOK n l/\nrm n l/\0<=d/\d+k=1000000000/\mv lr=d*mv ly+mv l)
  (fun j qs=>j=0/\∃(d:Int) (n:Nat) (l:List Int),qs=[.i y0,.i d,.b xb,.i xi,.r xr,.b b2,.i (ny:Int),.r (rI ly),.b qb,.i qi,.r qr,.b br,.i (n:Int),.r (rI l)]/\WOK n l/\nrm n l/\0<=d/\d<1000000000/\mv lr=d*mv ly+mv l/\mv l<mv ly) (n:=1000000000) (by omega)
  (fun k ps hk ⟨d,n,l,hps,hw,hn,hd0,hdk,hv⟩=>by
   subst hps;have hlb:=hw.bd;have hdlt:d<1000000000:=by
    rcases Int.lt_or_le d 1000000000 with h|h
    ·exact h
    ·have:=qQH h (show 0<=mv ly by omega);rw[qPU (mv ly)] at hlt;omega
   rw[qnO];obtain⟨r,r1,r2⟩:=qEl hw hn hy hny br b2;by_cases hle:mv ly<=mv l
   ·left;have hr0:0<=r:=by rw[r2];exact hle
    have hdm:=qQv hd0 (show 0<=mv ly by omega);have hl9:mv l<pB (ny+1):=by rw[qdA];omega
    obtain⟨q,e1,e2,e3,e4⟩:=qFg hw hn hy hny h0 hle hl9 hy231 br b2;obtain⟨n',l',c1,c2,c3,c4⟩:=qtC (f:=-q) (up:=0) hw hy (by omega) (by omega) (T:=mv l-q*mv ly) (by rw[q78,Int.mul_one,Int.neg_mul];omega) (by omega)
     (by have:=hlb.2;have:=qf0 hw.le;have:=qQv (show 0<=q by omega) (show 0<=mv ly by omega);omega) br b2
    have hq2:(d+q)*mv ly+(mv l-q*mv ly)=d*mv ly+mv l:=by rw[Int.add_mul];omega
    have hdq:d+q<1000000000:=by
     rcases Int.lt_or_le (d+q) 1000000000 with h|h
     ·exact h
     ·have:=qQH h (show 0<=mv ly by omega);rw[qPU (mv ly)] at hlt;omega
    have w1:wo .i64 0 q=-q:=qBT (by omega);have w2:qo .i64 d q=d+q:=qK (by omega);simp only[show ((0:Nat):Int)=0 from rfl] at c1;refine⟨(1000000000-(d+q)).toNat,[.i y0,.i (d+q),.b xb,.i xi,.r xr,.b b2,.i (ny:Int),.r (rI ly),.b qb,.i qi,.r qr,.b br,.i (n':Int),.r (rI l')],by omega,?_,d+q,n',l',rfl,c2,c3,by omega,by omega,by rw[c4];omega⟩;simp only[STD,r1,hr0,e1,w1,w2,c1]
   ·right;have hr0:¬0<=r:=by rw[r2];exact hle
    refine⟨0,_,?_,rfl,d,n,l,rfl,hw,hn,hd0,hdlt,hv,by omega⟩;simp only[STD,r1,hr0]) (ps:=[.i y0,.i 0,.b xb,.i xi,.r xr,.b b2,.i (ny:Int),.r (rI ly),.b qb,.i qi,.r qr,.b br,.i (nr:Int),.r (rI lr)]) ⟨0,nr,lr,rfl,hr,hnr,by omega,by omega,by omega⟩
 exact⟨d,n,l,g1,g2⟩
theorem qJQ{n:Nat}{l:List Int}{d:Int}(h:WOK n l)(hn:n<=231)(hd:0<=d/\d<1000000000) :qcN (qpL (rI l) 1 (rI l) 0 (qo8 (qC0 (n:Int) 0) (qC0 232 1))) 0 0 [.i d]=rI (d::(l.take n++l.drop (1+n)))/\WOK (n+1) (d::(l.take n++l.drop (1+n)))/\mv (d::(l.take n++l.drop (1+n)))=d+1000000000*mv l:=by
 have hlen:=h.len;have e1:qo8 (qC0 (n:Int) 0) (qC0 232 1)=(n:Int):=by unfold qo8 qC0;split<;>omega
 obtain⟨x,t,rfl⟩:∃x t,l=x::t:=by
  cases l with
  | nil=>simp at hlen
  | cons x t=>exact⟨x,t,rfl⟩
 refine⟨?_,⟨by simp;simp at hlen;omega,by omega,?_,?_⟩,?_⟩
 ·rw[e1];unfold qpL;have:(rI (x::t)).take (1:Int).toNat++((rI (x::t)).drop (0:Int).toNat).take (n:Int).toNat++(rI (x::t)).drop ((1:Int).toNat+(n:Int).toNat)=rI (x::((x::t).take n++(x::t).drop (1+n))):=by rw[qOX];simp[rI,List.map_take,List.map_drop]
  rw[this,show (0:Int)=((0:Nat):Int) from rfl,qmS];rfl
 ·intro y hy;rcases qP5.1 hy with rfl|hy
  ·exact hd
  ·rcases qPa.1 hy with hy|hy
   ·exact h.dig _ (qQT hy)
   ·exact h.dig _ (qQU hy)
 ·intro i hi;obtain⟨j,rfl⟩:∃j,i=j+1:=⟨i-1,by omega⟩;have hz:=h.z (j+1) (by omega);rw[qOM] at hz ⊢;rw[qPN,qP4 (by simp;omega)];rw[qPR,qPJ,qPK (by omega)];rw[show 1+n+(j-n)=j+1 by omega];exact hz
 ·show d+1000000000*mv _=_;rw[qE1,qPJ,qPK (by omega),wU h.dig h.z (show n<=1+n by omega)];have:=qdU (x::t) n (by omega);rw[wU h.dig h.z (qON n)] at this;omega
theorem qjP{nx ny:Nat}{lx ly:List Int}(hx:WOK nx lx)(hy:WOK ny ly)(hny:nrm ny ly)(h0:ny≠0)(hy231:ny<=231)(bx b2:Bool) :∃(nq:Nat) (lq:List Int) (nr:Nat) (lr:List Int),(ui [.b bx,.i (nx:Int),.r (rI lx),.b b2,.i (ny:Int),.r (rI ly)]).run = some (0,[.b bx,.i (nx:Int),.r (rI lx),.b b2,.i (ny:Int),.r (rI ly),.b false,.i (nq:Int),.r (rI lq),.b false,.i (nr:Int),.r (rI lr)])/\WOK nq lq/\nrm nq lq/\WOK nr lr/\nrm nr lr/\mv lx=mv lq*mv ly+mv lr/\mv lr<mv ly:=by
 rw[qsE];have hyp:0<mv ly:=by have:=hy.lo hny h0;have:=qeB (ny-1);omega
 have hx232:=hx.le;have e0:q4e 232 [.i 0]=rI (List.replicate 232 0):=qo7 232 0;have hxl:=hx.len;obtain⟨j,qs,g1,rfl,nq,lq,nr,lr,rfl,g2,g3,g4,g5,g6⟩:=jn (S:=q0A) (fun k ps=>∃(Q:Int) (nq:Nat) (lq:List Int) (nr:Nat) (lr:List Int),
   ps=[.i ((k:Int)-1),.b bx,.i (nx:Int),.r (rI lx),.b b2,.i (ny:Int),.r (rI ly),.b false,.i (nq:Int),.r (rI lq),.b false,.i (nr:Int),.r (rI lr)]/\k<=nx/\WOK nq lq/\WOK nr lr/\nrm nr lr/\mv (lx.drop k)=Q*mv ly+mv lr/\mv lr<mv ly/\mv lq=pB k*Q/\∀i,i<k->lq.getD i 0=0)
  (fun j qs=>j=0/\∃(nq:Nat) (lq:List Int) (nr:Nat) (lr:List Int),qs=[.b bx,.i (nx:Int),.r (rI lx),.b b2,.i (ny:Int),.r (rI ly),.b false,.i (nq:Int),.r (rI lq),.b false,.i (nr:Int),.r (rI lr)]/\WOK nq lq/\WOK nr lr/\nrm nr lr/\mv lx=mv lq*mv ly+mv lr/\mv lr<mv ly) (n:=nx) (by omega)
  (fun k ps hk ⟨Q,nq,lq,nr,lr,hps,hkn,hwq,hwr,hnr,hv,hlt,hq,hz⟩=>by
   subst hps;rw[qq8];rcases qPT k with rfl|hk0
   ·right;have a1:¬(0:Int)<=((0:Nat):Int)-1:=by omega
    refine⟨0,[.b bx,.i (nx:Int),.r (rI lx),.b b2,.i (ny:Int),.r (rI ly),.b false,.i (nq:Int),.r (rI lq),.b false,.i (nr:Int),.r (rI lr)],?_,rfl,nq,lq,nr,lr,rfl,hwq,hwr,hnr,?_,hlt⟩
    ·simp only[STD,a1]
    ·rw[hq,q78,qQ6,<-hv,List.drop_zero]
   ·left;obtain⟨i,rfl⟩:∃i,k=i+1:=⟨k-1,by omega⟩;have e:(((i+1:Nat):Int)-1)=(i:Int):=by omega
    rw[e];have hnr231:nr<=231:=qOP (qO0 hwr hnr hy (by omega)) hy231;have hil:i<lx.length:=by omega
    have gx:=hx.get i;obtain⟨s1,s2,s3⟩:=qJQ hwr hnr231 (d:=lx.getD i 0) gx;obtain⟨m,t1,t2,t3⟩:=qpE s2 false;have hX:mv (lx.drop i)=lx.getD i 0+1000000000*(Q*mv ly+mv lr):=by rw[qf5 hil,<-hv,jw hil]
    have hlt2:mv (lx.getD i 0::(lr.take nr++lr.drop (1+nr)))<mv ly*1000000000:=by rw[s3];omega
    obtain⟨d,n',l',d1,d2,d3,d4,d5,d6,d7⟩:=qJM t2 t3 hy hny h0 hy231 hlt2 (i:Int) bx (nx:Int) (rI lx) b2 false (nq:Int) (rI lq) false;rw[s3] at d6;have a1:(0:Int)<=(i:Int):=by omega
    have a2:(i:Int)<232:=by omega
    have a3:(0:Int)<=232/\(232:Int)<=232:=by omega
    have a4:(0:Int)<=1/\(1:Int)<=232:=by omega
    have a5:(0:Int)<=(nr:Int)/\(nr:Int)<=232:=by omega
    have a6:(0:Int)<=0/\(0:Int)<=(nr:Int):=by omega
    have w1:qo .i64 (nr:Int) 1=((nr+1:Nat):Int):=by rw[qK (by omega)];omega
    have w2:qo .i64 (i:Int) 1=((i+1:Nat):Int):=by rw[qK (by omega)];omega
    have w3:wo .i64 (i:Int) 1=(i:Int)-1:=ze (by omega);have w4:qzG (nq:Int) ((i+1:Nat):Int)=((max nq (i+1):Nat):Int):=qz0 _ _;have hiq:i<lq.length:=by rw[hwq.len];omega
    have hzi:lq[i]=0:=by rw[<-jw hiq];exact hz i (by omega)
    refine⟨i,[.i ((i:Int)-1),.b bx,.i (nx:Int),.r (rI lx),.b b2,.i (ny:Int),.r (rI ly),.b false,.i ((max nq (i+1):Nat):Int),.r (rI (lq.set i d)),.b false,.i (n':Int),.r (rI l')],by omega,?_,Q*1000000000+d,_,_,_,_,rfl,by omega,hwq.setW (by omega) ⟨d4,d5⟩,d2,d3,?_,d7,?_,?_⟩
    ·simp only[q67,s1,w1];simp only[STD,a1,a2,a3,a4,a5,a6,and_self,t1,d1,w2,w3,w4,qmS]
    ·rw[hX,Int.add_mul,Int.mul_add];have:Q*1000000000*mv ly=1000000000*(Q*mv ly):=by grind
     omega
    ·rw[qDq lq i hiq,hzi,hq,qdA];grind
    ·intro a ha;rw[qOM,qOO (by omega),<-qOM];exact hz a (by omega))
  (ps:=[.i ((nx:Int)-1),.b bx,.i (nx:Int),.r (rI lx),.b b2,.i (ny:Int),.r (rI ly),.b false,.i 0,.r (rI (List.replicate 232 0)),.b false,.i 0,.r (rI (List.replicate 232 0))])
  ⟨0,0,_,0,_,rfl,qON _,WOK.zero,WOK.zero,.inl rfl,by rw[wU hx.dig hx.z (qON _),qhl];omega,by rw[qhl];exact hyp,by rw[qhl,Int.mul_zero],fun i _=>qAq 232 i⟩
 obtain⟨m,t1,t2,t3⟩:=qpE g2 false;refine⟨m,lq,nr,lr,?_,t2,t3,g3,g4,g5,g6⟩;have hs:wo .i64 (nx:Int) 1=(nx:Int)-1:=ze (by omega);simp only[e0,hs];simp only[STD,g1,t1]
variable {m:Int}
theorem qNH {c:UInt8}{t:qOK}:qfh (c::t) 0 1=[c]:=by simp[qfh]
theorem qGi (s:qOK):(qE [.s s,.s [45]]).run=some (0,[.b (decide (s.getD 0 0=45))]):=by
 rw[q7c];have h1:qv [45]=1:=rfl;cases s with
 | nil=>
  have a:¬(1:Int)<=qv []:=by decide
  simp only[STD,h1,a];rfl
 | cons c t=>
  have a:(1:Int)<=qv (c::t):=by unfold qv;simp only[qPg];omega
  simp only[STD,h1,a,show (0:Int)<=1 by omega,show (0:Int)<=0 by omega,and_self,qNH];have e:seq [c] [45]=decide ((c::t).getD 0 0=45):=by rw[Bool.eq_iff_iff,zQ];simp
  rw[e]
theorem qyd (s:qOK):(qX [.s s,.s [45]]).run=some (0,[.s (mag s)]):=by
 rw[qjM];have h:(qZ [.s s,.s [45]]).run=some (0,[.s (mag s)]):=by
  rw[q6h];have h1:qv [45]=1:=rfl;unfold mag;by_cases h:s.getD 0 0=45
  ·rw[if_pos h];have a:(1:Int)<=qv s:=by
    cases s with
    | nil=>simp at h
    | cons c t=>unfold qv;simp only[qPg];omega
   have e:qfh s 1 (qv s)=s.drop 1:=by unfold qfh qv;simp
   simp only[STD,qGi,h,h1,a,and_self,qPr,show (0:Int)<=qv s by omega,show (0:Int)<=1 by omega,e]
  ·rw[if_neg h];simp only[STD,qGi,h]
 simp only[STD,h]
theorem qi2 (s:qOK)(hl:s.length<=1000000000):(qW [.s s]).run=some (0,[.i (qDS s)]):=by
 rw[qwx];have hT:=qyd s;have hml:(mag s).length<=s.length:=by unfold mag;split<;>simp
 have hR:=qMx (mag s) (by omega);have hcan:=qIl s;unfold qDS;have hl3:(1024<qv (mag s))=¬((mag s).length<=1024):=by unfold qv;simp only[eq_iff_iff];omega
 by_cases hne:mag s=[]
 ·rw[if_neg (fun h=>(hcan.1 h).1 hne)];simp only[STD,hT,zQ,hne]
 ·have hp:0<(mag s).length:=qQp.2 hne;have a1:(0:Int)<qv (mag s):=by unfold qv;omega
  have hs:sat (mag s) 0=((mag s)[0].toNat:Int):=qu4 (i:=0) hp;have h48:((mag s)[0].toNat:Int)=48↔(mag s).getD 0 0=48:=by
   have:(mag s).getD 0 0=(mag s)[0]:=by simp[hp]
   rw[this];exact⟨fun h=>qQO.1 (by show (mag s)[0].toNat=48;omega),fun h=>by rw[h];rfl⟩
  by_cases hd:q7P (mag s)
  ·have hs1:((mag s).getD 0 0=48->s.length=1)↔(((mag s)[0].toNat:Int)=48->s=[48]):=by
    rw[h48];constructor
    ·intro h h2;obtain⟨c,e⟩:=List.length_eq_one_iff.1 (h h2);subst e;by_cases hc:c=45
     ·subst hc;exact absurd rfl hne
     ·have:mag [c]=[c]:=by unfold mag;rw[if_neg (by simpa using hc)]
      rw[this] at h2;simp at h2;rw[h2]
    ·intro h h2;rw[h h2];rfl
   by_cases hz:((mag s)[0].toNat:Int)=48
   ·by_cases h0:s=[48]
    ·rw[if_pos (hcan.2 ⟨hne,hd,hs1.2 fun _=>h0⟩)];by_cases hL:(mag s).length<=1024
     ·simp only[STD,hT,hR,zQ,hne,qlv,hd,a1,hs,hz,hl3,hL,qPr,and_self];simp only[STD,h0]
     ·simp only[STD,hT,hR,zQ,hne,qlv,hd,a1,hs,hz,hl3,hL,qPr,and_self];simp only[STD,h0]
    ·rw[if_neg (fun h=>h0 (hs1.1 (hcan.1 h).2.2 hz))];simp only[STD,hT,hR,zQ,hne,qlv,hd,a1,hs,hz,h0,qPr,and_self]
   ·rw[if_pos (hcan.2 ⟨hne,hd,fun h=>absurd (h48.2 h) hz⟩)];by_cases hL:(mag s).length<=1024
    ·simp only[STD,hT,hR,zQ,hne,qlv,hd,a1,hs,hz,hl3,hL,qPr,and_self]
    ·simp only[STD,hT,hR,zQ,hne,qlv,hd,a1,hs,hz,hl3,hL,qPr,and_self]
  ·rw[if_neg (fun h=>hd (hcan.1 h).2.1)];simp only[STD,hT,hR,zQ,hne,qlv,hd]
def okL(m:Int):Prop:=nl m<=1024
theorem qCA (h:okL m):qDS (tI m)=0:=by unfold qDS;rw[if_pos ⟨m,rfl⟩,qAV,if_pos (show (tN m.natAbs).length<=1024 from h)]
theorem qD3 (h:okL m):(tI m).length<=1025:=by have:=qB7 m;unfold okL nl at h;omega
theorem qpW (h:okL m):(qW [.s (tI m)]).run=some (0,[.i 0]):=by have:=qD3 h;rw[qi2 _ (by omega),qCA h]
def rS(l:List (List UInt8)):R:=l.map fun s=>[.s s]
theorem qx5 (l:List (List UInt8)):qg (rS l)=l.length:=by simp[rS,qg]
theorem qGz {l:List (List UInt8)}{i:Nat}(h:i<l.length):cS (rS l) (i:Int) 0=l[i]:=by simp[cS,zJ,rS,h,U.toS]
theorem qMV {l:List (List UInt8)}(hn:l.length<1000000)(h:∀s,s∈l->(qW [.s s]).run=some (0,[.i 0])):(we [.r (rS l)]).run=some (0,[.i 0]):=by
 rw[qzI,qx5];have key:=qu (S:=q7F) (fun i=>[.r (rS l),.i (l.length:Int),.i (i:Int)]) (0,[]) l.length (by omega) (fun i hi=>by
  rw[qlZ,qGz hi];have a1:(i:Int)<(l.length:Int):=by omega
  have a2:(i:Int)<qg (rS l):=by rw[qx5];exact a1
  simp only[STD,a1,a2,qe3,and_self,h _ (qPx hi),j5 hi (show l.length<9223372036854775808 by omega)]) (by
  rw[qlZ];have a1:¬(l.length:Int)<(l.length:Int):=by omega
  simp only[STD,a1])
 simp only[show (((0:Nat)):Int)=0 from rfl] at key;simp only[STD,key,zm key]
theorem qih {m n:Int}(hm:okL m)(hn:okL n):(we [.r [[.s (tI m)],[.s (tI n)]]]).run=some (0,[.i 0]):=by
 have:=qMV (l:=[tI m,tI n]) (by simp) (fun s hs=>by
  simp only[qP5,List.not_mem_nil,or_false] at hs;rcases hs with rfl|rfl
  ·exact qpW hm
  ·exact qpW hn)
 exact this
theorem qgJ (n:Int)(h:-9223372036854775808<=n/\n<=9223372036854775807):(wB [.i n]).run=some (0,[.s (tI n)]):=by rw[qBL];simp only[STD,qMW n h]
theorem qcr (m:Int):(tI m=[48])=(m=0):=propext ⟨fun h=>qB5 (n:=0) h,fun h=>by rw[h];rfl⟩
theorem q2W (m:Int):(yH [.s (tI m)]).run=some (0,[.i (sgn m)]):=by
 rw[qz8];have a1:(0:Int)<qv (tI m):=by have:=qAA m;unfold qv;omega
 have hs:(sat (tI m) 0=45)=(m<0):=qDv m;unfold sgn;by_cases h0:m=0
 ·simp only[STD,zQ,qcr,h0];rfl
 ·by_cases h1:m<0
  ·simp only[STD,zQ,qcr,h0,a1,hs,h1,qPr,and_self]
  ·simp only[STD,zQ,qcr,h0,a1,hs,h1,qPr,and_self]
theorem qA7 (h:okL m):(q9u [.s (tI m)]).run=some (0,[.i (sgn m),.i 0]):=by rw[qzA];simp only[STD,qpW h,q2W]
theorem qLJ (m n:Nat):(q6t [.s (tN m),.s (tN n)]).run=some (0,[.i (sgn ((m:Int)-(n:Int)))]):=by
 rw[qwK];have hl:(qv (tN m)=qv (tN n))=((tN m).length=(tN n).length):=by unfold qv;simp only[eq_iff_iff];omega
 have hl2:(qv (tN m)<qv (tN n))=((tN m).length<(tN n).length):=by unfold qv;simp only[eq_iff_iff];omega
 by_cases he:(tN m).length=(tN n).length
 ·have h:=qFc (zM m) (zM n) he;rw[q0u,q0u] at h;simp only[STD,hl,he,h]
 ·by_cases hlt:(tN m).length<(tN n).length
  ·have h:=(qD5 m n).1 (.inl hlt);simp only[STD,hl,hl2,he,hlt];unfold sgn;rw[if_pos (by omega)]
  ·have h:=(qD5 n m).1 (.inl (by omega));simp only[STD,hl,hl2,he,hlt];unfold sgn;rw[if_neg (by omega),if_neg (by omega)]
theorem qgG (m:Int):(m<0/\sgn m=-1)\/(m=0/\sgn m=0)\/(0<m/\sgn m=1):=by
 unfold sgn;rcases qQk m 0 with h|h|h
 ·rw[if_pos h];omega
 ·subst h;simp
 ·rw[if_neg (by omega),if_neg (by omega)];omega
theorem qIk (m:Int):-1<=sgn m/\sgn m<=1:=by rcases qgG m with⟨_,e⟩|⟨_,e⟩|⟨_,e⟩<;>omega
theorem qLh (m n:Int):(if sgn m<sgn n then -1 else if sgn n<sgn m then 1 else sgn m*sgn ((m.natAbs:Int)-(n.natAbs:Int)))=sgn (m-n):=by
 rcases qgG m with⟨a,ea⟩|⟨a,ea⟩|⟨a,ea⟩<;>rcases qgG n with⟨b,eb⟩|⟨b,eb⟩|⟨b,eb⟩<;>rw[ea,eb]<;>simp only[Int.reduceLT,Int.reduceNeg,if_true,if_false] <;>
  rcases qgG (m-n) with⟨c,ec⟩|⟨c,ec⟩|⟨c,ec⟩<;>rcases qgG ((m.natAbs:Int)-(n.natAbs:Int)) with⟨d,ed⟩|⟨d,ed⟩|⟨d,ed⟩<;>omega
theorem qjF {m n:Int}(hm:okL m)(hn:okL n):(u6 [.s (tI m),.s (tI n)]).run=some (0,[.i (sgn (m-n)),.i 0]):=by
 rw[qst];have h1:=qyd (tI m);have h2:=qyd (tI n);rw[qAV] at h1 h2;have h3:=qLJ m.natAbs n.natAbs;have hw:∀a b:Int,-1<=a/\a<=1->-1<=b/\b<=1->wd .i64 a b=a*b:=fun a b ha hb=>uK (by have:=qNQ (A:=1) (B:=1) ha.1 ha.2 hb.1 hb.2;omega);have ba:=qIk m;have bb:=qIk n;have bc:=qIk ((m.natAbs:Int)-(n.natAbs:Int));have e:=qLh m n;by_cases c1:sgn m<sgn n
 ·rw[if_pos c1] at e;simp only[STD,qih hm hn,q2W,h1,h2,h3,c1,<-e]
 ·rw[if_neg c1] at e;by_cases c2:sgn n<sgn m
  ·rw[if_pos c2] at e;simp only[STD,qih hm hn,q2W,h1,h2,h3,c1,c2,<-e]
  ·rw[if_neg c2] at e;simp only[STD,qih hm hn,q2W,h1,h2,h3,c1,c2,hw _ _ ba bc,<-e]
theorem qsb (m:Int)(hm:nl m<=2000):∃(n:Nat) (l:List Int),(ww [.s (tI m)]).run=some (0,[.b (decide (m<0)),.i (n:Int),.r (rI l)])/\WOK n l/\nrm n l/\mv l=m.natAbs/\9*n<=nl m+8:=by
 rw[qzk];have h1:=qyd (tI m);rw[qAV] at h1;have a1:(0:Int)<qv (tI m):=by have:=qAA m;unfold qv;omega
 have hb:ieq (sat (tI m) 0) 45=decide (m<0):=by rw[Bool.eq_iff_iff,qG1,qDv];simp
 have e0:q4e 232 [.i 0]=rI (List.replicate 232 0):=qo7 232 0;have hL:(tN m.natAbs).length<=2000:=hm;obtain⟨j,qs,g1,rfl,n,l,rfl,g2,g3,g4⟩:=jn (S:=q4N) (fun k ps=>∃(n:Nat) (l:List Int),ps=[.s ((tN m.natAbs).take k),.b (decide (m<0)),.i (n:Int),.r (rI l)]/\k<=(tN m.natAbs).length/\WOK n l /\
   (k=0/\9*n<=(tN m.natAbs).length+8\/k+9*n=(tN m.natAbs).length)/\((val (tN m.natAbs):Nat):Int)=((val ((tN m.natAbs).take k):Nat):Int)*pB n+mv l)
  (fun j qs=>j=0/\∃(n:Nat) (l:List Int),qs=[.b (decide (m<0)),.i (n:Int),.r (rI l)]/\WOK n l/\mv l=m.natAbs/\9*n<=(tN m.natAbs).length+8) (n:=(tN m.natAbs).length) (by omega)
  (fun k ps hk ⟨n,l,hps,hkl,hw,hkn,hv⟩=>by
   subst hps;rw[quY];have hlk:qv ((tN m.natAbs).take k)=(k:Int):=by unfold qv;rw[qPJ,qPK hkl]
   rcases qPT k with rfl|hk0
   ·right;refine⟨0,[.b (decide (m<0)),.i (n:Int),.r (rI l)],?_,rfl,n,l,rfl,hw,?_,by omega⟩
    ·have a:¬(0:Int)<qv ((tN m.natAbs).take 0):=by rw[hlk];omega
     simp only[STD,a]
    ·rw[q0u,List.take_zero,qho] at hv;simp at hv;omega
   ·left;have hn231:n<=231:=by omega
    obtain⟨q,hq,hq9⟩:∃q:Nat,qzG 0 (wo .i64 (k:Int) 9)=(q:Int)/\q=k-9:=by refine⟨k-9,?_,rfl⟩;rw[ze (by omega)];unfold qzG;split<;>omega
    have hqk:q<=k:=by omega
    have hsub:qfh ((tN m.natAbs).take k) (q:Int) (k:Int)=((tN m.natAbs).take k).drop q:=by unfold qfh;simp[List.take_take]
    have hsub2:qfh ((tN m.natAbs).take k) 0 (q:Int)=(tN m.natAbs).take q:=by unfold qfh;simp[List.take_take,qPK hqk]
    have hdg:q7P (((tN m.natAbs).take k).drop q):=qHn (qzN (zM _) k) q;have hdl:(((tN m.natAbs).take k).drop q).length=k-q:=by rw[qQK,qPJ,qPK hkl]
    have hdn:((tN m.natAbs).take k).drop q≠[]:=by intro h;rw[h] at hdl;simp at hdl;omega
    have hA:=qGR (s:=((tN m.natAbs).take k).drop q) (by omega) (qAr hdg hdn);have hvl:=q7Y hdg;rw[hdl] at hvl;have hv9:val (((tN m.natAbs).take k).drop q)<1000000000:=qPs hvl (by have:(10:Nat)^(k-q)<=10^9:=qQg (by omega) (by omega);simpa using this);have b1:(0:Int)<(k:Int):=by omega
    have b2:(0:Int)<=(q:Int)/\(q:Int)<=(k:Int):=by omega
    have b3:(0:Int)<=(k:Int)/\(k:Int)<=(k:Int):=by omega
    have b4:(0:Int)<=(n:Int)/\(n:Int)<232:=by omega
    have b5:(0:Int)<=0/\(0:Int)<=(q:Int):=by omega
    have w1:qo .i64 (n:Int) 1=((n+1:Nat):Int):=by rw[qK (by omega)];omega
    have hnl:n<l.length:=by rw[hw.len];omega
    have hz:l[n]=0:=by rw[<-jw hnl];exact hw.z n (qON _)
    have hW:=hw.setW (j:=n) (y:=((val (((tN m.natAbs).take k).drop q):Nat):Int)) (by omega) (by omega);rw[Nat.max_eq_right (by omega)] at hW;refine⟨q,[.s ((tN m.natAbs).take q),.b (decide (m<0)),.i ((n+1:Nat):Int),.r (rI (l.set n ((val (((tN m.natAbs).take k).drop q):Nat):Int)))],by omega,?_,n+1,_,rfl,by omega,hW,by omega,?_⟩
    ·simp only[STD,hlk,b1,hq,b2,b3,b4,b5,and_self,hsub,hsub2,hA,w1,qmS]
    ·rw[qDq l n hnl,hz,hv];have hsp:val ((tN m.natAbs).take k)=val ((tN m.natAbs).take q)*10^(k-q)+val (((tN m.natAbs).take k).drop q):=by
      have h1:(tN m.natAbs).take k=((tN m.natAbs).take k).take q++((tN m.natAbs).take k).drop q:=(qQX q _).symm;have h2:((tN m.natAbs).take k).take q=(tN m.natAbs).take q:=by rw[List.take_take,qPK hqk]
      rw[h2] at h1;generalize ((tN m.natAbs).take k).drop q=D at *;rw[h1,qy1,hdl]
     rw[hsp,qdA];rcases qOT k 9 with h9|h9
     ·have:q=0:=by omega
      subst this;rw[List.take_zero,qho];simp;omega
     ·have:k-q=9:=by omega
      rw[this];simp only[qQF,qPz];have e9:(((10:Nat)^9:Nat):Int)=1000000000:=by simp
      rw[e9];grind) (ps:=[.s ((tN m.natAbs).take (tN m.natAbs).length),.b (decide (m<0)),.i 0,.r (rI (List.replicate 232 0))])
  ⟨0,_,rfl,qON _,WOK.zero,.inr (by omega),by rw[q78,qPX,qhl];simp⟩
 rw[qPX] at g1;obtain⟨n2,t1,t2,t3⟩:=qpE g2 (decide (m<0));refine⟨n2,l,?_,t2,t3,g3,?_⟩
 ·simp only[STD,e0,hb,h1,a1,qPr,and_self,g1,t1]
 ·have:=qO0 t2 t3 g2 (qPr _);unfold nl;omega
end Go.Eng

namespace Go.Eng
variable {m:Int}{n:Nat}
theorem qM1 {k n:Nat}(h:nl m<=k)(hk:k<=9*n):(m.natAbs:Int)<pB n:=by rw[qH5];have h1:=qO7 h;have h2:(10:Nat)^k<=10^(9*n):=qQg (by omega) hk;omega
theorem qwZ (h:okL m):(m.natAbs:Int)<pB 114:=qM1 (k:=1024) h (by omega)
theorem qy0 (h:okL m):okL (-m):=by unfold okL;rw[qtl];exact h
theorem qGj:pB n+pB n<=pB (n+1):=by rw[qdA];have:=qeB n;omega
theorem qNf {b:Bool}{l:List Int}(h:0<=mv l):((sv b l).natAbs:Int)=mv l:=by unfold sv;cases b<;>simp<;>omega
theorem qBv {l:List Int}(h:WOK n l)(hn:nrm n l)(b:Bool)(hk:okL (sv b l)):(wg [.b b,.i (n:Int),.r (rI l)]).run=some (0,[.s (tI (sv b l)),.i 0,.b b,.i (n:Int),.r (rI l)]):=by rw[qkX];simp only[STD,qEd h hn,qpW hk]
theorem qBI (m n:Int):(yw [.s (tI m),.s (tI n)]).run=some (0,if (tI m).length<=9/\(tI n).length<=9 then [.i m,.i n,.b true] else [.i 0,.i 0,.b false]):=by
 rw[qwL];have h1:(9<qv (tI m))=¬(tI m).length<=9:=by unfold qv;simp only[eq_iff_iff];omega
 have h2:(9<qv (tI n))=¬(tI n).length<=9:=by unfold qv;simp only[eq_iff_iff];omega
 by_cases a:(tI m).length<=9
 ·by_cases b:(tI n).length<=9
  ·simp only[STD,h1,h2,a,b,and_self,qGR (s:=tI m) (by omega) (qIB m),qGR (s:=tI n) (by omega) (qIB n)]
  ·simp only[STD,h1,h2,a,b,and_false]
 ·simp only[STD,h1,a,false_and]
theorem qla (h:(tI m).length<=9):m.natAbs<1000000000:=by
 have:(tN m.natAbs).length<=9:=by
  unfold tI at h;split at h
  ·simp at h;omega
  ·exact h
 exact qPs (q7C this) (by simp)
theorem qDQ (n:Int)(h:-9223372036854775808<=n/\n<=9223372036854775807):(kT [.i n]).run=some (0,[.s (tI n),.i 0]):=by rw[qvj];simp only[STD,qgJ n h]
theorem qGI {l:List Int}(h:mv l=m.natAbs):sv (decide (m<0)) l=m:=by
 unfold sv;by_cases hm:m<0
 ·rw[decide_eq_true hm,if_pos rfl];omega
 ·rw[decide_eq_false hm,if_neg (by simp)];omega
theorem qNx {m n:Int}(hm:okL m)(hn:okL n)(hs:okL (m+n)):(qcC [.r [[.s (tI m)],[.s (tI n)]]]).run=some (0,[.s (tI (m+n)),.i 0]):=by
 rw[qAF];have e0:q4e 232 [.i 0]=rI (List.replicate 232 0):=qo7 232 0;have lm:=qwZ hm;have ln:=qwZ hn;obtain⟨q1,l1,r1,w1,n1,v1,_⟩:=qsb m (by unfold okL at hm;omega);obtain⟨q2,l2,r2,w2,n2,v2,_⟩:=qsb n (by unfold okL at hn;omega);have hb2:=qf0 (show 115<=232 by omega);have hb1:pB 114+pB 114<=pB 115:=qGj;have hb0:=qeB 114;obtain⟨b1,k1,m1,a1,a2,a3,a4⟩:=qKJ (lx:=List.replicate 232 0) (nx:=0) WOK.zero (.inl rfl) w1 n1 (by rw[qhl,v1];omega) false (decide (m<0));rw[qGI v1] at a4;have a5:sv b1 m1=m:=by
  have:sv false (List.replicate 232 0)=0:=by unfold sv;rw[if_neg (by simp),qhl]
  rw[a4,this];omega
 obtain⟨b2,k2,m2,c1,c2,c3,c4⟩:=qKJ a2 a3 w2 n2 (by rw[<-qNf (b:=b1) a2.bd.1,a5,v2];omega) b1 (decide (n<0));rw[qGI v2,a5] at c4;have key:=qu (S:=q7z) (fun i=>match i with
  | 0=>[.r [[.s (tI m)],[.s (tI n)]],.i 2,.i 0,.b false,.i 0,.r (rI (List.replicate 232 0))]
  | 1=>[.r [[.s (tI m)],[.s (tI n)]],.i 2,.i 1,.b b1,.i (k1:Int),.r (rI m1)]
  | _=>[.r [[.s (tI m)],[.s (tI n)]],.i 2,.i 2,.b b2,.i (k2:Int),.r (rI m2)]) (0,[.b b2,.i (k2:Int),.r (rI m2)]) 2 (by omega) (fun i hi=>by
   have:i=0\/i=1:=by omega
   have d0:cS [[.s (tI m)],[.s (tI n)]] 0 0=tI m:=rfl;have d1:cS [[.s (tI m)],[.s (tI n)]] 1 0=tI n:=rfl;have d2:qg [[U.s (tI m)],[U.s (tI n)]]=2:=rfl;rcases this with rfl|rfl
   ·simp only;rw[qeW,d0,d2];simp only[show ((0:Nat):Int)=0 from rfl] at a1;have w:qo .i64 0 1=1:=by decide
    simp only[STD,r1,a1,w,show (0:Int)<2 by omega,show (0:Int)<=0 by omega,and_self]
   ·simp only;rw[qeW,d1,d2];have w:qo .i64 1 1=2:=by decide
    simp only[STD,r2,c1,w,show (1:Int)<2 by omega,show (0:Int)<=1 by omega,and_self]) (by
   simp only;rw[qeW];simp only[STD,show ¬(2:Int)<2 by omega])
 simp only at key;have hL:=qBv c2 c3 b2 (by rw[c4];exact hs);rw[c4] at hL;have d2:qg [[U.s (tI m)],[U.s (tI n)]]=2:=rfl;simp only[e0,d2];simp only[STD,key,hL]
theorem qNj {m n:Int}(hm:okL m)(hn:okL n)(hs:okL (m+n)):(q2H [.s (tI m),.s (tI n)]).run=some (0,[.s (tI (m+n)),.i 0]):=by
 rw[qB2];have h:=qBI m n;by_cases hc:(tI m).length<=9/\(tI n).length<=9
 ·rw[if_pos hc] at h;have b1:=qla hc.1;have b2:=qla hc.2;have w:qo .i64 m n=m+n:=qK (by omega);simp only[STD,qih hm hn,h,w,qDQ (m+n) (by omega)]
 ·rw[if_neg hc] at h;simp only[STD,qih hm hn,h,qNx hm hn hs]
theorem qEH (hm:okL m):(q1N [.s (tI m)]).run=some (0,[.s (tI (-m))]):=by
 rw[qrj];have hl:=qD3 hm;have hp:=qAA m;rcases qgG m with⟨h,e⟩|⟨h,e⟩|⟨h,e⟩
 ·have a1:(0:Int)<=qv (tI m)/\qv (tI m)<=qv (tI m):=by unfold qv;omega
  have a2:(0:Int)<=1/\1<=qv (tI m):=by unfold qv;omega
  have a3:qfh (tI m) 1 (qv (tI m))=tI (-m):=by unfold qfh qv;rw[qee h,qne (m:=-m) (by omega),Int.natAbs_neg];simp
  simp only[STD,q2W,e,a1,a2,a3,and_self,show ¬((-1:Int)=0) by omega,show ¬((-1:Int)=1) by omega]
 ·simp only[STD,q2W,e];rw[h];rfl
 ·have a1:qv [45]+qv (tI m)<=140737488355328:=by unfold qv;simp;omega
  have a3:qgU [45] (tI m)=tI (-m):=by unfold qgU;rw[qee (m:=-m) (by omega),qne (m:=m) (by omega),Int.natAbs_neg];rfl
  simp only[STD,q2W,e,a1,a3,show ¬((1:Int)=0) by omega]
theorem qOh {m n:Int}(hm:okL m)(hn:okL n)(hs:okL (m-n)):(q8m [.s (tI m),.s (tI n)]).run=some (0,[.s (tI (m-n)),.i 0]):=by rw[qA0];have h:=qNj hm (qy0 hn) (by rwa [<-Int.sub_eq_add_neg]);rw[<-Int.sub_eq_add_neg] at h;simp only[STD,qih hm hn,qEH hn,h]
theorem qOo {m n:Int}(hm:okL m)(hn:okL n)(hs:okL (m*n)):(q5w [.s (tI m),.s (tI n)]).run=some (0,[.s (tI (m*n)),.i 0]):=by
 rw[qAI];have h:=qBI m n;by_cases hc:(tI m).length<=9/\(tI n).length<=9
 ·rw[if_pos hc] at h;have b1:=qla hc.1;have b2:=qla hc.2;have b3:=qNQ (A:=999999999) (B:=999999999) (a:=m) (b:=n) (by omega) (by omega) (by omega) (by omega);have w:wd .i64 m n=m*n:=uK (by omega);simp only[STD,qih hm hn,h,w,qDQ (m*n) (by omega)]
 ·rw[if_neg hc] at h;unfold okL at hm hn;obtain⟨q1,l1,r1,w1,n1,v1,z1⟩:=qsb m (by omega);obtain⟨q2,l2,r2,w2,n2,v2,z2⟩:=qsb n (by omega);obtain⟨k,l,t1,t2,t3,t4⟩:=qLf w1 w2 (by omega) (decide (m<0)) (decide (n<0));have hv:sv (!(Go.Eng.beq (decide (m<0)) (decide (n<0)))) l=m*n:=by
   unfold sv;rw[t4,v1,v2];have e:((m.natAbs:Int)*(n.natAbs:Int))=(((m*n).natAbs:Nat):Int):=by rw[qPZ];simp
   rw[e];unfold Go.Eng.beq;rcases qQk m 0 with a|a|a
   ·rcases qQk n 0 with b|b|b
    ·have:=Int.mul_pos_of_neg_of_neg a b;simp[a,b];omega
    ·subst b;simp
    ·have:=Int.mul_neg_of_neg_of_pos a b;have b':¬n<0:=by omega
     simp[a,b'];omega
   ·subst a;simp
   ·have a':¬m<0:=by omega
    rcases qQk n 0 with b|b|b
    ·have:=Int.mul_neg_of_pos_of_neg a b;simp[a',b];omega
    ·subst b;simp
    ·have:=Int.mul_pos a b;have b':¬n<0:=by omega
     simp[a',b'];omega
  have hL:=qBv t2 t3 (!(Go.Eng.beq (decide (m<0)) (decide (n<0)))) (by rw[hv];exact hs);rw[hv] at hL;simp only[STD,qih hm hn,h,r1,r2,t1,hL]
theorem qH8 {l:List Int}(h:WOK n l)(hn:nrm n l){k:Nat}(hl:mv l<pB k):n<=k:=by
 rcases qOT k n with h1|h1
 ·have:=h.lo hn (by omega);have:=qf0 (show k<=n-1 by omega);omega
 ·exact h1
theorem qJB {k n:Int}(h0:n≠0)(hm:okL (k*n))(hn:okL n):(q4I [.s (tI (k*n)),.s (tI n)]).run=some (0,[.s (tI k),.s (tI 0),.i 0]):=by
 rw[qtn];have h:=qBI (k*n) n;have hz:¬tI n=[48]:=by rw[qcr];exact h0
 by_cases hc:(tI (k*n)).length<=9/\(tI n).length<=9
 ·rw[if_pos hc] at h;have b1:=qla hc.1;have b2:=qla hc.2;have hk:k.natAbs<=(k*n).natAbs:=by rw[qPZ];have:k.natAbs*1<=k.natAbs*n.natAbs:=Nat.mul_le_mul_left _ (by omega);omega
  have w1:qdN (k*n) n=0:=by unfold qdN;exact Int.mul_tmod_left k n
  have w2:qev .i64 (k*n) n=k:=by rw[qPU];exact ql3 h0 (by omega)
  simp only[STD,qih hm hn,zQ,hz,h,h0,w1,w2,qgJ k (by omega),qgJ 0 (by omega)]
 ·rw[if_neg hc] at h;have lm:=qwZ hm;have ln:=qwZ hn;obtain⟨q1,l1,r1,w1,n1,v1,z1⟩:=qsb (k*n) (by unfold okL at hm;omega);obtain⟨q2,l2,r2,w2,n2,v2,z2⟩:=qsb n (by unfold okL at hn;omega);have hq2:q2<=114:=qH8 w2 n2 (by omega);have hq0:q2≠0:=fun h=>by rw[qoy w2 n2] at h;omega
  obtain⟨nq,lq,nr,lr,d1,d2,d3,d4,d5,d6,d7⟩:=qjP w1 w2 n2 hq0 (by omega) (decide (k*n<0)) (decide (n<0));have e1:((k*n).natAbs:Int)=(k.natAbs:Int)*(n.natAbs:Int):=by rw[qPZ];simp
  rw[v1,v2,e1] at d6;rw[v2] at d7;have b4:=d4.bd.1;have hr0:mv lr=0/\mv lq=k.natAbs:=by
   have hn0:(0:Int)<(n.natAbs:Int):=by omega
   have e2:((k.natAbs:Int)-mv lq)*(n.natAbs:Int)=mv lr:=by rw[Int.sub_mul];omega
   rcases qQk ((k.natAbs:Int)-mv lq) 0 with a|a|a
   ·have:=Int.mul_neg_of_neg_of_pos a hn0;omega
   ·rw[a,Int.zero_mul] at e2;omega
   ·have:=qQH (show 1<=(k.natAbs:Int)-mv lq by omega) (show 0<=(n.natAbs:Int) by omega);omega
  have hnr:nr=0:=by rw[qoy d4 d5];exact hr0.1
  have hv:sv (!(Go.Eng.beq (decide (k*n<0)) (decide (n<0)))) lq=k:=by
   unfold sv;rw[hr0.2];unfold Go.Eng.beq;rcases qQk k 0 with a|a|a
   ·rcases qQk n 0 with b|b|b
    ·have:=Int.mul_pos_of_neg_of_neg a b;have c:¬k*n<0:=by omega
     simp[b,c];omega
    ·exact absurd b h0
    ·have c:=Int.mul_neg_of_neg_of_pos a b;have b':¬n<0:=by omega
     simp[b',c];omega
   ·subst a;simp
   ·rcases qQk n 0 with b|b|b
    ·have c:=Int.mul_neg_of_pos_of_neg a b;simp[b,c];omega
    ·exact absurd b h0
    ·have:=Int.mul_pos a b;have c:¬k*n<0:=by omega
     have b':¬n<0:=by omega
     simp[b',c];omega
  have hT:=qEd d2 d3 (!(Go.Eng.beq (decide (k*n<0)) (decide (n<0))));rw[hv] at hT;have hT2:=qEd d4 d5 (decide (k*n<0));have hv0:sv (decide (k*n<0)) lr=0:=by unfold sv;rw[hr0.1];split<;>rfl
  rw[hv0] at hT2;have hnr':¬(0:Int)<(nr:Int):=by omega
  simp only[STD,qih hm hn,zQ,hz,h,r1,r2,d1,hnr',hT,hT2]
theorem qKq {m n:Int}(h:m.natAbs<=n.natAbs)(hn:okL n):okL m:=qOP (kA h) hn
theorem qO6 {k n:Int}(h0:n≠0)(hm:okL (k*n))(hn:okL n):(q83 [.s (tI (k*n)),.s (tI n)]).run=some (0,[.s (tI k),.i 0]):=by rw[qAZ];have hk:okL k:=qKq (by rw[qPZ];have:k.natAbs*1<=k.natAbs*n.natAbs:=Nat.mul_le_mul_left _ (by omega);omega) hm;simp only[STD,qJB h0 hm hn,qpW hk]
theorem qHS (a b:Nat)(hb:b<9223372036854775808):(qf q1S [.i (a:Int),.i (b:Int)]).run=some (0,[.i ((Nat.gcd a b:Nat):Int)]):=by
 obtain⟨j,qs,h1,rfl,rfl⟩:=jn (S:=q1S) (fun k ps=>∃x y:Nat,ps=[.i (x:Int),.i (y:Int)]/\y=k/\Nat.gcd x y=Nat.gcd a b)
  (fun j qs=>j=0/\qs=[.i ((Nat.gcd a b:Nat):Int)]) (n:=b) hb (fun k ps hk ⟨x,y,hps,hy,hg⟩=>by
  subst hps;rw[qvF];by_cases h0:y=0
  ·right;refine⟨0,[.i (x:Int)],?_,rfl,?_⟩
   ·simp only[STD,h0];simp[]
   ·rw[<-hg,h0,Nat.gcd_zero_right]
  ·left;refine⟨x%y,[.i (y:Int),.i ((x%y:Nat):Int)],by rw[<-hy];exact qQ3 _ (by omega),?_,y,x%y,rfl,rfl,?_⟩
   ·simp only[STD,show ¬((y:Int)=0) by omega,qsY]
   ·rw[<-hg,qQh y,<-Nat.gcd_rec,qQh]) (ps:=[.i (a:Int),.i (b:Int)]) ⟨a,b,rfl,rfl,rfl⟩
 exact h1
theorem qKS {l:List Int}(h:WOK n l)(hn:n<=1):mv l=l.getD 0 0:=by
 have:=qdU l 1 (by rw[h.len];omega);rw[wU h.dig h.z hn,Int.mul_zero,Int.add_zero] at this;have hl:=h.len;obtain⟨x,t,rfl⟩:∃x t,l=x::t:=by
  cases l with
  | nil=>simp at hl
  | cons x t=>exact⟨x,t,rfl⟩
 rw[this];simp[mv]
theorem qNs {m n:Int}(hm:okL m)(hn:okL n):(q2U [.s (tI m),.s (tI n)]).run=some (0,[.s (tN (Nat.gcd m.natAbs n.natAbs)),.i 0]):=by
 rw[qzJ];have lm:=qwZ hm;have ln:=qwZ hn;obtain⟨q1,l1,r1,w1,n1,v1,_⟩:=qsb m (by unfold okL at hm;omega);obtain⟨q2,l2,r2,w2,n2,v2,_⟩:=qsb n (by unfold okL at hn;omega);have hm':(tN m.natAbs).length<=1024:=hm;have hn':(tN n.natAbs).length<=1024:=hn;obtain⟨j,qs,g1,g2⟩:=jn (S:=q6l) (fun k ps=>∃(x y:Nat) (b1 b2:Bool) (nx ny:Nat) (lx ly:List Int),ps=[.b b1,.i (nx:Int),.r (rI lx),.b b2,.i (ny:Int),.r (rI ly)] /\
   WOK nx lx/\nrm nx lx/\WOK ny ly/\nrm ny ly/\mv lx=x/\mv ly=y/\eM x y=k/\Nat.gcd x y=Nat.gcd m.natAbs n.natAbs/\(x:Int)<pB 114/\(y:Int)<pB 114)
  (fun j qs=>(j=0/\∃(b:Bool) (n':Nat) (l:List Int),qs=[.b b,.i (n':Int),.r (rI l)]/\WOK n' l/\nrm n' l/\mv l=((Nat.gcd m.natAbs n.natAbs:Nat):Int))\/(j=1/\qs=[.s (tN (Nat.gcd m.natAbs n.natAbs)),.i 0])) (n:=eM m.natAbs n.natAbs) (qE6 (by omega) (by omega))
  (fun k ps hk ⟨x,y,b1,b2,nx,ny,lx,ly,hps,hw,hnw,hw2,hn2,hx,hy,he,hg,lx1,ly1⟩=>by
  subst hps;rw[qwW];have hxl:=hw.len;have hyl:=hw2.len;by_cases h0:ny=0
  ·right;have hy0:mv ly=0:=by rw[<-qoy hw2 hn2];exact h0
   have hy0':y=0:=by omega
   refine⟨0,[.b b1,.i (nx:Int),.r (rI lx)],?_,.inl ⟨rfl,b1,nx,lx,rfl,hw,hnw,?_⟩⟩
   ·simp only[STD,h0,show ¬(0:Int)<((0:Nat):Int) by omega]
   ·rw[hx,<-hg,hy0',Nat.gcd_zero_right]
  ·have a0:(0:Int)<(ny:Int):=by omega
   have hy0:y≠0:=fun h=>h0 (by rw[qoy hw2 hn2];omega);by_cases hc:nx<=1/\ny<=1
   ·right;have e1:=qKS hw hc.1;have e2:=qKS hw2 hc.2;have d1:cI (rI lx) 0 0=(x:Int):=by rw[show (0:Int)=((0:Nat):Int) from rfl,q67,<-e1,hx]
    have d2:cI (rI ly) 0 0=(y:Int):=by rw[show (0:Int)=((0:Nat):Int) from rfl,q67,<-e2,hy]
    have hy9:=hw2.get 0;rw[<-e2,hy] at hy9;have hE:=qHS x y (by omega);have hgl:Nat.gcd x y<=y:=Nat.gcd_le_right _ (by omega);have hO:=qgJ ((Nat.gcd x y:Nat):Int) (by omega);rw[q1x] at hO;have c1:(nx:Int)<=1:=by omega
    have c2:(ny:Int)<=1:=by omega
    refine⟨1,[.s (tN (Nat.gcd x y)),.i 0],?_,.inr ⟨rfl,by rw[hg]⟩⟩;simp only[STD,a0,c1,c2,d1,d2,hE,hO]
   ·left;have hny:ny<=114:=qH8 hw2 hn2 (by omega);obtain⟨nq,lq,nr,lr,d1,d2,d3,d4,d5,d6,d7⟩:=qjP hw hw2 hn2 h0 (by omega) b1 b2;have hr:mv lr=((x%y:Nat):Int):=by
     have b4:=d4.bd.1;rw[hx,hy] at d6;rw[hy] at d7;have hy1:(0:Int)<(y:Int):=by omega
     have:=(Int.ediv_emod_unique hy1 (a:=(x:Int)) (r:=mv lr) (q:=mv lq)).2 ⟨by rw[qPU];omega,b4,d7⟩;rw[<-this.2];simp
    refine⟨eM y (x%y),[.b b2,.i (ny:Int),.r (rI ly),.b false,.i (nr:Int),.r (rI lr)],by rw[<-he];exact qHx hy0,?_,y,x%y,b2,false,ny,nr,ly,lr,rfl,hw2,hn2,d4,d5,hy,hr,rfl,?_,ly1,?_⟩
    ·by_cases c1:nx<=1
     ·have c2:¬(ny:Int)<=1:=by omega
      have c1':(nx:Int)<=1:=by omega
      simp only[STD,a0,c1',c2,d1]
     ·have c1':¬(nx:Int)<=1:=by omega
      simp only[STD,a0,c1',d1]
    ·rw[<-hg,qQh y,<-Nat.gcd_rec,qQh]
    ·have:=qQ3 x (show 0<y by omega);omega) (ps:=[.b (decide (m<0)),.i (q1:Int),.r (rI l1),.b (decide (n<0)),.i (q2:Int),.r (rI l2)])
  ⟨m.natAbs,n.natAbs,_,_,q1,q2,l1,l2,rfl,w1,n1,w2,n2,v1,v2,rfl,rfl,lm,ln⟩
 rcases g2 with⟨rfl,b,n',l,rfl,a1,a2,a3⟩|⟨rfl,rfl⟩
 ·have hT:=qEd a1 a2 false;have hv:sv false l=((Nat.gcd m.natAbs n.natAbs:Nat):Int):=by unfold sv;rw[a3];rfl
  rw[hv,q1x] at hT;simp only[STD,qih hm hn,r1,r2,g1,zm g1,hT]
 ·simp only[STD,qih hm hn,r1,r2,g1,zm g1,show ¬(1=0) by omega]
end Go.Eng

namespace Go.Eng
variable {q:Rat}
theorem qIK:okL 1:=by show nl 1<=1024;decide
theorem qJl:okL 0:=by show nl 0<=1024;decide
theorem qNi (s:qOK)(hl:s.length<=1000000000):(q6P [.s s,.s [47]]).run=some (0,if sP s<s.length then [.s (s.take (sP s)),.s (s.drop (sP s+1)),.b true] else [.s s,.s [],.b false]):=by
 rw[qwf];have h:(zZ [.s s,.s [47]]).run=some (0,if sP s<s.length then [.s (s.take (sP s)),.s (s.drop (sP s+1)),.b true] else [.s s,.s [],.b false]):=by
  rw[qdq];have hI:=qLo s;by_cases hc:sP s<s.length
  ·rw[if_pos hc] at hI ⊢;have w:qo .i64 (sP s:Int) (qv [47])=((sP s+1:Nat):Int):=by show qo .i64 (sP s:Int) 1=_;rw[qK (by omega)];omega
   have a1:(0:Int)<=(sP s:Int)/\(sP s:Int)<=qv s:=by unfold qv;omega
   have a2:(0:Int)<=0/\(0:Int)<=(sP s:Int):=by omega
   have a3:(0:Int)<=qv s/\qv s<=qv s:=by unfold qv;omega
   have a4:(0:Int)<=((sP s+1:Nat):Int)/\((sP s+1:Nat):Int)<=qv s:=by unfold qv;omega
   have e1:qfh s 0 (sP s:Int)=s.take (sP s):=by unfold qfh;simp
   have e2:qfh s ((sP s+1:Nat):Int) (qv s)=s.drop (sP s+1):=by unfold qfh qv;simp only[qOX];rw[qPX]
   simp only[STD,hI,a1.1,a1.2,a2,a3,a4,and_self,w,e1,e2]
  ·rw[if_neg hc] at hI ⊢;have a:¬(0:Int)<=-1:=by omega
   simp only[STD,hI,a]
 by_cases hc:sP s<s.length
 ·rw[if_pos hc] at h ⊢;simp only[STD,h]
 ·rw[if_neg hc] at h ⊢;simp only[STD,h]
theorem qNb (s:qOK)(hl:s.length<=1000000000):(qV [.s s]).run=some (0,[.s (spn s),.s (spd s),.b (decide (sP s<s.length))]):=by
 rw[qAM];have h:=qNi s hl;unfold spn spd;by_cases hc:sP s<s.length
 ·rw[if_pos hc] at h ⊢;rw[decide_eq_true hc];simp only[STD,h]
 ·rw[if_neg hc] at h ⊢;have:sP s=s.length:=by have:=qLy s;omega
  rw[decide_eq_false hc,this,qPX];simp only[STD,h]
theorem qNh (q:Rat):(sP (tQ q)<(tQ q).length)=(q.den≠1):=by
 by_cases h:q.den=1
 ·rw[qjg h,qz1 (qvM _)];simp[h]
 ·rw[qeT h,qI1 (qvM _)];simp[h]
def okQ(q:Rat):Prop:=qn q<=1024/\qd q<=1024
theorem q8Q (h:okQ q):okL q.num:=h.1
theorem q5J (h:okQ q):okL (q.den:Int):=h.2
theorem qG8 (h:okQ q):(tQ q).length<=3000:=by have:=qKM q;have:=h.1;have:=h.2;omega
theorem qks (h:okQ q):(qV [.s (tQ q)]).run=some (0,[.s (tI q.num),.s (tI (q.den:Int)),.b (decide (q.den≠1))]):=by have:=qG8 h;rw[qNb _ (by omega),qH4,qIa,q1x];simp only[qNh]
open Classical in
noncomputable def vI(s:qOK):Int:=if h:∃m:Int,s=tI m then h.choose else 0
theorem qM7 (m:Int):vI (tI m)=m:=by unfold vI;have h:∃k:Int,tI m=tI k:=⟨m,rfl⟩;rw[dif_pos h];exact(qB5 h.choose_spec).symm
theorem qIE {s:qOK}(h:qDS s=0):∃m:Int,s=tI m/\okL m:=by
 unfold qDS at h;split at h
 ·rename_i hm;obtain⟨m,rfl⟩:=hm;rw[qAV] at h;split at h
  ·rename_i hl;exact⟨m,rfl,hl⟩
  ·omega
 ·omega
theorem qBd (s:qOK):qDS s=0\/qDS s=3\/qDS s=11:=by
 unfold qDS;split
 ·split<;>simp
 ·simp
noncomputable def qNR(s:qOK):Int:=
 if qDS (spn s)=3 then 3 else if qDS (spd s)=3 then 3 else if qDS (spn s)≠0 then 11 else if qDS (spd s)≠0 then 11
 else if sP s<s.length then (if sgn (vI (spd s)-1)<=0 then 3 else if Nat.gcd (vI (spn s)).natAbs (vI (spd s)).natAbs=1 then 0 else 3) else 0
theorem qMs (s:qOK):(spn s).length<=s.length:=by unfold spn;rw[qPJ];omega
theorem qNd (s:qOK):(spd s).length<=s.length+1:=by unfold spd;split<;>simp<;>omega
theorem qz7 (s:qOK)(hl:s.length<=100000000):(zu [.s s]).run=some (0,[.i (qNR s)]):=by
 rw[qvL];have hn:=qMs s;have hd:=qNd s;have h1:=qi2 (spn s) (by omega);have h2:=qi2 (spd s) (by omega);have hc:=qNb s (by omega);have mx:qzG 11 0=11/\qzG 11 11=11/\qzG 0 11=11:=by decide
 unfold qNR;rcases qBd (spn s) with a|a|a<;>rcases qBd (spd s) with b|b|b<;>rw[a] at h1 ⊢<;>rw[b] at h2 ⊢
 ·obtain⟨m,em,om⟩:=qIE a;obtain⟨n,en,on⟩:=qIE b;rw[em] at h1 hc ⊢;rw[en] at h2 hc ⊢;have hC:=qjF on (n:=1) qIK;rw[qKr] at hC;have hG:=qNs om on;rw[qM7,qM7];by_cases hs:sP s<s.length
  ·by_cases ho:sgn (n-1)<=0
   ·simp only[STD,hc,h1,h2,hs,hC,hG,ho,show ¬((0:Int)=3) by omega,show ¬((0:Int)≠0) by omega]
   ·by_cases hg:Nat.gcd m.natAbs n.natAbs=1
    ·simp only[STD,hc,h1,h2,hs,hC,hG,ho,hg,zQ,qc1,show ¬((0:Int)=3) by omega,show ¬((0:Int)≠0) by omega]
    ·simp only[STD,hc,h1,h2,hs,hC,hG,ho,hg,zQ,qc1,show ¬((0:Int)=3) by omega,show ¬((0:Int)≠0) by omega]
  ·simp only[STD,hc,h1,h2,hs,show ¬((0:Int)=3) by omega,show ¬((0:Int)≠0) by omega]
 all_goals simp only[STD,hc,h1,h2,mx,show ¬((0:Int)=3) by omega,show ¬((11:Int)=3) by omega,show ¬((11:Int)=0) by omega,show ¬((3:Int)=0) by omega]
theorem qLi (h:okQ q):qNR (tQ q)=0:=by
 unfold qNR;have e1:spd (tQ q)=tI (q.den:Int):=by rw[qIa,q1x]
 rw[qH4,e1,qCA (q8Q h),qCA (q5J h)];simp only[qM7,qNh];by_cases hd:q.den=1
 ·simp[hd]
 ·have:=q.den_nz;have hs:¬sgn ((q.den:Int)-1)<=0:=by unfold sgn;rw[if_neg (by omega),if_neg (by omega)];omega
  have hr:Nat.gcd q.num.natAbs q.den=1:=q.reduced;simp[hd,hs,hr]
theorem qvE {l:List (List UInt8)}(hn:l.length<1000000)(h:∀s,s∈l->(zu [.s s]).run=some (0,[.i 0])):(qC [.r (rS l)]).run=some (0,[.i 0]):=by
 rw[qu9,qx5];have key:=qu (S:=q1E) (fun i=>[.r (rS l),.i (l.length:Int),.i (i:Int)]) (0,[]) l.length (by omega) (fun i hi=>by
  rw[qgK,qGz hi];have a1:(i:Int)<(l.length:Int):=by omega
  have a2:(i:Int)<qg (rS l):=by rw[qx5];exact a1
  simp only[STD,a1,a2,qe3,and_self,h _ (qPx hi),j5 hi (show l.length<9223372036854775808 by omega)]) (by
  rw[qgK];have a1:¬(l.length:Int)<(l.length:Int):=by omega
  simp only[STD,a1])
 simp only[show (((0:Nat)):Int)=0 from rfl] at key;simp only[STD,key,zm key]
theorem qbE (h:okQ q):(zu [.s (tQ q)]).run=some (0,[.i 0]):=by have:=qG8 h;rw[qz7 _ (by omega),qLi h]
theorem qjH {a b:Rat}(ha:okQ a)(hb:okQ b):(qC [.r [[.s (tQ a)],[.s (tQ b)]]]).run=some (0,[.i 0]):=by
 exact qvE (l:=[tQ a,tQ b]) (by simp) (fun s hs=>by
  simp only[qP5,List.not_mem_nil,or_false] at hs;rcases hs with rfl|rfl
  ·exact qbE ha
  ·exact qbE hb)
theorem qLQ {m n:Int}(hm:okL m)(hn:okL n)(h:okL (m+n)):(q1I [.s (tI m),.s (tI n),.i 0]).run=some (0,[.s (tI (m+n)),.i 0]):=by
 rw[qqz];have:(wF [.s (tI m),.s (tI n),.i 0]).run=some (0,[.s (tI (m+n)),.i 0]):=by rw[qdK];simp only[STD,qNj hm hn h]
 simp only[STD,this]
theorem qHM {m n:Int}(hm:okL m)(hn:okL n)(h:okL (m-n)):(j0 [.s (tI m),.s (tI n),.i 0]).run=some (0,[.s (tI (m-n)),.i 0]):=by
 rw[qrh];have:(wK [.s (tI m),.s (tI n),.i 0]).run=some (0,[.s (tI (m-n)),.i 0]):=by rw[qdD];simp only[STD,qOh hm hn h]
 simp only[STD,this]
theorem qL4 {m n:Int}(hm:okL m)(hn:okL n)(h:okL (m*n)):(zy [.s (tI m),.s (tI n),.i 0]).run=some (0,[.s (tI (m*n)),.i 0]):=by rw[qdO];simp only[STD,qOo hm hn h]
theorem qLZ {m n:Int}(hm:okL m)(hn:okL n):(wL [.s (tI m),.s (tI n),.i 0]).run=some (0,[.s (tN (Nat.gcd m.natAbs n.natAbs)),.i 0]):=by rw[qdH];simp only[STD,qNs hm hn]
theorem qz4 {k n:Int}(h0:n≠0)(hm:okL (k*n))(hn:okL n):(qP [.s (tI (k*n)),.s (tI n),.i 0]).run=some (0,[.s (tI k),.i 0]):=by rw[qdM];simp only[STD,qO6 h0 hm hn]
def prd:Int->List Int->Int
 | a,[]=>a
 | a,m::l=>prd (a*m) l
def qLp:Int->List Int->Prop
 | a,[]=>okL a
 | a,m::l=>okL a/\okL m/\qLp (a*m) l
theorem qGW:∀(l:List Int) (pre:List Int) (a:Int),qLp a l->pre.length+l.length<1000->∀f,l.length<f ->
  (qqd jP f [.s (tI a),.r (rS ((pre++l).map tI)),.i ((pre++l).length:Int),.i (pre.length:Int),.i 0]).run=some (0,[.s (tI (prd a l)),.i 0])
 | [],pre,a,h,hl,f,hf=>by
  obtain⟨f,rfl⟩:∃g,f=g+1:=⟨f-1,by simp at hf;omega⟩;refine qqa ?_;rw[qdr,qPL];have a1:¬(pre.length:Int)<(pre.length:Int):=by omega
  simp only[STD,a1];rfl
 | m::l,pre,a,h,hl,f,hf=>by
  obtain⟨f,rfl⟩:∃g,f=g+1:=⟨f-1,by simp at hf;omega⟩;obtain⟨h1,h2,h3⟩:=h;have hlt:pre.length<(pre++m::l).length:=by simp
  have ih:=qGW l (pre++[m]) (a*m) h3 (by simp at hl ⊢;omega) f (by simp at hf;omega);rw[qPj,List.singleton_append] at ih;have hok:okL (a*m):=by
   cases l with
   | nil=>exact h3
   | cons x l=>exact h3.1
  rw[qzq (qs:=[.s (tI (a*m)),.r (rS ((pre++m::l).map tI)),.i ((pre++m::l).length:Int),.i ((pre++[m]).length:Int),.i 0])]
  ·exact ih
  ·rw[qdr];have hlt2:pre.length<((pre++m::l).map tI).length:=by simp
   rw[qGz hlt2];have e:((pre++m::l).map tI)[pre.length]=tI m:=by simp
   rw[e];have a1:(pre.length:Int)<((pre++m::l).length:Int):=by omega
   have a2:(pre.length:Int)<qg (rS ((pre++m::l).map tI)):=by rw[qx5];omega
   have w:qo .i64 (pre.length:Int) 1=((pre++[m]).length:Int):=by rw[qK (by omega)];simp
   simp only[STD,a1,a2,qe3,and_self,qL4 h1 h2 hok,w]
theorem qNp (l:List Int)(h:qLp 1 l)(hl:l.length<1000):(qt [.r (rS (l.map tI)),.i 0]).run=some (0,[.s (tI (prd 1 l)),.i 0]):=by
 rw[qqB,qx5];have h1:=qGW l [] 1 h (by simp;omega) qrH (by unfold qrH;omega);simp only[qQ5,qPu] at h1;have e:(qf jP [.s [49],.r (rS (l.map tI)),.i ((l.map tI).length:Int),.i 0,.i 0]).run=some (0,[.s (tI (prd 1 l)),.i 0]):=by rw[qOV];exact h1
 simp only[STD,e]
theorem qix {m n:Int}(hm:okL m)(hn:okL n)(h:okL (m*n)):(qt [.r [[.s (tI m)],[.s (tI n)]],.i 0]).run=some (0,[.s (tI (m*n)),.i 0]):=by have:=qNp [m,n] ⟨qIK,hm,by rw[qQ6];exact hm,hn,by rw[qQ6];exact h⟩ (by simp);simp only[prd,qQ6] at this;exact this
theorem qAm (h:okQ q):(q1V [.s (tI q.num),.s (tI (q.den:Int))]).run=some (0,[.s (tQ q)]):=by
 rw[qvz,q1x];have l1:=qD3 (q8Q h);have l2:(tN q.den).length<=1024:=h.2;have a1:qv (tI q.num)+qv [47]<=140737488355328:=by unfold qv;simp;omega
 have a2:qv (qgU (tI q.num) [47])+qv (tN q.den)<=140737488355328:=by unfold qv qgU;simp;omega
 by_cases h1:q.den=1
 ·simp only[STD,zQ,qc1,h1,qjg h1]
 ·simp only[STD,zQ,qc1,h1,qeT h1,a1,a2];simp[qgU]
theorem qIN (s:qOK):(ue [.s s,.s [45]]).run=some (0,[.b (decide (s.getD 0 0=45))]):=by rw[qlA];simp only[STD,qGi]
theorem qNI (n:Int):((tI n).getD 0 0=45)=(n<0):=by
 by_cases h:n<0
 ·rw[qee h];simp[h]
 ·rw[qne h];obtain⟨c,t,e,h1,h2⟩:=qlm (zM n.natAbs) (qtF _);rw[e];simp only[qQf,h,eq_iff_iff,iff_false];intro hc;subst hc;revert h1;decide
theorem qt1 {m n:Int}(hn0:n≠0)(hm:okL m)(hn:okL n):(qT [.s (tI m),.s (tI n),.i 0]).run=some (0,[.s (tQ (Rat.divInt m n)),.i 0])/\okQ (Rat.divInt m n):=by
 have hG:=qLZ hm hn;have hg0:0<Nat.gcd m.natAbs n.natAbs:=Nat.gcd_pos_of_pos_right _ (by omega);have hgn:Nat.gcd m.natAbs n.natAbs<=n.natAbs:=Nat.gcd_le_right _ (by omega);have hnum:=Rat.num_divInt m n;have hden:=Rat.den_divInt m n;rw[if_neg hn0] at hden;have hgc:Int.gcd n m=Nat.gcd m.natAbs n.natAbs:=by unfold Int.gcd;exact qQh _ _
 rw[hgc] at hnum hden;obtain⟨k,hk⟩:((Nat.gcd m.natAbs n.natAbs:Nat):Int) ∣ m:=Int.ofNat_dvd_left.2 (Nat.gcd_dvd_left _ _);obtain⟨l,hl⟩:((Nat.gcd m.natAbs n.natAbs:Nat):Int) ∣ n:=Int.ofNat_dvd_left.2 (Nat.gcd_dvd_right _ _);generalize Nat.gcd m.natAbs n.natAbs=g at *;generalize Rat.divInt m n=q at *;have hgok:okL (g:Int):=qKq (by simpa using hgn) hn;have hm2:k*(g:Int)=m:=by rw[qPU];exact hk.symm
 have hn2:l*(g:Int)=n:=by rw[qPU];exact hl.symm
 have hgz:(g:Int)≠0:=by omega
 have hok:okQ q:=by
  constructor
  ·refine qOP (quv ?_) hm;rw[hnum];refine qOP (qQP _ _) ?_;rw[qPZ,qR2 hn0];omega
  ·refine qOP (kA ?_) hn;rw[hden];exact qQG _ _
 refine⟨?_,hok⟩;rw[qlQ];have hP:=qIN (tI n);simp only[qNI] at hP;by_cases hneg:n<0
 ·have e1:-k=q.num:=by rw[hnum,Int.sign_eq_neg_one_of_neg hneg,<-hm2];rw[show (-1:Int)*(k*(g:Int))=(-k)*(g:Int) by rw[Int.neg_mul,qQ6,Int.neg_mul]];exact(qQw _ hgz).symm
  have e2:-l=(q.den:Int):=by
   rw[hden];have h3:(n.natAbs:Int)=(-l)*(g:Int):=by rw[Int.neg_mul];omega
   rw[Int.natCast_ediv,h3,qQw _ hgz]
  have hS:=qHM (m:=0) (n:=(g:Int)) qJl hgok (by rw[Int.zero_sub];exact qy0 hgok);rw[Int.zero_sub,q1x] at hS;have Q1:=qz4 (k:=-k) (n:=-(g:Int)) (by omega) (by rw[qQl,hm2];exact hm) (qy0 hgok);have Q2:=qz4 (k:=-l) (n:=-(g:Int)) (by omega) (by rw[qQl,hn2];exact hn) (qy0 hgok);rw[qQl,hm2,e1] at Q1;rw[qQl,hn2,e2] at Q2;have hS':(j0 [.s [48],.s (tN g),.i 0]).run=some (0,[.s (tI (-(g:Int))),.i 0]):=hS;simp only[STD,hG,hP,hneg,hS',Q1,Q2,qAm hok]
 ·have e1:k=q.num:=by rw[hnum,Int.sign_eq_one_of_pos (by omega),qQ6,<-hm2];exact(qQw _ hgz).symm
  have e2:l=(q.den:Int):=by
   rw[hden];have h3:(n.natAbs:Int)=l*(g:Int):=by omega
   rw[Int.natCast_ediv,h3,qQw _ hgz]
  have Q1:=qz4 (k:=k) (n:=(g:Int)) hgz (by rw[hm2];exact hm) hgok;have Q2:=qz4 (k:=l) (n:=(g:Int)) hgz (by rw[hn2];exact hn) hgok;rw[hm2,e1,q1x] at Q1;rw[hn2,e2,q1x] at Q2;simp only[STD,hG,hP,hneg,Q1,Q2,qAm hok]
end Go.Eng

namespace Go.Eng
variable {q:Rat}
theorem qEV (a b:Rat):Rat.divInt (a.num*b.den+b.num*a.den) ((a.den:Int)*(b.den:Int))=a+b:=by rw[Rat.add_def',<-Rat.divInt_ofNat];simp
theorem qFf (a b:Rat):Rat.divInt (a.num*b.den-b.num*a.den) ((a.den:Int)*(b.den:Int))=a-b:=by rw[Rat.sub_def',<-Rat.divInt_ofNat];simp
theorem qEt (a b:Rat):Rat.divInt (a.num*b.num) ((a.den:Int)*(b.den:Int))=a*b:=by rw[Rat.mul_def',<-Rat.divInt_ofNat];simp
theorem qF1 (a b:Rat):Rat.divInt (a.num*b.den) ((a.den:Int)*b.num)=a/b:=by rw[Rat.div_def,Rat.inv_def,<-Rat.divInt_mul_divInt,Rat.num_divInt_den]
theorem qqh (a b:Rat):(a.den:Int)*(b.den:Int)≠0:=by have:=Int.mul_pos (qIM a) (qIM b);omega
theorem qNU {m:Int}(h:m≠0):¬tI m=[48]:=by rw[qcr];exact h
def bnd(N D:Nat)(q:Rat):Prop:=qn q<=N/\qd q<=D
theorem bnd.ok {N D:Nat}(h:bnd N D q)(hN:N<=1024)(hD:D<=1024):okQ q:=⟨qOP h.1 hN,qOP h.2 hD⟩
theorem bnd.sm {N D K:Nat}(h:bnd N D q)(hN:N<=K)(hD:D<=K):sm K q:=⟨qOP h.1 hN,qOP h.2 hD⟩
theorem bnd.mono {N D N' D':Nat}(h:bnd N D q)(hN:N<=N')(hD:D<=D'):bnd N' D' q:=⟨qOP h.1 hN,qOP h.2 hD⟩
theorem bnd.mul {N D N' D':Nat}{a b:Rat}(ha:bnd N D a)(hb:bnd N' D' b):bnd (N+N') (D+D') (a*b):=⟨qOP (qKP a b) (Nat.add_le_add ha.1 hb.1),qOP (qKQ a b) (Nat.add_le_add ha.2 hb.2)⟩
theorem bnd.add {N D N' D' K:Nat}{a b:Rat}(ha:bnd N D a)(hb:bnd N' D' b)(h1:N+D'+1<=K)(h2:N'+D+1<=K):bnd K (D+D') (a+b):=⟨by have:=qMp a b;have:=ha.1;have:=ha.2;have:=hb.1;have:=hb.2;omega,by have:=qNr a b;have:=ha.2;have:=hb.2;omega⟩
theorem bnd.sub {N D N' D' K:Nat}{a b:Rat}(ha:bnd N D a)(hb:bnd N' D' b)(h1:N+D'+1<=K)(h2:N'+D+1<=K):bnd K (D+D') (a-b):=⟨by have:=qNe a b;have:=ha.1;have:=ha.2;have:=hb.1;have:=hb.2;omega,by have:=qMm a b;have:=ha.2;have:=hb.2;omega⟩
theorem bnd.div {N D N' D':Nat}{a b:Rat}(h0:b≠0)(ha:bnd N D a)(hb:bnd N' D' b):bnd (N+D') (D+N') (a/b):=⟨by have:=qN4 a h0;have:=ha.1;have:=hb.2;omega,by have:=qMB a h0;have:=ha.2;have:=hb.1;omega⟩
theorem bnd.neg {N D:Nat}{a:Rat}(h:bnd N D a):bnd N D (-a):=⟨by rw[qNw];exact h.1,h.2⟩
theorem qex:bnd 1 1 0:=⟨by decide,by decide⟩
theorem qzu:bnd 1 1 1:=⟨by decide,by decide⟩
theorem q9Y {m n:Int}{N M:Nat}(hm:nl m<=N)(hn:nl n<=M)(h:N+M<=1024):okL (m*n):=by have:=uB m n;unfold okL;omega
theorem qht {N D N' D':Nat}{a b:Rat}(ha:bnd N D a)(hb:bnd N' D' b)(h1:N+N'<=1024)(h2:D+D'<=1024):(vK [.s (tQ a),.s (tQ b)]).run=some (0,[.s (tQ (a*b)),.i 0]):=by
 have oa:=ha.ok (by omega) (by omega);have ob:=hb.ok (by omega) (by omega);have k1:okL (a.num*b.num):=q9Y ha.1 hb.1 h1;have k2:okL ((a.den:Int)*(b.den:Int)):=q9Y ha.2 hb.2 h2;have m1:=qix (q8Q oa) (q8Q ob) k1;have m2:=qix (q5J oa) (q5J ob) k2;have hL:=(qt1 (qqh a b) k1 k2).1;rw[qEt] at hL;rw[qBq];have key:(vd [.s (tQ a),.s (tQ b)]).run=some (0,[.s (tQ (a*b)),.i 0]):=by
  rw[qeQ];have h1:(q3B [.s (tI a.num),.s (tI (a.den:Int)),.s (tI b.num),.s (tI (b.den:Int)),.i 0]).run=some (0,[.s (tI (a.num*b.num)),.s (tI ((a.den:Int)*(b.den:Int))),.i 0]):=by rw[qwg];simp only[STD,m1,m2]
  simp only[STD,qjH oa ob,qks oa,qks ob,h1,zQ,qNU (qqh a b),hL]
 simp only[STD,key]
theorem qnH {N D N' D':Nat}{a b:Rat}(ha:bnd N D a)(hb:bnd N' D' b)(h1:N+D'<=1023)(h2:N'+D<=1023)(h3:D+D'<=1024):(uh [.s (tQ a),.s (tQ b)]).run=some (0,[.s (tQ (a+b)),.i 0]):=by
 have p1:=qxq a;have p2:=qxq b;have p3:=qxx a;have p4:=qxx b;have oa:okQ a:=⟨by have:=ha.1;have:=hb.2;omega,by have:=ha.2;have:=hb.2;omega⟩;have ob:okQ b:=⟨by have:=hb.1;have:=ha.2;omega,by have:=ha.2;have:=hb.2;omega⟩;have k1:okL (a.num*(b.den:Int)):=q9Y ha.1 hb.2 (by omega);have k2:okL (b.num*(a.den:Int)):=q9Y hb.1 ha.2 (by omega);have k3:okL ((a.den:Int)*(b.den:Int)):=q9Y ha.2 hb.2 h3;have k4:okL (a.num*(b.den:Int)+b.num*(a.den:Int)):=by have q1:=qAG (a.num*(b.den:Int)) (b.num*(a.den:Int));have q2:=uB a.num (b.den:Int);have q3:=uB b.num (a.den:Int);have q4:nl a.num<=N:=ha.1;have q5:nl (b.den:Int)<=D':=hb.2;have q6:nl b.num<=N':=hb.1;have q7:nl (a.den:Int)<=D:=ha.2;unfold okL;omega
 have m1:=qix (q8Q oa) (q5J ob) k1;have m2:=qix (q8Q ob) (q5J oa) k2;have m3:=qix (q5J oa) (q5J ob) k3;have hL:=(qt1 (qqh a b) k4 k3).1;rw[qEV] at hL;rw[qAl];have key:(vb [.s (tQ a),.s (tQ b)]).run=some (0,[.s (tQ (a+b)),.i 0]):=by
  rw[qeU];have h1:(q3x [.s (tI a.num),.s (tI (a.den:Int)),.s (tI b.num),.s (tI (b.den:Int)),.i 0]).run=some (0,[.s (tI (a.num*b.den+b.num*a.den)),.s (tI ((a.den:Int)*(b.den:Int))),.i 0]):=by rw[qwV];simp only[STD,m1,m2,m3,qLQ k1 k2 k4]
  simp only[STD,qjH oa ob,qks oa,qks ob,h1,zQ,qNU (qqh a b),hL]
 simp only[STD,key]
theorem qca {N D N' D':Nat}{a b:Rat}(ha:bnd N D a)(hb:bnd N' D' b)(h1:N+D'<=1023)(h2:N'+D<=1023)(h3:D+D'<=1024):(wk [.s (tQ a),.s (tQ b)]).run=some (0,[.s (tQ (a-b)),.i 0]):=by
 have p1:=qxq a;have p2:=qxq b;have p3:=qxx a;have p4:=qxx b;have oa:okQ a:=⟨by have:=ha.1;have:=hb.2;omega,by have:=ha.2;have:=hb.2;omega⟩;have ob:okQ b:=⟨by have:=hb.1;have:=ha.2;omega,by have:=ha.2;have:=hb.2;omega⟩;have k1:okL (a.num*(b.den:Int)):=q9Y ha.1 hb.2 (by omega);have k2:okL (b.num*(a.den:Int)):=q9Y hb.1 ha.2 (by omega);have k3:okL ((a.den:Int)*(b.den:Int)):=q9Y ha.2 hb.2 h3;have k4:okL (a.num*(b.den:Int)-b.num*(a.den:Int)):=by have q1:=qDR (a.num*(b.den:Int)) (b.num*(a.den:Int));have q2:=uB a.num (b.den:Int);have q3:=uB b.num (a.den:Int);have q4:nl a.num<=N:=ha.1;have q5:nl (b.den:Int)<=D':=hb.2;have q6:nl b.num<=N':=hb.1;have q7:nl (a.den:Int)<=D:=ha.2;unfold okL;omega
 have m1:=qix (q8Q oa) (q5J ob) k1;have m2:=qix (q8Q ob) (q5J oa) k2;have m3:=qix (q5J oa) (q5J ob) k3;have hL:=(qt1 (qqh a b) k4 k3).1;rw[qFf] at hL;rw[qzX];have key:(ve [.s (tQ a),.s (tQ b)]).run=some (0,[.s (tQ (a-b)),.i 0]):=by
  rw[qfE];have h1:(q3Y [.s (tI a.num),.s (tI (a.den:Int)),.s (tI b.num),.s (tI (b.den:Int)),.i 0]).run=some (0,[.s (tI (a.num*b.den-b.num*a.den)),.s (tI ((a.den:Int)*(b.den:Int))),.i 0]):=by rw[qwt];simp only[STD,m1,m2,m3,qHM k1 k2 k4]
  simp only[STD,qjH oa ob,qks oa,qks ob,h1,zQ,qNU (qqh a b),hL]
 simp only[STD,key]
theorem q8E (q:Rat):(tQ q=[48])=(q=0):=by have:([48]:qOK)=tQ 0:=rfl;rw[this,qFx]
theorem qBU {N D N' D':Nat}{a b:Rat}(hb0:b≠0)(ha:bnd N D a)(hb:bnd N' D' b)(h1:N+D'<=1024)(h2:D+N'<=1024):(q5v [.s (tQ a),.s (tQ b)]).run=some (0,[.s (tQ (a/b)),.i 0]):=by
 have oa:okQ a:=⟨by have:=ha.1;omega,by have:=ha.2;omega⟩;have ob:okQ b:=⟨by have:=hb.1;omega,by have:=hb.2;omega⟩;have k1:okL (a.num*(b.den:Int)):=q9Y ha.1 hb.2 h1;have k2:okL ((a.den:Int)*b.num):=q9Y ha.2 hb.1 h2;have hbn:b.num≠0:=fun h=>hb0 (Rat.num_eq_zero.1 h);have hz:(a.den:Int)*b.num≠0:=by have:=qIM a;exact Int.mul_ne_zero (by omega) hbn
 have m1:=qix (q8Q oa) (q5J ob) k1;have m2:=qix (q5J oa) (q8Q ob) k2;have hL:=(qt1 hz k1 k2).1;rw[qF1] at hL;rw[qAv];have key:(wZ [.s (tQ a),.s (tQ b)]).run=some (0,[.s (tQ (a/b)),.i 0]):=by
  rw[qfa];have h1:(q3H [.s (tI a.num),.s (tI (a.den:Int)),.s (tI b.num),.s (tI (b.den:Int)),.i 0]).run=some (0,[.s (tI (a.num*b.den)),.s (tI ((a.den:Int)*b.num)),.i 0]):=by rw[qwA];simp only[STD,m1,m2]
  simp only[STD,qjH oa ob,qks oa,qks ob,h1,zQ,qNU hz,hL]
 simp only[STD,qjH oa ob,zQ,q8E,hb0,key]
def rX(a b c:Rat):Int:=a.num*b.den*c.den
def rY(a b:Rat):Int:=b.num*a.den
def rR(c:Rat):Int:=c.num*c.den
structure RootOk (a b c:Rat):Prop where
 oa:okQ a
 ob:okQ b
 oc:okQ c
 x1:okL (a.num*b.den)
 x:okL (rX a b c)
 y:okL (rY a b)
 r:okL (rR c)
 xx:okL (rX a b c*rX a b c)
 yy:okL (rY a b*rY a b)
 yr:okL (rY a b*rY a b*rR c)
 d:okL (rX a b c*rX a b c-rY a b*rY a b*rR c)
theorem RootOk.of {N D N' D' R E:Nat}{a b c:Rat}(ha:bnd N D a)(hb:bnd N' D' b)(hc:bnd R E c)(h1:2*(N+D'+E)<=1023)(h2:2*(N'+D)+R+E<=1023):RootOk a b c:=by have q1:nl a.num<=N:=ha.1;have q2:nl (a.den:Int)<=D:=ha.2;have q3:nl b.num<=N':=hb.1;have q4:nl (b.den:Int)<=D':=hb.2;have q5:nl c.num<=R:=hc.1;have q6:nl (c.den:Int)<=E:=hc.2;have x1:=uB a.num b.den;have x2:=uB (a.num*b.den) c.den;have y1:=uB b.num a.den;have r1:=uB c.num c.den;have xx:=uB (rX a b c) (rX a b c);have yy:=uB (rY a b) (rY a b);have yr:=uB (rY a b*rY a b) (rR c);have dd:=qDR (rX a b c*rX a b c) (rY a b*rY a b*rR c);have e1:nl (rX a b c)=nl (a.num*b.den*c.den):=rfl;have e2:nl (rY a b)=nl (b.num*a.den):=rfl;have e3:nl (rR c)=nl (c.num*c.den):=rfl;have p1:=qvl a.num;have p2:=qvl b.num;have p3:=qvl c.num;have p4:=qvl (a.den:Int);have p5:=qvl (b.den:Int);have p6:=qvl (c.den:Int);exact { oa:=⟨by show nl a.num<=1024;omega,by show nl (a.den:Int)<=1024;omega⟩,ob:=⟨by show nl b.num<=1024;omega,by show nl (b.den:Int)<=1024;omega⟩,oc:=⟨by show nl c.num<=1024;omega,by show nl (c.den:Int)<=1024;omega⟩,x1:=by unfold okL;omega,x:=by unfold okL;omega,y:=by unfold okL;omega,r:=by unfold okL;omega,xx:=by unfold okL;omega,yy:=by unfold okL;omega,yr:=by unfold okL;omega,d:=by unfold okL;omega }
end Go.Eng

namespace Go.Eng
variable {m:Int}
theorem q0X (hm:-999999999999999<=m/\m<=999999999999999):(wN [.i m]).run=some (0,[.s (tQ (m:Rat))]):=by rw[qwP,qGm];simp only[STD,qgJ m (by omega)]
theorem q15 (hm:-999999999999999<=m/\m<=999999999999999):(zq [.i m]).run=some (0,[.s (tQ (m:Rat))]):=by rw[qwJ,qGm];simp only[STD,q1P m (by omega) (by omega)]
def co(x:Int):Prop:=-100000<=x/\x<=100000
theorem qe9 {x:Int}(h:co x):-999999999999999<=x/\x<=999999999999999:=by unfold co at h;omega
def qLD(l:R)(i:Nat):Prop:=co (cI l i 0)/\co (cI l i 1)/\co (cI l i 2)
def uN(l:R):Prop:=l.length<=64/\∀i,i<l.length->qLD l i
theorem qqg {k:Nat}(h:nl m<=k)(_:0<k):bnd k 1 (m:Rat):=by
 refine⟨?_,?_⟩
 ·unfold qn;rw[Rat.num_intCast];exact h
 ·unfold qd;rw[Rat.den_intCast];decide
theorem qMj {k:Nat}(h:m.natAbs<10^k)(hk:0<k):nl m<=k:=by obtain⟨j,rfl⟩:∃j,k=j+1:=⟨k-1,by omega⟩;exact q2Y j _ h
theorem qjq {x:Int}(h:co x):bnd 6 1 (x:Rat):=qqg (qMj (by unfold co at h;omega) (by omega)) (by omega)
end Go.Eng

namespace Go.Eng
structure RelM (Z:Mx) (N C:Nat) (M:Nat->Nat->Rat):Prop where
 dim:Dim Z N C
 ok:∀i j,i<N->j<C->q8T Z i j=tQ (M i j)
theorem RelM.congr{Z:Mx}{N C:Nat}{M M':Nat->Nat->Rat}(h:RelM Z N C M)(e:∀i j,i<N->j<C->M i j=M' i j):RelM Z N C M':=⟨h.dim,fun i j hi hj=>by rw[h.ok i j hi hj,e i j hi hj]⟩
theorem qGG{Z:Mx}{N C i c:Nat}(h:Dim Z N C)(hi:i<N)(hc:c<C)(v:Bs)(a b:Nat):q8T (qF5 Z i c v) a b=if a=i/\b=c then v else q8T Z a b:=by
 unfold q8T qF5;by_cases ha:a=i
 ·subst ha;have hl:(Z.getD a []).length=C:=h.row hi;have h1:((Z.set a ((Z.getD a []).set c v)).getD a [])=(Z.getD a []).set c v:=by rw[qOM,qOZ (by rw[h.n];exact hi)];rfl
  rw[h1];by_cases hb:b=c
  ·subst hb;rw[if_pos ⟨rfl,rfl⟩,qOM,qOZ (by omega)];rfl
  ·rw[if_neg (fun x=>hb x.2),qOM,qOO (fun e=>hb e.symm),<-qOM]
 ·rw[if_neg (fun x=>ha x.1)];have h1:((Z.set i ((Z.getD i []).set c v)).getD a [])=Z.getD a []:=by rw[qOM,qOO (fun e=>ha e.symm),qOM]
  rw[h1]
theorem qFN{Z:Mx}{N C i j:Nat}(h:Dim Z N C)(hi:i<N)(hj:j<N)(a b:Nat):q8T (qdF Z i j) a b=q8T Z (swI j i a) b:=by
 unfold q8T qdF swI;have hn:=h.n;have g:∀(L:Mx) (x y:Nat) (r:List Bs),L.length=N->x<N->(L.set x r).getD y []=if y=x then r else L.getD y []:=fun L x y r hL hx=>by
  by_cases e:y=x
  ·subst e;rw[if_pos rfl,qOM,qOZ (by omega)];rfl
  ·rw[if_neg e,qOM,qOO (fun z=>e z.symm),qOM]
 rw[g _ j a _ (by rw[qPY,hn]) hj];by_cases e1:a=j
 ·rw[if_pos e1,if_pos e1]
 ·rw[if_neg e1,if_neg e1,g _ i a _ hn hi];by_cases e2:a=i
  ·rw[if_pos e2,if_pos e2]
  ·rw[if_neg e2,if_neg e2]
theorem RelM.set{Z:Mx}{N C:Nat}{M:Nat->Nat->Rat}(h:RelM Z N C M){i c:Nat}(hi:i<N)(hc:c<C)(q:Rat):RelM (qF5 Z i c (tQ q)) N C (fun a b=>if a=i/\b=c then q else M a b):=
 ⟨h.dim.set hi _,fun a b ha hb=>by
  rw[qGG h.dim hi hc];split
  ·rfl
  ·exact h.ok a b ha hb⟩
theorem RelM.swap{Z:Mx}{N C:Nat}{M:Nat->Nat->Rat}(h:RelM Z N C M){i j:Nat}(hi:i<N)(hj:j<N):RelM (qdF Z i j) N C (fun a b=>M (swI j i a) b):=⟨h.dim.swap hi hj,fun a b ha hb=>by rw[qFN h.dim hi hj];exact h.ok _ b (qxe hj hi ha) hb⟩
theorem qHF{dv:Op2}{N C p:Nat}{M:Nat->Nat->Rat}{f:Rat}(hp:p<N)(hd:∀j,j<C->dv (tQ (M p j)) (tQ f)=some (tQ (M p j/f))) :
  ∀(g m:Nat),m+g=C->∀Z,RelM Z N C (fun i j=>if i=p/\j<m then M p j/f else M i j)->∃Z',qww dv p (tQ f) C g Z=some Z'/\RelM Z' N C (fun i j=>if i=p then M p j/f else M i j)
 | 0,m,hm,Z,hZ=>⟨Z,rfl,hZ.congr fun i j hi hj=>by
   by_cases e:i=p
   ·rw[if_pos ⟨e,by omega⟩,if_pos e]
   ·rw[if_neg (fun x=>e x.1),if_neg e]⟩
 | g+1,m,hm,Z,hZ=>by
  have h1:C-(g+1)=m:=by omega
  have h2:q8T Z p m=tQ (M p m):=by rw[hZ.ok p m hp (by omega),if_neg (by omega)]
  unfold qww;rw[h1,h2,hd m (by omega),qPd];exact qHF hp hd g (m+1) (by omega) _ ((hZ.set hp (show m<C by omega) (M p m/f)).congr fun i j hi hj=>by
   by_cases e:i=p
   ·subst e;by_cases e2:j=m
    ·subst e2;rw[if_pos ⟨rfl,rfl⟩,if_pos ⟨rfl,by omega⟩]
    ·rw[if_neg (fun x=>e2 x.2)];by_cases e3:j<m
     ·rw[if_pos ⟨rfl,e3⟩,if_pos ⟨rfl,by omega⟩]
     ·rw[if_neg (fun x=>e3 x.2),if_neg (fun x=>e3 (by omega))]
   ·rw[if_neg (fun x=>e x.1),if_neg (fun x=>e x.1),if_neg (fun x=>e x.1)])
theorem qxE{ml sb:Op2}{N C p i:Nat}{M:Nat->Nat->Rat}{t:Rat}(hp:p<N)(hi:i<N)(hip:i≠p)(h1:∀j,j<C->ml (tQ t) (tQ (M p j))=some (tQ (t*M p j)))(h2:∀j,j<C->sb (tQ (M i j)) (tQ (t*M p j))=some (tQ (M i j-t*M p j))) :
  ∀(g m:Nat),m+g=C->∀Z,RelM Z N C (fun a j=>if a=i/\j<m then M i j-t*M p j else M a j)->∃Z',qhm ml sb i p (tQ t) C g Z=some Z'/\RelM Z' N C (fun a j=>if a=i then M i j-t*M p j else M a j)
 | 0,m,hm,Z,hZ=>⟨Z,rfl,hZ.congr fun a j ha hj=>by
   by_cases e:a=i
   ·rw[if_pos ⟨e,by omega⟩,if_pos e]
   ·rw[if_neg (fun x=>e x.1),if_neg e]⟩
 | g+1,m,hm,Z,hZ=>by
  have e1:C-(g+1)=m:=by omega
  have q1:q8T Z p m=tQ (M p m):=by rw[hZ.ok p m hp (by omega),if_neg (fun x=>hip x.1.symm)]
  have q2:q8T Z i m=tQ (M i m):=by rw[hZ.ok i m hi (by omega),if_neg (by omega)]
  unfold qhm;rw[e1,q1,h1 m (by omega),qPd,q2,h2 m (by omega),qPd];exact qxE hp hi hip h1 h2 g (m+1) (by omega) _ ((hZ.set hi (show m<C by omega) (M i m-t*M p m)).congr fun a j ha hj=>by
   by_cases e:a=i
   ·subst e;by_cases e2:j=m
    ·subst e2;rw[if_pos ⟨rfl,rfl⟩,if_pos ⟨rfl,by omega⟩]
    ·rw[if_neg (fun x=>e2 x.2)];by_cases e3:j<m
     ·rw[if_pos ⟨rfl,e3⟩,if_pos ⟨rfl,by omega⟩]
     ·rw[if_neg (fun x=>e3 x.2),if_neg (fun x=>e3 (by omega))]
   ·rw[if_neg (fun x=>e x.1),if_neg (fun x=>e x.1),if_neg (fun x=>e x.1)])
theorem qyP{ml sb:Op2}{N C p k:Nat}{M:Nat->Nat->Rat}(hp:p<N)(hk:k<C)(h1:∀i j,i<N->i≠p->j<C->ml (tQ (M i k)) (tQ (M p j))=some (tQ (M i k*M p j)))
  (h2:∀i j,i<N->i≠p->j<C->sb (tQ (M i j)) (tQ (M i k*M p j))=some (tQ (M i j-M i k*M p j))) :
  ∀(g m:Nat),m+g=N->∀Z,RelM Z N C (fun i j=>if i<m/\i≠p then M i j-M i k*M p j else M i j)->∃Z',qsR ml sb p k N C g Z=some Z'/\RelM Z' N C (fun i j=>if i≠p then M i j-M i k*M p j else M i j)
 | 0,m,hm,Z,hZ=>⟨Z,rfl,hZ.congr fun i j hi hj=>by
   by_cases e:i≠p
   ·rw[if_pos ⟨by omega,e⟩,if_pos e]
   ·rw[if_neg (fun x=>e x.2),if_neg e]⟩
 | g+1,m,hm,Z,hZ=>by
  have e1:N-(g+1)=m:=by omega
  have q1:q8T Z m k=tQ (M m k):=by rw[hZ.ok m k (by omega) hk,if_neg (by omega)]
  unfold qsR;rw[e1,q1];have zi:=q8E (M m k);have skip:(m=p\/M m k=0)->RelM Z N C (fun i j=>if i<m+1/\i≠p then M i j-M i k*M p j else M i j):=fun h=>hZ.congr fun i j hi hj=>by
   by_cases e:i=m
   ·subst e;rw[if_neg (by omega)];rcases h with h|h
    ·rw[if_neg (fun x=>x.2 h)]
    ·by_cases e2:i=p
     ·rw[if_neg (fun x=>x.2 e2)]
     ·rw[if_pos ⟨by omega,e2⟩,h];grind
   ·by_cases e2:i<m/\i≠p
    ·rw[if_pos e2,if_pos ⟨by omega,e2.2⟩]
    ·rw[if_neg e2,if_neg (fun x=>e2 ⟨by omega,x.2⟩)]
  by_cases hc:m=p\/M m k=0
  ·rw[if_pos (by rw[zi];exact hc)];exact qyP hp hk h1 h2 g (m+1) (by omega) Z (skip hc)
  ·rw[if_neg (by rw[zi];exact hc)];rw[not_or] at hc;obtain⟨Z1,r1,r2⟩:=qxE (ml:=ml) (sb:=sb) (M:=fun i j=>if i<m/\i≠p then M i j-M i k*M p j else M i j) (t:=M m k) hp (show m<N by omega) hc.1
    (fun j hj=>by rw[if_neg (by omega)];exact h1 m j (by omega) hc.1 hj) (fun j hj=>by rw[if_neg (by omega),if_neg (by omega)];exact h2 m j (by omega) hc.1 hj) C 0 (by omega) Z (hZ.congr fun i j hi hj=>by rw[if_neg (show ¬(i=m/\j<0) by omega)])
   rw[r1,qPd];exact qyP hp hk h1 h2 g (m+1) (by omega) Z1 (r2.congr fun i j hi hj=>by
    by_cases e:i=m
    ·subst e;rw[if_pos rfl,if_neg (by omega),if_neg (by omega),if_pos ⟨by omega,hc.1⟩]
    ·rw[if_neg e];by_cases e2:i<m/\i≠p
     ·rw[if_pos e2,if_pos ⟨by omega,e2.2⟩]
     ·rw[if_neg e2,if_neg (fun x=>e2 ⟨by omega,x.2⟩)])
def pvI(M:Nat->Nat->Rat)(k N:Nat):Nat->Nat
 | 0=>N
 | g+1=>if M (N-(g+1)) k=0 then pvI M k N g else N-(g+1)
theorem qjU(M:Nat->Nat->Rat)(k N:Nat):∀g,g<=N->(pvI M k N g=N/\∀i,N-g<=i->i<N->M i k=0)\/(N-g<=pvI M k N g/\pvI M k N g<N/\M (pvI M k N g) k≠0)
 | 0,_=>.inl ⟨rfl,fun i h1 h2=>by omega⟩
 | g+1,h=>by
  unfold pvI;by_cases e:M (N-(g+1)) k=0
  ·rw[if_pos e];rcases qjU M k N g (by omega) with⟨h1,h2⟩|⟨h1,h2,h3⟩
   ·refine .inl ⟨h1,fun i a b=>?_⟩;by_cases q:i=N-(g+1)
    ·rw[q];exact e
    ·exact h2 i (by omega) b
   ·exact .inr ⟨by omega,h2,h3⟩
  ·rw[if_neg e];exact .inr ⟨qON _,by omega,e⟩
theorem qEb{Z:Mx}{N C k:Nat}{M:Nat->Nat->Rat}(h:RelM Z N C M)(hk:k<C):∀g,g<=N->qhv Z k N g=pvI M k N g
 | 0,_=>rfl
 | g+1,hg=>by
  unfold qhv pvI;rw[h.ok (N-(g+1)) k (by omega) hk,qEb h hk g (by omega)];have zi:=q8E (M (N-(g+1)) k);by_cases e:M (N-(g+1)) k=0
  ·rw[if_pos e,if_pos (by rw[zi];exact e)]
  ·rw[if_neg e,if_neg (by rw[zi];exact e)]
def pvQ(N c:Nat)(M:Nat->Nat->Rat):Option Nat:=if pvI M c N (N-c)=N then none else some (pvI M c N (N-c))
theorem qA5(N:Nat):Pivots N (pvQ N) where
 some:=fun c M i hc h=>by
  unfold pvQ at h;rcases qjU M c N (N-c) (by omega) with⟨h1,_⟩|⟨h1,h2,h3⟩
  ·rw[if_pos h1] at h;cases h
  ·rw[if_neg (by omega)] at h;cases h;exact⟨by omega,h2,h3⟩
 none:=fun c M i h hci hi=>by
  unfold pvQ at h;rcases qjU M c N (N-c) (by omega) with⟨_,h2⟩|⟨h1,h2,h3⟩
  ·exact h2 i (by omega) hi
  ·rw[if_neg (by omega)] at h;cases h
def gsP(k p i0:Nat)(M:Nat->Nat->Rat):Nat->Nat->Rat:=fun i j=>if i=p then M i0 j/M i0 k else M (swI p i0 i) j-M (swI p i0 i) k*(M i0 j/M i0 k)
theorem qKp(c i0:Nat)(M:Nat->Nat->Rat):gsP c c i0 M=gs c i0 M:=by funext i j;unfold gsP gs;simp only[Rat.div_def]
def BM(N C a b:Nat)(M:Nat->Nat->Rat):Prop:=∀i j,i<N->j<C->bnd a b (M i j)
structure OpsQ (ml dv sb:Op2):Prop where
 ml:∀{a b:Rat} {N D N' D':Nat},bnd N D a->bnd N' D' b->N+N'<=1024->D+D'<=1024->ml (tQ a) (tQ b)=some (tQ (a*b))
 dv:∀{a b:Rat} {N D N' D':Nat},b≠0->bnd N D a->bnd N' D' b->N+D'<=1024->D+N'<=1024->dv (tQ a) (tQ b)=some (tQ (a/b))
 sb:∀{a b:Rat} {N D N' D':Nat},bnd N D a->bnd N' D' b->N+D'<=1023->N'+D<=1023->D+D'<=1024->sb (tQ a) (tQ b)=some (tQ (a-b))
theorem qOB:OpsQ (opF vK) (opF q5v) (opF wk) where
 ml:=fun ha hb h1 h2=>by unfold opF;rw[qht ha hb h1 h2];rfl
 dv:=fun h0 ha hb h1 h2=>by unfold opF;rw[qBU h0 ha hb h1 h2];rfl
 sb:=fun ha hb h1 h2 h3=>by unfold opF;rw[qca ha hb h1 h2 h3];rfl
theorem qM3{ml dv sb:Op2}(ops:OpsQ ml dv sb){N C k p i0 a b u v:Nat}{s:RS}{M:Nat->Nat->Rat}{d:Rat}(hs:RelM s.Z N C M)(hb:BM N C a b M)(hd:s.det=tQ d)(hdb:bnd u v d)(hp:s.p=p)(hpN:p<N)(hk:k<C)(hi:i0<N) (hpi:p<=i0) (h0:M i0 k≠0) (hf:qhv s.Z k N (N-s.p)=i0) (c1:2*a+2*b<=1023) (c2:a+3*b<=1024) (c3:u+v+2+a<=1023) (c4:v+1+b<=1023) :∃s',qns ml dv sb k N C s=some s'/\RelM s'.Z N C (gsP k p i0 M)/\BM N C (2*a+2*b+1) (a+3*b) (gsP k p i0 M)/\(∃d',s'.det=tQ d'/\bnd (u+v+2+a) (v+1+b) d')/\s'.p=p+1/\s'.lead=s.lead++[k]:=by
 subst hp;unfold qns;rw[hf,if_neg (by omega)];have bi:∀j,j<C->bnd a b (M i0 j):=fun j hj=>hb i0 j hi hj;obtain⟨dd,e1,e2⟩:∃dd,(if i0=s.p then some s.det else sb [48] s.det)=some (tQ dd)/\bnd (u+v+2) (v+1) dd:=by
  by_cases e:i0=s.p
  ·exact⟨d,by rw[if_pos e,hd],hdb.mono (by omega) (by omega)⟩
  ·refine⟨0-d,?_,?_⟩
   ·rw[if_neg e,hd];have:([48]:Bs)=tQ 0:=by decide
    rw[this];exact ops.sb qex hdb (by omega) (by omega) (by omega)
   ·have:=qex.sub hdb (K:=u+v+2) (by omega) (by omega);exact this.mono (qON _) (by omega)
 rw[e1,qPd];have h1:=hs.swap hi hpN;have hpv:q8T (qdF s.Z i0 s.p) s.p k=tQ (M i0 k):=by
  rw[h1.ok s.p k hpN hk];have:swI s.p i0 s.p=i0:=by unfold swI;rw[if_pos rfl]
  rw[this]
 rw[hpv,ops.ml e2 (bi k hk) (by omega) (by omega),qPd];have eq_p:∀j,M (swI s.p i0 s.p) j=M i0 j:=fun j=>by
  have:swI s.p i0 s.p=i0:=by unfold swI;rw[if_pos rfl]
  rw[this]
 obtain⟨Z1,q1,q2⟩:=qHF (dv:=dv) (M:=fun i j=>M (swI s.p i0 i) j) (f:=M i0 k) hpN (fun j hj=>by rw[eq_p];exact ops.dv h0 (bi j hj) (bi k hk) (by omega) (by omega)) C 0 (by omega) _ (h1.congr fun i j _ _=>by rw[if_neg (by omega)]);rw[q1,qPd];have yb:∀j,j<C->bnd (a+b) (b+a) (M i0 j/M i0 k):=fun j hj=>(bi j hj).div h0 (bi k hk);have sb':∀i j,i<N->j<C->bnd a b (M (swI s.p i0 i) j):=fun i j hi' hj=>hb _ j (qxe hpN hi hi') hj;obtain⟨Z2,q3,q4⟩:=qyP (ml:=ml) (sb:=sb) (p:=s.p) (k:=k) (M:=fun i j=>if i=s.p then M i0 j/M i0 k else M (swI s.p i0 i) j) hpN hk
  (fun i j hi' e hj=>by rw[if_pos rfl,if_neg e];exact ops.ml (sb' i k hi' hk) (yb j hj) (by omega) (by omega))
  (fun i j hi' e hj=>by rw[if_pos rfl,if_neg e,if_neg e];exact ops.sb (sb' i j hi' hj) ((sb' i k hi' hk).mul (yb j hj)) (by omega) (by omega) (by omega)) N 0 (by omega) Z1
  (q2.congr fun i j _ _=>by
   rw[if_neg (show ¬(i<0/\i≠s.p) by omega)];by_cases e:i=s.p
   ·rw[if_pos e,if_pos e,eq_p]
   ·rw[if_neg e,if_neg e])
 rw[q3,qPd];refine⟨_,rfl,q4.congr fun i j _ _=>?_,fun i j hi' hj=>?_,⟨_,rfl,e2.mul (bi k hk)⟩,rfl,rfl⟩
 ·unfold gsP;by_cases e:i=s.p
  ·rw[if_pos e,if_neg (fun z=>z e),if_pos e]
  ·rw[if_neg e,if_pos e,if_neg e,if_neg e,if_pos rfl]
 ·unfold gsP;by_cases e:i=s.p
  ·rw[if_pos e];exact(yb j hj).mono (by omega) (by omega)
  ·rw[if_neg e];have:=(sb' i j hi' hj).sub ((sb' i k hi' hk).mul (yb j hj)) (K:=2*a+2*b+1) (by omega) (by omega);exact this.mono (qON _) (by omega)
def bs:Nat->Nat×Nat
 | 0=>(13,1)
 | k+1=>(2*(bs k).1+2*(bs k).2+1,(bs k).1+3*(bs k).2)
def ds:Nat->Nat×Nat
 | 0=>(1,1)
 | k+1=>((ds k).1+(ds k).2+2+(bs k).1,(ds k).2+1+(bs k).2)
theorem qOg(k:Nat)(h:k<3):2*(bs k).1+2*(bs k).2<=1023/\(bs k).1+3*(bs k).2<=1024/\(ds k).1+(ds k).2+2+(bs k).1<=1023/\(ds k).2+1+(bs k).2<=1023:=by
 match k,h with
 | 0,_=>decide
 | 1,_=>decide
 | 2,_=>decide
theorem BM.mono{N C a b a' b':Nat}{M:Nat->Nat->Rat}(h:BM N C a b M)(h1:a<=a')(h2:b<=b'):BM N C a' b' M:=fun i j hi hj=>(h i j hi hj).mono h1 h2
theorem qLO(k:Nat):(bs k).1<=(bs (k+1)).1/\(bs k).2<=(bs (k+1)).2/\(ds k).1<=(ds (k+1)).1/\(ds k).2<=(ds (k+1)).2:=by simp only[bs,ds];omega
theorem qHB{ml dv sb:Op2}(ops:OpsQ ml dv sb){N C:Nat}(hN:N<=3)(hC:N<=C):∀(g k:Nat),k+g=N->∀(s:RS) (M:Nat->Nat->Rat) (d:Rat),RelM s.Z N C M->BM N C (bs k).1 (bs k).2 M->s.det=tQ d->bnd (ds k).1 (ds k).2 d->s.p<=k->s.lead.length=s.p ->
  ∃fin M',qzE ml dv sb N N C g s=some fin/\RelM fin.Z N C M'/\BM N C (bs N).1 (bs N).2 M'/\fin.lead.length<=s.p+g/\(s.p=k->(q5H N (pvQ N) g k M=some M'/\fin.lead.length=N)\/(q5H N (pvQ N) g k M=none/\fin.lead.length<N))
 | 0,k,hk,s,M,d,hs,hb,hd,hdb,hp,hl=>by
  have:k=N:=by omega
  subst this;exact⟨s,M,rfl,hs,hb,by omega,fun h=>.inl ⟨rfl,by omega⟩⟩
 | g+1,k,hk,s,M,d,hs,hb,hd,hdb,hp,hl=>by
  have hkN:N-(g+1)=k:=by omega
  obtain⟨m1,m2,m3,m4⟩:=qLO k;obtain⟨o1,o2,o3,o4⟩:=qOg k (by omega);unfold qzE;rw[hkN];have hf:=qEb hs (show k<C by omega) (N-s.p) (by omega);rcases qjU M k N (N-s.p) (by omega) with⟨h1,h2⟩|⟨h1,h2,h3⟩
  ·have e:qns ml dv sb k N C s=some s:=by unfold qns;rw[if_pos (by rw[hf];exact h1)]
   rw[e,qPd];obtain⟨fin,M',r1,r2,r3,r4,r5⟩:=qHB ops hN hC g (k+1) (by omega) s M d hs (hb.mono m1 m2) hd (hdb.mono m3 m4) (by omega) hl;refine⟨fin,M',r1,r2,r3,by omega,fun hpk=>.inr ⟨?_,by omega⟩⟩;subst hpk;unfold q5H pvQ;rw[if_pos h1]
  ·obtain⟨s',q1,q2,q3,⟨d',q4,q5⟩,q6,q7⟩:=qM3 ops hs hb hd hdb rfl (show s.p<N by omega) (show k<C by omega) h2 (by omega) h3 hf o1 o2 o3 o4;rw[q1,qPd];obtain⟨fin,M',r1,r2,r3,r4,r5⟩:=qHB ops hN hC g (k+1) (by omega) s' _ d' q2 q3 q4 q5 (by omega) (by rw[q7,q6,qP6,hl];rfl);refine⟨fin,M',r1,r2,r3,by omega,fun hpk=>?_⟩;have hg:q5H N (pvQ N) (g+1) k M=q5H N (pvQ N) g (k+1) (gsP k s.p (pvI M k N (N-s.p)) M):=by subst hpk;rw[qKp];show (match pvQ N s.p M with|none=>none|some i0=>q5H N (pvQ N) g (s.p+1) (gs s.p i0 M))=_;unfold pvQ;rw[if_neg (by omega)]
   rw[hg];exact r5 (by omega)
variable {n:Nat}
def uw(F:Nat->Nat->Bs)(n:Nat):R:=(mkL F n n).map fun x=>[.s x]
theorem qlq (F:Nat->Nat->Bs)(n:Nat):(uw F n).length=n*n:=by unfold uw;rw[qOV,qjW]
theorem qrq (F:Nat->Nat->Bs){n i k:Nat}(hi:i<n)(hk:k<n):cS (uw F n) ((i*n+k:Nat):Int) 0=F i k:=by
 have e:((mkL F n n).map fun x=>[U.s x]).getD (i*n+k) []=[U.s (F i k)]:=by rw[qOM,qOU,qC5 F n n i k hi hk];rfl
 unfold cS zJ uw;rw[qOX,e];rfl
theorem qA3 {F G:Nat->Nat->Bs}(h:∀i k,i<n->k<n->F i k=G i k):uw F n=uw G n:=by
 unfold uw;congr 1;have:∀m,m<=n->mkL F n m=mkL G n m:=by
  intro m;induction m with
  | zero=>intro _;rfl
  | succ m ih=>
   intro hm;rw[mkL,mkL,ih (by omega)];congr 1;exact qPV fun k hk=>h m k (by omega) (qPH.1 hk)
 exact this n (qON _)
theorem qzY {l:R}(hl:l.length=n)(hn:n<1000000)(h:∀i,i<n->(zu [.s (cS l (i:Int) 0)]).run=some (0,[.i 0])):(j4 [.r l]).run=some (0,[.i 0]):=by
 rw[qr0];have key:=qu (S:=jG) (fun i=>[.r l,.i (n:Int),.i (i:Int)]) (0,[]) n (by omega) (fun i hi=>by
  rw[qd7];have e:qg l=(n:Int):=by unfold qg;rw[hl]
  simp only[STD,e,h i hi,j5 hi (show n<9223372036854775808 by omega),show (i:Int)<n by omega,show (0:Int)<=i by omega,and_self]) (by
  rw[qd7];simp only[STD,show ¬(n:Int)<n by omega])
 have e:qg l=(n:Int):=by unfold qg;rw[hl]
 have key':(qf jG [.r l,.i (qg l),.i 0]).run=some (0,[]):=by rw[e];exact key
 simp only[STD,key',zm key']
theorem qKG (h:n<=16):(vP [.i (n:Int)]).run=some (0,[.b true]):=by
 rw[qwI];have h1:(0:Int)<=n:=by omega
 have h2:(n:Int)<=16:=by omega
 have h3:ile (n:Int) 16=true:=by rw[qHp];exact h2
 simp only[STD,h1,h3]
theorem qmm {F:Nat->Nat->Bs}(hn:n<=16)(h:∀i k,i<n->k<n->(zu [.s (F i k)]).run=some (0,[.i 0])):(jx [.i n,.i n,.r (uw F n)]).run=some (0,[.i 0]):=by
 rw[qtN];have hnn:n*n<=16*16:=qPw hn hn;have e1:qg (uw F n)=((n*n:Nat):Int):=by unfold qg;rw[qlq]
 have e2:wd .i64 (n:Int) (n:Int)=((n*n:Nat):Int):=by rw[uK (by rw[<-qPz];omega)];simp
 have key:=qzY (l:=uw F n) (qlq F n) (by omega) (fun j hj=>by
  have hn0:0<n:=by
   rcases qPT n with h0|h0
   ·subst h0;simp at hj
   ·exact h0
  have h1:j/n<n:=Nat.div_lt_of_lt_mul hj;have h2:j%n<n:=qQ3 _ hn0;have h3:j=j/n*n+j%n:=by rw[Nat.mul_comm];exact(qQM j n).symm
  rw[h3,qrq F h1 h2];exact h _ _ h1 h2)
 simp only[STD,qKG hn,e1,e2,key]
def aug(n:Nat)(G:Nat->Nat->Rat):Nat->Nat->Rat:=fun i j=>if j<n then G i j else if j=n+i then 1 else 0
theorem qJv (i k:Nat):qnE i k=tQ (if i=k then 1 else 0):=by
 unfold qnE;by_cases h:i=k
 ·rw[if_pos h,if_pos h];decide
 ·rw[if_neg h,if_neg h];decide
theorem qJU {F:Nat->Nat->Bs}{G:Nat->Nat->Rat}(h:∀i k,i<n->k<n->F i k=tQ (G i k)):RelM ((List.range n).map (row0 F qnE n)) n (2*n) (aug n G):=by
 refine⟨⟨by simp,fun r hr=>?_⟩,fun i j hi hj=>?_⟩
 ·obtain⟨i,_,rfl⟩:=qPE.1 hr;unfold row0;rw[qP6,qOV,qOV,qPm];omega
 ·have e:((List.range n).map (row0 F qnE n)).getD i []=row0 F qnE n i:=by rw[qOM,qOU,qPp hi];rfl
  unfold q8T aug;rw[e];unfold row0;by_cases hjn:j<n
  ·rw[if_pos hjn,qOM,qOY (by simpa using hjn),qOU,qPp hjn];exact h i j hi hjn
  ·rw[if_neg hjn,qOM,qP4 (by simp;omega),qOV,qPm,qOU,qPp (by omega)];simp only[qPk,qPI,qJv];congr 1;by_cases e2:j=n+i
   ·rw[if_pos e2,if_pos (by omega)]
   ·rw[if_neg e2,if_neg (by omega)]
theorem qL7 {G:Nat->Nat->Rat}(h:∀i k,i<n->k<n->bnd 13 1 (G i k)):BM n (2*n) 13 1 (aug n G):=fun i j hi _=>by
 unfold aug;by_cases h1:j<n
 ·rw[if_pos h1];exact h i j hi h1
 ·rw[if_neg h1];split
  ·exact qzu.mono (by omega) (by omega)
  ·exact qex.mono (by omega) (by omega)
theorem qLu (ck ml dv sb:List PV->TR){l:R}{fin:RS}(hn:n<=16)(hl:l.length=n*n)(hok:qMl (ck [.i n,.i n,.r l])=true)(hf:qzE (opF ml) (opF dv) (opF sb) n n (2*n) n ⟨(List.range n).map (row0 (fun i k=>cS l ((i*n+k:Nat):Int) 0) qnE n),[49],[],0⟩=some fin) :qMe ck ml dv sb [.i n,.i n,.r l]=if fin.lead.length<n then .leaf (0,[.i 0,.i 0,.r [],.i 14]) else .leaf (0,[.i n,.i n,.r ((mkL (fun i k=>q8T fin.Z i (n+k)) n n).map fun x=>[.s x]),.i 0]):=by simp only[qMe,qOX];rw[if_pos ⟨trivial,by omega,by omega,hl,hok⟩,hf]
theorem qO1 (n:Nat)(hn:n<=3):(bs n).1<=337/\(bs n).2<=322:=by
 match n,hn with
 | 0,_=>decide
 | 1,_=>decide
 | 2,_=>decide
 | 3,_=>decide
theorem qOb:ya=qMe jx vK q5v wk:=rfl
theorem qGc (hn:n<=3){G:Nat->Nat->Rat}(hG:∀i k,i<n->k<n->bnd 13 1 (G i k)) :(∃N,q5H n (pvQ n) n 0 (aug n G)=some N/\BM n (2*n) 337 322 N/\(ya [.i n,.i n,.r (uw (fun i k=>tQ (G i k)) n)]).run=some (0,[.i n,.i n,.r (uw (fun i k=>tQ (N i (n+k))) n),.i 0])) \/(q5H n (pvQ n) n 0 (aug n G)=none/\(ya [.i n,.i n,.r (uw (fun i k=>tQ (G i k)) n)]).run=some (0,[.i 0,.i 0,.r [],.i 14])):=by
 obtain⟨fin,M',r1,r2,r3,r4,r5⟩:=qHB qOB (N:=n) (C:=2*n) hn (by omega) n 0 (by omega) ⟨(List.range n).map (row0 (fun i k=>tQ (G i k)) qnE n),[49],[],0⟩ (aug n G) 1
  (qJU fun _ _ _ _=>rfl) (qL7 hG) (show ([49]:Bs)=tQ 1 by decide) qzu (qON _) rfl
 have hck:qMl (jx [.i n,.i n,.r (uw (fun i k=>tQ (G i k)) n)])=true:=by unfold qMl;rw[qmm (by omega) fun i k hi hk=>qbE ((hG i k hi hk).ok (by omega) (by omega))];rfl
 have hZ:(List.range n).map (row0 (fun i k=>cS (uw (fun i k=>tQ (G i k)) n) ((i*n+k:Nat):Int) 0) qnE n)=(List.range n).map (row0 (fun i k=>tQ (G i k)) qnE n):=by
  refine qPV fun i hi=>?_;have e:(List.range n).map (fun k=>cS (uw (fun i k=>tQ (G i k)) n) ((i*n+k:Nat):Int) 0)=(List.range n).map (fun k=>tQ (G i k)):=
   qPV fun k hk=>qrq (fun i k=>tQ (G i k)) (qPH.1 hi) (qPH.1 hk)
  show (List.range n).map (fun k=>cS (uw (fun i k=>tQ (G i k)) n) ((i*n+k:Nat):Int) 0)++_=(List.range n).map (fun k=>tQ (G i k))++_;rw[e]
 have hrun:(ya [.i n,.i n,.r (uw (fun i k=>tQ (G i k)) n)])=if fin.lead.length<n then .leaf (0,[.i 0,.i 0,.r [],.i 14]) else .leaf (0,[.i n,.i n,.r ((mkL (fun i k=>q8T fin.Z i (n+k)) n n).map fun x=>[.s x]),.i 0]):=by have hx:=qLu jx vK q5v wk (show n<=16 by omega) (qlq _ _) hck (by rw[hZ];exact r1);rw[<-qOb] at hx;exact hx
 have hbs:=qO1 n hn;rcases r5 rfl with⟨q1,q2⟩|⟨q1,q2⟩
 ·refine .inl ⟨M',q1,r3.mono hbs.1 hbs.2,?_⟩;rw[hrun,if_neg (by omega)];have e:(mkL (fun i k=>q8T fin.Z i (n+k)) n n).map (fun x=>[U.s x])=uw (fun i k=>tQ (M' i (n+k))) n:=qA3 fun i k hi hk=>r2.ok i (n+k) hi (by omega);rw[e];rfl
 ·refine .inr ⟨q1,?_⟩;rw[hrun,if_pos q2];rfl
end Go.Eng

namespace Go.Eng
def txR(l:List Bs):R:=l.map fun x=>[.s x]
theorem qry(l:List Bs):qg (txR l)=(l.length:Int):=by unfold txR qg;rw[qOV]
theorem qhQ(l m:List Bs):zE (txR l) (txR m)=txR (l++m):=by unfold txR zE;rw[qP9]
theorem qic(x:Bs):[[U.s x]]=txR [x]:=rfl
theorem qHW{l:List Bs}{i:Nat}{x:Bs}(h:l[i]?=some x):cS (txR l) (i:Int) 0=x:=by
 have e:(l.map fun x=>[U.s x]).getD i []=[U.s x]:=by rw[qOM,qOU,h];rfl
 unfold cS zJ txR;rw[qOX,e];rfl
theorem qyc{a b:Nat}(h:a*b<9223372036854775808):wd .i64 (a:Int) (b:Int)=((a*b:Nat):Int):=by rw[uK (by rw[<-qPz];omega)];simp
theorem qEm{a b:Nat}(h:a+b<9223372036854775808):qo .i64 (a:Int) (b:Int)=((a+b:Nat):Int):=by rw[qK (by omega)];simp
theorem qNc{n i k:Nat}(hi:i<n)(hk:k<n):i*n+k<n*n:=by have:=qPb n (show i+1<=n by omega);rw[qP2] at this;omega
theorem qO5{n i k:Nat}{L:R}{g:Int}(hn:n<=16)(hi:i<n)(hk:k<n)(hL:L.length=n*n)(hg:cI L ((i*n+k:Nat):Int) 0=g)(hb:-999999999999999<=g/\g<=999999999999999) :(kB [.i i,.i k,.r L,.i n]).run=some (0,[.s (tQ (g:Rat)),.r L,.i n]):=by
 have h1:=qNc hi hk;have h2:n*n<=16*16:=qPw hn hn;rw[qwG,qyc (by omega),qEm (by omega),hg];have e:qg L=((n*n:Nat):Int):=by unfold qg;rw[hL]
 simp only[STD,q0X hb,e,show (0:Int)<=((i*n+k:Nat):Int) by omega,show ((i*n+k:Nat):Int)<((n*n:Nat):Int) by omega,and_self]
theorem qNN{n:Nat}{L:R}{g:Nat->Nat->Int}(hn:n<=16)(hL:L.length=n*n)(hg:∀i k,i<n->k<n->cI L ((i*n+k:Nat):Int) 0=g i k)(hb:∀i k,i<n->k<n->-999999999999999<=g i k/\g i k<=999999999999999) :(q6E [.i n,.i n,.r L,.i n]).run=some (0,[.i n,.i n,.r (uw (fun i k=>tQ (g i k:Rat)) n),.r L,.i n]):=by
 obtain⟨F,hF⟩:∃F:Nat->Nat->Bs,F=fun i k=>tQ (g i k:Rat):=⟨_,rfl⟩;have hnn:n*n<=16*16:=qPw hn hn;have ml:∀i,i<=n->(mkL F n i).length<=16*16:=fun i hi=>by rw[qjW];exact qOP (qPb n hi) hnn
 have inner:∀i,i<n->(qf uV [.i n,.i i,.i n,.i i,.i n,.i 0,.r L,.i n,.i 0,.i 0,.i n,.i n,.r (txR (mkL F n i))]).run=some (0,[.i n,.i n,.i i,.r L,.i n,.i 0,.i 0,.i n,.i n,.r (txR (mkL F n (i+1)))]):=fun i hi=>by
  have key:=qu (S:=uV) (fun k=>[.i n,.i i,.i n,.i i,.i n,.i (k:Int),.r L,.i n,.i 0,.i 0,.i n,.i n,.r (txR (mkL F n i++(List.range k).map (F i)))]) (0,[.i n,.i n,.i i,.r L,.i n,.i 0,.i 0,.i n,.i n,.r (txR (mkL F n (i+1)))]) n (by omega) (fun k hk=>by
   rw[qg2];have hlen:(mkL F n i++(List.range k).map (F i)).length<=1000:=by have:=ml i (by omega);rw[qP6,qOV,qPm];omega
   have e1:txR (mkL F n i++(List.range (k+1)).map (F i))=zE (txR (mkL F n i++(List.range k).map (F i))) [[.s (F i k)]]:=by rw[qic,qhQ,qPO,qP9,<-qPj];rfl
   have e2:F i k=tQ (g i k:Rat):=by rw[hF]
   have e3:qg [[U.s (tQ (g i k:Rat))]]=1:=rfl;simp only[STD,qO5 hn hi hk hL (hg i k hi hk) (hb i k hi hk),j5 hk (show n<9223372036854775808 by omega),e1,e2,e3,qry,show (k:Int)<n by omega,show (((mkL F n i++(List.range k).map (F i)).length:Int)+1<=8796093022208) by omega]) (by
   rw[qg2];simp only[STD,show ¬(n:Int)<n by omega,mkL])
  simpa using key
 have outer:=qu (S:=q0k) (fun i=>[.i n,.i n,.i (i:Int),.r L,.i n,.i 0,.i 0,.i n,.i n,.r (txR (mkL F n i))]) (0,[.r L,.i n,.i 0,.i 0,.i n,.i n,.r (txR (mkL F n n))]) n (by omega) (fun i hi=>by
  rw[qiw];simp only[STD,inner i hi,j5 hi (show n<9223372036854775808 by omega),show (i:Int)<n by omega]) (by
  rw[qiw];simp only[STD,show ¬(n:Int)<n by omega])
 have key:(qf q0k [.i n,.i n,.i 0,.r L,.i n,.i 0,.i 0,.i n,.i n,.r []]).run=some (0,[.r L,.i n,.i 0,.i 0,.i n,.i n,.r (txR (mkL F n n))]):=outer;rw[qw0];simp only[STD,key];rw[hF];rfl
theorem qCB{n:Nat}{L:R}{g:Nat->Nat->Int}(hn:n<=16)(hL:L.length=n*n)(hg:∀i k,i<n->k<n->cI L ((i*n+k:Nat):Int) 0=g i k)(hb:∀i k,i<n->k<n->-999999999999999<=g i k/\g i k<=999999999999999) :(qds [.i n,.i n,.r L]).run=some (0,[.i n,.i n,.r (uw (fun i k=>tQ (g i k:Rat)) n),.i 0]):=by
 have hnn:n*n<=16*16:=qPw hn hn;rw[qA9,qyc (by omega)];have e:qg L=((n*n:Nat):Int):=by unfold qg;rw[hL]
 simp only[STD,qKG hn,qNN hn hL hg hb,e]
theorem qKH(x:Bs):(wS [.s x,.i 0,.i 0]).run=some (0,[.s x,.i 0]):=by rw[qlH];simp only[STD]
theorem qMG{a b:Rat}{N D N' D':Nat}(ha:bnd N D a)(hb:bnd N' D' b)(h1:N+N'<=1024)(h2:D+D'<=1024):(kD [.s (tQ a),.s (tQ b),.i 0]).run=some (0,[.s (tQ (a*b)),.i 0]):=by rw[qmW];simp only[STD,qht ha hb h1 h2,qKH]
theorem qMX{a b:Rat}{N D N' D':Nat}(ha:bnd N D a)(hb:bnd N' D' b)(h1:N+D'<=1023)(h2:N'+D<=1023)(h3:D+D'<=1024):(kq [.s (tQ a),.s (tQ b),.i 0]).run=some (0,[.s (tQ (a+b)),.i 0]):=by rw[qnS];simp only[STD,qnH ha hb h1 h2 h3,qKH]
theorem qM2{F:Nat->Nat->Bs}{n i k:Nat}(hn:n<=16)(hi:i<n)(hk:k<n):(q4S [.i n,.i n,.r (uw F n),.i i,.i k]).run=some (0,[.s (F i k)]):=by
 have h1:=qNc hi hk;have h2:n*n<=16*16:=qPw hn hn;rw[quf,qyc (by omega),qEm (by omega),qrq F hi hk];have e:qg (uw F n)=((n*n:Nat):Int):=by unfold qg;rw[qlq]
 simp only[STD,e,show (0:Int)<=((i*n+k:Nat):Int) by omega,show ((i*n+k:Nat):Int)<((n*n:Nat):Int) by omega,and_self]
def sbd:Nat->Nat×Nat
 | 0=>(1,1)
 | 1=>(352,324)
 | 2=>(676,647)
 | _=>(1000,970)
theorem qKv(m:Nat)(h:m<3):(sbd m).1+323<=1023/\350+(sbd m).2<=1023/\(sbd m).2+323<=1024/\(sbd m).1+323+1<=(sbd (m+1)).1/\350+(sbd m).2+1<=(sbd (m+1)).1/\(sbd m).2+323<=(sbd (m+1)).2:=by
 match m,h with
 | 0,_=>decide
 | 1,_=>decide
 | 2,_=>decide
theorem qKo{V B:Nat->Rat}{n:Nat}(hV:∀k,k<n->bnd 337 322 (V k))(hB:∀k,k<n->bnd 13 1 (B k)):∀m,m<=n->m<=3->bnd (sbd m).1 (sbd m).2 (su m fun k=>V k*B k)
 | 0,_,_=>qex
 | m+1,h1,h2=>by
  obtain⟨o1,o2,o3,o4,o5,o6⟩:=qKv m (by omega);exact((qKo hV hB m (by omega) (by omega)).add ((hV m (by omega)).mul (hB m (by omega))) o4 o5).mono (qON _) o6
theorem qLP{n:Nat}(hn:n<=3){V:Nat->Nat->Rat}{B:Nat->Rat}(hV:∀i k,i<n->k<n->bnd 337 322 (V i k))(hB:∀k,k<n->bnd 13 1 (B k)) :(q4o [.i n,.i n,.r (uw (fun i k=>tQ (V i k)) n),.r (txR ((List.range n).map fun k=>tQ (B k)))]).run=some (0,[.r (txR ((List.range n).map fun i=>tQ (su n fun k=>V i k*B k))),.i 0]):=by
 obtain⟨bl,hbl⟩:∃bl,bl=txR ((List.range n).map fun k=>tQ (B k)):=⟨_,rfl⟩;have lb:qg bl=(n:Int):=by rw[hbl,qry,qOV,qPm]
 have gb:∀k,k<n->cS bl (k:Int) 0=tQ (B k):=fun k hk=>by rw[hbl];exact qHW (by rw[qOU,qPp hk];rfl)
 have inner:∀i,i<n->∀acc:List Bs,(qf yV [.r bl,.i i,.s [48],.i n,.i i,.r bl,.i n,.i 0,.i n,.i n,.r (uw (fun i k=>tQ (V i k)) n),.i 0,.r (txR acc)]).run =
   some (0,[.r bl,.s (tQ (su n fun k=>V i k*B k)),.i n,.i i,.i n,.i n,.r (uw (fun i k=>tQ (V i k)) n),.i 0,.r (txR acc)]):=fun i hi acc=>by
  have key:=qu (S:=yV) (fun k=>[.r bl,.i i,.s (tQ (su k fun k=>V i k*B k)),.i n,.i i,.r bl,.i n,.i (k:Int),.i n,.i n,.r (uw (fun i k=>tQ (V i k)) n),.i 0,.r (txR acc)])
   (0,[.r bl,.s (tQ (su n fun k=>V i k*B k)),.i n,.i i,.i n,.i n,.r (uw (fun i k=>tQ (V i k)) n),.i 0,.r (txR acc)]) n (by omega) (fun k hk=>by
    rw[qdX];obtain⟨o1,o2,o3,_,_,_⟩:=qKv k (by omega);have s1:=qKo (fun k hk=>hV i k hi hk) hB k (by omega) (by omega);simp only[STD,qM2 (F:=fun i k=>tQ (V i k)) (show n<=16 by omega) hi hk,gb k hk,lb,qMG (hV i k hi hk) (hB k hk) (by omega) (by omega),qMX s1 ((hV i k hi hk).mul (hB k hk)) o1 o2 o3,
     j5 hk (show n<9223372036854775808 by omega),show (k:Int)<n by omega,show (0:Int)<=k by omega,and_self]
    rfl) (by
    rw[qdX];simp only[STD,show ¬(n:Int)<n by omega])
  exact key
 have outer:=qu (S:=yT) (fun i=>[.r bl,.i n,.i (i:Int),.i n,.i n,.r (uw (fun i k=>tQ (V i k)) n),.i 0,.r (txR ((List.range i).map fun i=>tQ (su n fun k=>V i k*B k)))])
  (0,[.i 0,.r (txR ((List.range n).map fun i=>tQ (su n fun k=>V i k*B k)))]) n (by omega) (fun i hi=>by
   rw[qew];have e1:txR ((List.range (i+1)).map fun i=>tQ (su n fun k=>V i k*B k))=zE (txR ((List.range i).map fun i=>tQ (su n fun k=>V i k*B k))) [[.s (tQ (su n fun k=>V i k*B k))]]:=by rw[qic,qhQ,qPO,qP9];rfl
   have e3:qg [[U.s (tQ (su n fun k=>V i k*B k))]]=1:=rfl;simp only[STD,lb,inner i hi,j5 hi (show n<9223372036854775808 by omega),show (i:Int)<n by omega,e1,e3,qry,qOV,qPm,show (i:Int)+1<=8796093022208 by omega]) (by
   rw[qew];simp only[STD,show ¬(n:Int)<n by omega])
 have key:(qf yT [.r bl,.i n,.i 0,.i n,.i n,.r (uw (fun i k=>tQ (V i k)) n),.i 0,.r []]).run=some (0,[.i 0,.r (txR ((List.range n).map fun i=>tQ (su n fun k=>V i k*B k)))]):=outer;have hck:=qmm (F:=fun i k=>tQ (V i k)) (show n<=16 by omega) fun i k hi hk=>qbE ((hV i k hi hk).ok (by omega) (by omega));have hnum:=qzY (l:=bl) (n:=n) (by have:=lb;unfold qg at this;omega) (by omega) (fun i hi=>by rw[gb i hi];exact qbE ((hB i hi).ok (by omega) (by omega)));rw[<-hbl,qv4];simp only[STD,hck,lb,hnum,key]
def qFj(ox oy oz ax ay az bx by' bz:Int):Int:=(ax-ox)*(bx-ox)+(ay-oy)*(by'-oy)+(az-oz)*(bz-oz)
theorem qIF{a b:Int}(ha:co a)(hb:co b):-200000<=a-b/\a-b<=200000:=by unfold co at ha hb;omega
theorem qfG{a b c d:Int}(ha:co a)(hb:co b)(hc:co c)(hd:co d):-40000000000<=(a-b)*(c-d)/\(a-b)*(c-d)<=40000000000:=by have h1:=qIF ha hb;have h2:=qIF hc hd;have:=qNQ h1.1 h1.2 h2.1 h2.2;omega
theorem qM6{ox oy oz ax ay az bx by' bz:Int}(h1:co ox)(h2:co oy)(h3:co oz)(h4:co ax)(h5:co ay)(h6:co az)(h7:co bx)(h8:co by')(h9:co bz):-120000000000<=qFj ox oy oz ax ay az bx by' bz/\qFj ox oy oz ax ay az bx by' bz<=120000000000:=by have p1:=qfG h4 h1 h7 h1;have p2:=qfG h5 h2 h8 h2;have p3:=qfG h6 h3 h9 h3;unfold qFj;omega
theorem qh4{a b:Int}(ha:co a)(hb:co b):wo .i64 a b=a-b:=ze (by have:=qIF ha hb;omega)
theorem qro{a b c d:Int}(ha:co a)(hb:co b)(hc:co c)(hd:co d):wd .i64 (a-b) (c-d)=(a-b)*(c-d):=uK (by have:=qfG ha hb hc hd;omega)
theorem qi3(x y z:Int):(qD [.i x,.i y,.i z]).run=some (0,[.i x,.i y,.i z]):=by rw[qj7];rfl
theorem qOn{ox oy oz ax ay az bx by' bz:Int}(h1:co ox)(h2:co oy)(h3:co oz)(h4:co ax)(h5:co ay)(h6:co az)(h7:co bx)(h8:co by')(h9:co bz) :(q13 [.i ox,.i oy,.i oz,.i ax,.i ay,.i az,.i bx,.i by',.i bz]).run=some (0,[.i (qFj ox oy oz ax ay az bx by' bz)]):=by
 have p1:=qfG h4 h1 h7 h1;have p2:=qfG h5 h2 h8 h2;have p3:=qfG h6 h3 h9 h3;have key:=qu (S:=q0q) (fun i=>[.i (if i=0 then 0 else if i=1 then (ax-ox)*(bx-ox) else if i=2 then (ax-ox)*(bx-ox)+(ay-oy)*(by'-oy) else qFj ox oy oz ax ay az bx by' bz),.i (i:Int),.i ox,.i oy,.i oz,.i ax,.i ay,.i az,.i bx,.i by',.i bz])
  (0,[.i (qFj ox oy oz ax ay az bx by' bz)]) 3 (by omega) (fun i hi=>by
   rw[qiM];rcases (show i=0\/i=1\/i=2 by omega) with rfl|rfl|rfl
   ·have e1:qo .i64 ((0:Nat):Int) 1=((1:Nat):Int):=by decide
    have e2:qo .i64 0 ((ax-ox)*(bx-ox))=(ax-ox)*(bx-ox):=by rw[qK (by omega)];omega
    simp only[STD,e1,qh4 h4 h1,qh4 h7 h1,qro h4 h1 h7 h1,e2,show (((0:Nat):Int)<3)=True from eq_true (by decide),show (((0:Nat):Int)=2)=False from eq_false (by decide),show (((0:Nat):Int)=1)=False from eq_false (by decide),show (((0:Nat):Int)=0)=True from eq_true (by decide),qPD,show ((1:Nat)=0)=False from eq_false (by decide)]
   ·have e1:qo .i64 ((1:Nat):Int) 1=((2:Nat):Int):=by decide
    have e2:qo .i64 ((ax-ox)*(bx-ox)) ((ay-oy)*(by'-oy))=(ax-ox)*(bx-ox)+(ay-oy)*(by'-oy):=qK (by omega);simp only[STD,e1,qh4 h5 h2,qh4 h8 h2,qro h5 h2 h8 h2,e2,show (((1:Nat):Int)<3)=True from eq_true (by decide),show (((1:Nat):Int)=2)=False from eq_false (by decide),show (((1:Nat):Int)=1)=True from eq_true (by decide),show ((1:Nat)=0)=False from eq_false (by decide),show ((1+1:Nat)=0)=False from eq_false (by decide),show ((1+1:Nat)=1)=False from eq_false (by decide)]
   ·have e1:qo .i64 ((2:Nat):Int) 1=((3:Nat):Int):=by decide
    have e2:qo .i64 ((ax-ox)*(bx-ox)+(ay-oy)*(by'-oy)) ((az-oz)*(bz-oz))=qFj ox oy oz ax ay az bx by' bz:=by rw[qK (by omega)];rfl
    simp only[STD,e1,qh4 h6 h3,qh4 h9 h3,qro h6 h3 h9 h3,e2,show (((2:Nat):Int)<3)=True from eq_true (by decide),show (((2:Nat):Int)=2)=True from eq_true (by decide),show ((2:Nat)=0)=False from eq_false (by decide),show ((2:Nat)=1)=False from eq_false (by decide),show ((2+1:Nat)=0)=False from eq_false (by decide),show ((2+1:Nat)=1)=False from eq_false (by decide),show ((2+1:Nat)=2)=False from eq_false (by decide)]) (by
   rw[qiM];simp only[STD,show (((3:Nat):Int)<3)=False from eq_false (by decide),show ((3:Nat)=0)=False from eq_false (by decide),show ((3:Nat)=1)=False from eq_false (by decide),show ((3:Nat)=2)=False from eq_false (by decide)])
 have key':(qf q0q [.i 0,.i 0,.i ox,.i oy,.i oz,.i ax,.i ay,.i az,.i bx,.i by',.i bz]).run=some (0,[.i (qFj ox oy oz ax ay az bx by' bz)]):=key;rw[qvI];simp only[STD,qi3,key']
variable {l:R}
def mkI(F:Nat->Nat->Int)(c:Nat):Nat->List Int
 | 0=>[]
 | i+1=>mkI F c i++(List.range c).map (F i)
theorem qqi(F:Nat->Nat->Int)(c:Nat):∀i,(mkI F c i).length=i*c
 | 0=>by simp[mkI]
 | i+1=>by rw[mkI,qP6,qqi F c i];simp[qP2]
theorem qH7(F:Nat->Nat->Int)(c:Nat):∀(n i k:Nat),i<n->k<c->(mkI F c n)[i*c+k]?=some (F i k)
 | 0,i,k,h,_=>by omega
 | n+1,i,k,h,hk=>by
  rw[mkI];by_cases hi:i<n
  ·have:i*c+k<n*c:=by have:=qPb c (show i+1<=n by omega);rw[qP2] at this;omega
   rw[qOY (by rw[qqi];exact this)];exact qH7 F c n i k hi hk
  ·have:i=n:=by omega
   subst this;rw[qP4 (by rw[qqi];omega),qqi,show i*c+k-i*c=k by omega];simp[hk]
theorem qNP (F:Nat->Nat->Int){n i k:Nat}(hi:i<n)(hk:k<n):cI (rI (mkI F n n)) ((i*n+k:Nat):Int) 0=F i k:=by rw[qG6,qOX,qOM,qH7 F n n i k hi hk];rfl
theorem qMD (l m:List Int):zE (rI l) (rI m)=rI (l++m):=by unfold rI zE;rw[qP9]
def dI(l:R)(i k:Nat):Int:=qFj (cI l 0 0) (cI l 0 1) (cI l 0 2) (cI l (i:Int) 0) (cI l (i:Int) 1) (cI l (i:Int) 2) (cI l (k:Int) 0) (cI l (k:Int) 1) (cI l (k:Int) 2)
def gI2(l:R)(i k:Nat):Int:=2*dI l (i+1) (k+1)
theorem uN.row (h:uN l){i:Nat}(hi:i<l.length):co (cI l (i:Int) 0)/\co (cI l (i:Int) 1)/\co (cI l (i:Int) 2):=h.2 i hi
theorem uN.row0 (h:uN l)(hi:0<l.length):co (cI l 0 0)/\co (cI l 0 1)/\co (cI l 0 2):=h.2 0 hi
theorem qCx (h:uN l){i k:Nat}(hi:i<l.length)(hk:k<l.length):-120000000000<=dI l i k/\dI l i k<=120000000000:=by obtain⟨a1,a2,a3⟩:=h.row0 (show 0<l.length by omega);obtain⟨b1,b2,b3⟩:=h.row hi;obtain⟨c1,c2,c3⟩:=h.row hk;exact qM6 a1 a2 a3 b1 b2 b3 c1 c2 c3
theorem qOA (h:uN l){i k:Nat}(hi:i<l.length)(hk:k<l.length) :(q13 [.i (cI l 0 0),.i (cI l 0 1),.i (cI l 0 2),.i (cI l (i:Int) 0),.i (cI l (i:Int) 1),.i (cI l (i:Int) 2),.i (cI l (k:Int) 0),.i (cI l (k:Int) 1),.i (cI l (k:Int) 2)]).run=some (0,[.i (dI l i k)]):=by obtain⟨a1,a2,a3⟩:=h.row0 (show 0<l.length by omega);obtain⟨b1,b2,b3⟩:=h.row hi;obtain⟨c1,c2,c3⟩:=h.row hk;exact qOn a1 a2 a3 b1 b2 b3 c1 c2 c3
theorem qF3 {n i:Nat}(h:uN l)(hl:l.length=n+1)(hi:i<n)(s1 s2 s3 s4:Bs)(rt:R) :(qf jh [.r l,.i n,.i i,.i n,.i i,.i n,.i 0,.s s1,.s s2,.s s3,.s s4,.r (rI (mkI (gI2 l) n i)),.r rt]).run = some (0,[.r l,.i n,.i i,.i n,.i i,.s s1,.s s2,.s s3,.s s4,.r (rI (mkI (gI2 l) n (i+1))),.r rt]):=by
 have hn:n<=64:=by have:=h.1;omega
 have hlen:(mkI (gI2 l) n i).length<=64*64:=by rw[qqi];exact qPw (by omega) hn
 have key:=qu (S:=jh) (fun k=>[.r l,.i n,.i i,.i n,.i i,.i n,.i (k:Int),.s s1,.s s2,.s s3,.s s4,.r (rI (mkI (gI2 l) n i++(List.range k).map (gI2 l i))),.r rt])
  (0,[.r l,.i n,.i i,.i n,.i i,.s s1,.s s2,.s s3,.s s4,.r (rI (mkI (gI2 l) n (i+1))),.r rt]) n (by omega) (fun k hk=>by
   rw[qaU];have hL:qg l=((n+1:Nat):Int):=by unfold qg;rw[hl]
   have w1:qo .i64 (i:Int) 1=((i+1:Nat):Int):=j5 hi (by omega);have w2:qo .i64 (k:Int) 1=((k+1:Nat):Int):=j5 hk (by omega);have bd:=qCx h (i:=i+1) (k:=k+1) (by omega) (by omega);have w3:wd .i64 2 (dI l (i+1) (k+1))=gI2 l i k:=uK (by omega);have e1:rI (mkI (gI2 l) n i++(List.range (k+1)).map (gI2 l i))=zE (rI (mkI (gI2 l) n i++(List.range k).map (gI2 l i))) [[.i (gI2 l i k)]]:=by rw[show [[U.i (gI2 l i k)]]=rI [gI2 l i k] from rfl,qMD,qPO,qP9,<-qPj];rfl
   have e3:qg [[U.i (gI2 l i k)]]=1:=rfl;have e4:((mkI (gI2 l) n i++(List.range k).map (gI2 l i)).length:Int)+1<=17592186044416:=by rw[qP6,qOV,qPm];omega
   simp only[STD,hL,w1,w2,qOA h (i:=i+1) (k:=k+1) (by omega) (by omega),w3,e1,e3,qk5,e4,show (k:Int)<n by omega,show (0:Int)<=0 by omega,show (0:Int)<((n+1:Nat):Int) by omega,
    show (0:Int)<=((i+1:Nat):Int) by omega,show ((i+1:Nat):Int)<((n+1:Nat):Int) by omega,show (0:Int)<=((k+1:Nat):Int) by omega,show ((k+1:Nat):Int)<((n+1:Nat):Int) by omega,and_self]) (by
   rw[qaU];simp only[STD,show ¬(n:Int)<n by omega,mkI])
 simpa using key
theorem qGb {n:Nat}(h:uN l)(hl:l.length=n+1)(s1 s2 s3 s4:Bs) :(qf jL [.r l,.i n,.i n,.i 0,.s s1,.s s2,.s s3,.s s4,.r [],.r []]).run = some (0,[.r l,.i n,.s s1,.s s2,.s s3,.s s4,.r (rI (mkI (gI2 l) n n)),.r (txR ((List.range n).map fun i=>tQ (dI l (i+1) (i+1):Rat)))]):=by
 have hn:n<=64:=by have:=h.1;omega
 have key:=qu (S:=jL) (fun i=>[.r l,.i n,.i n,.i (i:Int),.s s1,.s s2,.s s3,.s s4,.r (rI (mkI (gI2 l) n i)),.r (txR ((List.range i).map fun i=>tQ (dI l (i+1) (i+1):Rat)))])
  (0,[.r l,.i n,.s s1,.s s2,.s s3,.s s4,.r (rI (mkI (gI2 l) n n)),.r (txR ((List.range n).map fun i=>tQ (dI l (i+1) (i+1):Rat)))]) n (by omega) (fun i hi=>by
   rw[qcX];have hL:qg l=((n+1:Nat):Int):=by unfold qg;rw[hl]
   have w1:qo .i64 (i:Int) 1=((i+1:Nat):Int):=j5 hi (by omega);have bd:=qCx h (i:=i+1) (k:=i+1) (by omega) (by omega);have e1:txR ((List.range (i+1)).map fun i=>tQ (dI l (i+1) (i+1):Rat))=zE (txR ((List.range i).map fun i=>tQ (dI l (i+1) (i+1):Rat))) [[.s (tQ (dI l (i+1) (i+1):Rat))]]:=by rw[qic,qhQ,qPO,qP9];rfl
   have e3:qg [[U.s (tQ (dI l (i+1) (i+1):Rat))]]=1:=rfl;simp only[STD,qF3 h hl hi,hL,w1,qOA h (i:=i+1) (k:=i+1) (by omega) (by omega),q0X (m:=dI l (i+1) (i+1)) (by omega),e1,e3,qry,qOV,qPm,show (i:Int)<n by omega,
    show (i:Int)+1<=8796093022208 by omega,show (0:Int)<=0 by omega,show (0:Int)<((n+1:Nat):Int) by omega,show (0:Int)<=((i+1:Nat):Int) by omega,show ((i+1:Nat):Int)<((n+1:Nat):Int) by omega,and_self]) (by
   rw[qcX];simp only[STD,show ¬(n:Int)<n by omega])
 exact key
def pV(l:R):Nat->V3:=fun i=>⟨(cI l (i:Int) 0:Rat),(cI l (i:Int) 1:Rat),(cI l (i:Int) 2:Rat)⟩
theorem qtb (l:R)(i k:Nat):((gI2 l i k:Int):Rat)=qwN (pV l) i k:=by unfold gI2 dI qFj qwN qda pV;simp only[qQx,Rat.intCast_add,qQI];rfl
theorem qGk (l:R)(i:Nat):((dI l (i+1) (i+1):Int):Rat)=d2 (pV l 0) (pV l (i+1)):=by unfold dI qFj d2 pV;simp only[qQx,Rat.intCast_add,qQI];show _=_;have:((cI l 0 0:Int):Rat)=(cI l ((0:Nat):Int) 0:Rat):=rfl;grind
end Go.Eng

namespace Go.Eng
variable {n:Nat}
theorem qCi (n:Nat)(G:Nat->Nat->Rat)(i:Nat)(x:Nat->Rat):su n (fun j=>aug n G i j*x j)=su n (fun j=>G i j*x j):=ql fun j hj=>by unfold aug;rw[if_pos hj]
theorem qGD {G N:Nat->Nat->Rat}(h:q5H n (pvQ n) n 0 (aug n G)=some N){i j:Nat}(hi:i<n)(_:j<n):su n (fun k=>G i k*N k (n+j))=if j=i then 1 else 0:=by
 obtain⟨h1,h2⟩:=ql6 (qA5 n) n 0 _ N (by omega) (fun i j _ hj=>by omega) h;have:=(h2 (n+j) _).1 ((qdb h1 _ _).2 fun i _=>rfl) i hi;rw[qCi] at this;rw[this];unfold aug;show (if n+j<n then G i (n+j) else if n+j=n+i then (1:Rat) else 0)=_;rw[if_neg (by omega)];by_cases e:j=i
 ·rw[if_pos e,if_pos (by omega)]
 ·rw[if_neg e,if_neg (by omega)]
theorem qKW {G N:Nat->Nat->Rat}(h:q5H n (pvQ n) n 0 (aug n G)=some N)(t:Nat->Rat)(ht:∀i,i<n->su n (fun j=>G i j*t j)=0):∀j,j<n->t j=0:=by
 obtain⟨h1,h2⟩:=ql6 (qA5 n) n 0 _ N (by omega) (fun i j _ hj=>by omega) h;have sol:=(h2 n _).1 ((qdb h1 _ (fun i=>N i n)).2 fun i _=>rfl);have s2:qm2 n n (aug n G) (fun i=>aug n G i n) (fun i=>N i n+t i):=fun i hi=>by have a:=sol i hi;have b:=ht i hi;rw[<-qCi] at b;rw[ql (g:=fun j=>aug n G i j*N j n+aug n G i j*t j) (fun j _=>by grind),q4E,b,a];grind
 intro j hj;have:=(qdb h1 _ _).1 ((h2 n _).2 s2) j hj;grind
def qMT(n:Nat)(N:Nat->Nat->Rat)(B:Nat->Rat):Nat->Rat:=fun i=>su n fun k=>N i (n+k)*B k
theorem qHR {G N:Nat->Nat->Rat}(h:q5H n (pvQ n) n 0 (aug n G)=some N)(B:Nat->Rat){i:Nat}(hi:i<n):su n (fun k=>G i k*qMT n N B k)=B i:=by
 have e:su n (fun k=>G i k*qMT n N B k)=su n (fun j=>B j*su n (fun k=>G i k*N k (n+j))):=by rw[ql (g:=fun k=>su n (fun j=>B j*(G i k*N k (n+j)))) (fun k _=>by unfold qMT;rw[<-wt];exact ql fun j _=>by grind),qCU];exact ql fun j _=>by rw[wt]
 rw[e,q9h (k:=i) _ hi (fun j hj hne=>by rw[qGD h hi hj,if_neg hne];grind),qGD h hi hi,if_pos rfl];grind
theorem qNn {l:R}{N:Nat->Nat->Rat}(h:q5H n (pvQ n) n 0 (aug n (qwN (pV l)))=some N):Bl n (pV l) (qMT n N fun k=>d2 (pV l 0) (pV l (k+1))):=⟨qc2.2 fun t ht=>qKW h t ht,fun _ hi=>qHR h _ hi⟩
theorem qJF {c:Nat->V3}(h:q5H n (pvQ n) n 0 (aug n (qwN c))=none):¬Ind (n+1) c:=by obtain⟨x,⟨j,hj,hne⟩,hs⟩:=qr5 (qA5 n) n 0 _ (by omega) (fun i j _ hj=>by omega) h;intro hi;exact hne (qc2.1 hi x (fun i hi=>by rw[<-qCi];exact hs i hi) j hj)
theorem qMP {q:Rat}{P M:Int}(hM:M≠0)(h:q*(M:Rat)=(P:Rat)):q.num.natAbs<=P.natAbs/\q.den<=M.natAbs:=by
 have hM':(M:Rat)≠0:=by intro e;exact hM (Rat.intCast_inj.1 (e.trans (by simp)))
 have e:q=Rat.divInt P M:=by rw[Rat.divInt_eq_div,<-h];exact(Rat.mul_div_cancel hM').symm
 rw[e];constructor
 ·rw[Rat.num_divInt];refine qOP (qQP _ _) ?_;rw[qPZ,qR2 hM];omega
 ·rw[Rat.den_divInt,if_neg hM];exact qQG _ _
def qIy(a b c d e f g h i:Rat):Rat:=a*(e*i-f*h)-b*(d*i-f*g)+c*(d*h-e*g)
theorem qLE (a b c d e f g h i p q r s t u v w x:Rat):qIy a b c d e f g h i*qIy p q r s t u v w x = qIy (a*p+b*s+c*v) (a*q+b*t+c*w) (a*r+b*u+c*x) (d*p+e*s+f*v) (d*q+e*t+f*w) (d*r+e*u+f*x) (g*p+h*s+i*v) (g*q+h*t+i*w) (g*r+h*u+i*x):=by unfold qIy;grind
end Go.Eng

namespace Go.Eng
theorem q4c{x y:Int}{a b:Nat}(hx:x.natAbs<=a)(hy:y.natAbs<=b):(x*y).natAbs<=a*b:=by rw[qPZ];exact qPw hx hy
theorem qKZ{x y:Int}{a b:Nat}(hx:x.natAbs<=a)(hy:y.natAbs<=b):(x+y).natAbs<=a+b:=by omega
theorem qmY{x y:Int}{a b:Nat}(hx:x.natAbs<=a)(hy:y.natAbs<=b):(x-y).natAbs<=a+b:=by omega
def qL2(a b c d e f g h i:Int):Int:=a*(e*i-f*h)-b*(d*i-f*g)+c*(d*h-e*g)
theorem qkW(a b c d e f g h i:Int):((qL2 a b c d e f g h i:Int):Rat)=qIy a b c d e f g h i:=by unfold qL2 qIy;simp only[qQx,Rat.intCast_add,qQI]
theorem qzB{A:Nat}{a b c d e f g h i:Int}(ha:a.natAbs<=A)(hb:b.natAbs<=A)(hc:c.natAbs<=A)(hd:d.natAbs<=A)(he:e.natAbs<=A)(hf:f.natAbs<=A)(hg:g.natAbs<=A)(hh:h.natAbs<=A)(hi:i.natAbs<=A) :(qL2 a b c d e f g h i).natAbs<=A*(A*A+A*A)+A*(A*A+A*A)+A*(A*A+A*A):=qKZ (qmY (q4c ha (qmY (q4c he hi) (q4c hf hh))) (q4c hb (qmY (q4c hd hi) (q4c hf hg)))) (q4c hc (qmY (q4c hd hh) (q4c he hg)))
def AA:Nat:=240000000000
theorem qNO{n:Nat}(hn:n<=3){g:Nat->Nat->Int}{b:Nat->Int}{N:Nat->Nat->Rat}{t:Nat->Rat}(hg:∀i k,i<n->k<n->(g i k).natAbs<=AA)(hb:∀i,i<n->(b i).natAbs<=AA)(hinv:∀i j,i<n->j<n->su n (fun k=>(g i k:Rat)*N k j)=if j=i then 1 else 0) (ht:∀i,i<n->su n (fun k=>(g i k:Rat)*t k)=(b i:Rat)) :∃D:Int,D≠0/\D.natAbs<=10^35/\∀i,i<n->∃T:Int,t i*(D:Rat)=(T:Rat)/\T.natAbs<=10^35:=by
 match n,hn with
 | 0,_=>exact⟨1,by decide,by decide,fun i hi=>by omega⟩
 | 1,_=>
  have g0:=hg 0 0 (by omega) (by omega);have b0:=hb 0 (by omega);have i0:=hinv 0 0 (by omega) (by omega);have t0:=ht 0 (by omega);simp only[su,if_true] at i0 t0;unfold AA at g0 b0;refine⟨g 0 0,fun e=>?_,by omega,fun i hi=>⟨b 0,?_,by omega⟩⟩
  ·rw[e] at i0;have:((0:Int):Rat)=0:=rfl;rw[this] at i0;grind
  ·have:i=0:=by omega
   subst this;grind
 | 2,_=>
  have g00:=hg 0 0 (by omega) (by omega);have g01:=hg 0 1 (by omega) (by omega);have g10:=hg 1 0 (by omega) (by omega);have g11:=hg 1 1 (by omega) (by omega);have b0:=hb 0 (by omega);have b1:=hb 1 (by omega);have i00:=hinv 0 0 (by omega) (by omega);have i01:=hinv 0 1 (by omega) (by omega);have i10:=hinv 1 0 (by omega) (by omega);have i11:=hinv 1 1 (by omega) (by omega);have t0:=ht 0 (by omega);have t1:=ht 1 (by omega);simp only[su,if_true,show (1=0)=False from eq_false (by decide),show (0=1)=False from eq_false (by decide),if_false] at i00 i01 i10 i11 t0 t1;have A2:AA*AA+AA*AA<=10^35:=by decide
  refine⟨g 0 0*g 1 1-g 0 1*g 1 0,fun e=>?_,qOP (qmY (q4c g00 g11) (q4c g01 g10)) A2,fun i hi=>?_⟩
  ·have e':((g 0 0:Int):Rat)*(g 1 1:Rat)-(g 0 1:Rat)*(g 1 0:Rat)=0:=by rw[<-qQx,<-qQx,<-qQI,e];rfl
   grind
  ·rcases (show i=0\/i=1 by omega) with rfl|rfl
   ·refine⟨b 0*g 1 1-g 0 1*b 1,?_,qOP (qmY (q4c b0 g11) (q4c g01 b1)) A2⟩;simp only[qQx,qQI];rw[<-t0,<-t1];grind
   ·refine⟨g 0 0*b 1-b 0*g 1 0,?_,qOP (qmY (q4c g00 b1) (q4c b0 g10)) A2⟩;simp only[qQx,qQI];rw[<-t0,<-t1];grind
 | 3,_=>
  have A3:AA*(AA*AA+AA*AA)+AA*(AA*AA+AA*AA)+AA*(AA*AA+AA*AA)<=10^35:=by decide
  have G:=fun i k (hi:i<3) (hk:k<3)=>hg i k hi hk;have i00:=hinv 0 0 (by omega) (by omega);have i01:=hinv 0 1 (by omega) (by omega);have i02:=hinv 0 2 (by omega) (by omega);have i10:=hinv 1 0 (by omega) (by omega);have i11:=hinv 1 1 (by omega) (by omega);have i12:=hinv 1 2 (by omega) (by omega);have i20:=hinv 2 0 (by omega) (by omega);have i21:=hinv 2 1 (by omega) (by omega);have i22:=hinv 2 2 (by omega) (by omega);have t0:=ht 0 (by omega);have t1:=ht 1 (by omega);have t2:=ht 2 (by omega);have B0:=hb 0 (by omega);have B1:=hb 1 (by omega);have B2:=hb 2 (by omega);simp only[su,if_true,Rat.zero_add,show (1=0)=False from eq_false (by decide),show (0=1)=False from eq_false (by decide),show (2=0)=False from eq_false (by decide),show (0=2)=False from eq_false (by decide),show (1=2)=False from eq_false (by decide),show (2=1)=False from eq_false (by decide),if_false] at i00 i01 i02 i10 i11 i12 i20 i21 i22 t0 t1 t2;have G00:=G 0 0 (by omega) (by omega);have G01:=G 0 1 (by omega) (by omega);have G02:=G 0 2 (by omega) (by omega);have G10:=G 1 0 (by omega) (by omega);have G11:=G 1 1 (by omega) (by omega);have G12:=G 1 2 (by omega) (by omega);have G20:=G 2 0 (by omega) (by omega);have G21:=G 2 1 (by omega) (by omega);have G22:=G 2 2 (by omega) (by omega);refine⟨qL2 (g 0 0) (g 0 1) (g 0 2) (g 1 0) (g 1 1) (g 1 2) (g 2 0) (g 2 1) (g 2 2),fun e=>?_,qOP (qzB G00 G01 G02 G10 G11 G12 G20 G21 G22) A3,fun i hi=>?_⟩
  ·have e':=qkW (g 0 0) (g 0 1) (g 0 2) (g 1 0) (g 1 1) (g 1 2) (g 2 0) (g 2 1) (g 2 2);rw[e] at e';have m:=qLE (g 0 0) (g 0 1) (g 0 2) (g 1 0) (g 1 1) (g 1 2) (g 2 0) (g 2 1) (g 2 2) (N 0 0) (N 0 1) (N 0 2) (N 1 0) (N 1 1) (N 1 2) (N 2 0) (N 2 1) (N 2 2);rw[i00,i01,i02,i10,i11,i12,i20,i21,i22,<-e'] at m;have z:((0:Int):Rat)=0:=rfl;have o:qIy 1 0 0 0 1 0 0 0 1=1:=by unfold qIy;grind
   rw[z,o] at m;grind
  ·rw[qkW];rcases (show i=0\/i=1\/i=2 by omega) with rfl|rfl|rfl
   ·refine⟨qL2 (b 0) (g 0 1) (g 0 2) (b 1) (g 1 1) (g 1 2) (b 2) (g 2 1) (g 2 2),?_,qOP (qzB B0 G01 G02 B1 G11 G12 B2 G21 G22) A3⟩;rw[qkW,<-t0,<-t1,<-t2];unfold qIy;grind
   ·refine⟨qL2 (g 0 0) (b 0) (g 0 2) (g 1 0) (b 1) (g 1 2) (g 2 0) (b 2) (g 2 2),?_,qOP (qzB G00 B0 G02 G10 B1 G12 G20 B2 G22) A3⟩;rw[qkW,<-t0,<-t1,<-t2];unfold qIy;grind
   ·refine⟨qL2 (g 0 0) (g 0 1) (b 0) (g 1 0) (g 1 1) (b 1) (g 2 0) (g 2 1) (b 2),?_,qOP (qzB G00 G01 B0 G10 G11 B1 G20 G21 B2) A3⟩;rw[qkW,<-t0,<-t1,<-t2];unfold qIy;grind
theorem qth{A B:Nat->Rat}{m NA DA NB DB:Nat}(hA:∀k,k<m->bnd NA DA (A k))(hB:∀k,k<m->bnd NB DB (B k)) :
  ∀k,k<=m->bnd (NA+NB+1+k*(DA+DB+2)) (1+k*(DA+DB)) (su k fun k=>A k*B k)
 | 0,_=>qex.mono (by omega) (by omega)
 | k+1,hk=>by
  have h:=qth hA hB k (by omega);have e1:=qP2 k 1 (DA+DB+2);have e2:=qP2 k 1 (DA+DB);have e3:=Nat.mul_add k (DA+DB) 2;have:=h.add ((hA k (by omega)).mul (hB k (by omega))) (K:=NA+NB+1+(k+1)*(DA+DB+2)) (by omega) (by omega);exact this.mono (qON _) (by omega)
theorem qGd{A B:Nat->Rat}{m NA DA NB DB:Nat}(hm:m<=1000)(hA:∀k,k<m->bnd NA DA (A k))(hB:∀k,k<m->bnd NB DB (B k))(hc:NA+NB+1+m*(DA+DB+2)<=1023){a b:R}(la:qg a=m)(lb:qg b=m)(ga:∀k,k<m->cS a (k:Int) 0=tQ (A k)) (gb:∀k,k<m->cS b (k:Int) 0=tQ (B k)):(qA [.r a,.r b]).run=some (0,[.s (tQ (su m fun k=>A k*B k)),.i 0]):=by
 have key:=qu (S:=qM) (fun k=>[.r b,.s (tQ (su k fun k=>A k*B k)),.r a,.i m,.i (k:Int)]) (0,[.s (tQ (su m fun k=>A k*B k))]) m (by omega) (fun k hk=>by
  rw[uE];have h:=qth hA hB k (by omega);have e0:=qPb (DA+DB+2) (show k+1<=m by omega);have e1:=qP2 k 1 (DA+DB+2);have e2:=qP2 k 1 (DA+DB);have e3:=Nat.mul_add k (DA+DB) 2;simp only[STD,la,lb,ga k hk,gb k hk,qht (hA k hk) (hB k hk) (by omega) (by omega),qnH h ((hA k hk).mul (hB k hk)) (by omega) (by omega) (by omega),j5 hk (show m<9223372036854775808 by omega),
   show (k:Int)<m by omega,show (0:Int)<=k by omega,and_self]
  rfl) (by
  rw[uE];simp only[STD,show ¬(m:Int)<m by omega])
 have key':(qf qM [.r b,.s [48],.r a,.i (qg a),.i 0]).run=some (0,[.s (tQ (su m fun k=>A k*B k))]):=by rw[la];exact key
 rw[q7Q];simp only[STD,key',zm key']
theorem qOC(x y z:Bs):qg (txR [x,y,z])=((3:Nat):Int)/\cS (txR [x,y,z]) ((0:Nat):Int) 0=x/\cS (txR [x,y,z]) ((1:Nat):Int) 0=y/\cS (txR [x,y,z]) ((2:Nat):Int) 0=z:=⟨rfl,rfl,rfl,rfl⟩
theorem qN6(a b:V3):su 3 (fun k=>(if k=0 then a.x-b.x else if k=1 then a.y-b.y else a.z-b.z)*(if k=0 then a.x-b.x else if k=1 then a.y-b.y else a.z-b.z))=d2 a b:=by simp only[su,if_true,show (1=0)=False from eq_false (by decide),show (2=0)=False from eq_false (by decide),show (2=1)=False from eq_false (by decide),if_false];unfold d2;grind
structure CB (c:V3):Prop where
 x:bnd 42 36 c.x
 y:bnd 42 36 c.y
 z:bnd 42 36 c.z
def spV(x y z:Int):V3:=⟨(x:Rat),(y:Rat),(z:Rat)⟩
theorem qh2{c:Rat}{x:Int}(h:bnd 42 36 c)(hx:co x):bnd 44 37 (c-(x:Rat)):=h.sub (qjq hx) (by omega) (by omega)
theorem qE8{c:V3}{x y z:Int}(hc:CB c)(hx:co x)(hy:co y)(hz:co z):bnd 317 223 (d2 c (spV x y z)):=by
 have key:∀k,k<3->bnd 44 37 (if k=0 then c.x-(spV x y z).x else if k=1 then c.y-(spV x y z).y else c.z-(spV x y z).z):=fun k _=>by
  split
  ·exact qh2 hc.x hx
  ·split
   ·exact qh2 hc.y hy
   ·exact qh2 hc.z hz
 rw[<-qN6];exact qth key key 3 (by omega)
theorem qLY(X Y Z:Bs):zE (txR (([X,Y,Z]:List Bs).take 0)) [[.s X]]=txR (([X,Y,Z]:List Bs).take (0+1))/\zE (txR (([X,Y,Z]:List Bs).take 1)) [[.s Y]]=txR (([X,Y,Z]:List Bs).take (1+1)) /\zE (txR (([X,Y,Z]:List Bs).take 2)) [[.s Z]]=txR (([X,Y,Z]:List Bs).take (2+1))/\qg (txR (([X,Y,Z]:List Bs).take 0))=0/\qg (txR (([X,Y,Z]:List Bs).take 1))=1/\qg (txR (([X,Y,Z]:List Bs).take 2))=2 /\qg [[U.s X]]=1/\qg [[U.s Y]]=1/\qg [[U.s Z]]=1:=⟨rfl,rfl,rfl,rfl,rfl,rfl,rfl,rfl,rfl⟩
theorem qC1{x y z:Int}{cx cy cz X Y Z:Bs}(hx:co x)(hy:co y)(hz:co z)(sx:(wk [.s cx,.s (tQ (x:Rat))]).run=some (0,[.s X,.i 0]))(sy:(wk [.s cy,.s (tQ (y:Rat))]).run=some (0,[.s Y,.i 0]))(sz:(wk [.s cz,.s (tQ (z:Rat))]).run=some (0,[.s Z,.i 0])):(qf uX [.i x,.i y,.i z,.i 0,.s cx,.s cy,.s cz,.r []]).run=some (0,[.r (txR [X,Y,Z])]):=by
 obtain⟨t0,t1,t2,r0,r1,r2,q0,q1,q2⟩:=qLY X Y Z;have key:=qu (S:=uX) (fun k=>[.i x,.i y,.i z,.i (k:Int),.s cx,.s cy,.s cz,.r (txR (([X,Y,Z]:List Bs).take k))]) (0,[.r (txR [X,Y,Z])]) 3 (by omega) (fun k hk=>by
   rw[qgb];rcases (show k=0\/k=1\/k=2 by omega) with rfl|rfl|rfl
   ·have e1:qo .i64 ((0:Nat):Int) 1=((0+1:Nat):Int):=by decide
    have e2:qqf [x,y,z] ((0:Nat):Int)=x:=rfl;simp only[STD,e1,e2,q0X (qe9 hx),sx,t0,r0,q0,show (((0:Nat):Int)<3)=True from eq_true (by decide),show ((0:Int)<=((0:Nat):Int))=True from eq_true (by decide),
     show (((0:Nat):Int)=2)=False from eq_false (by decide),show (((0:Nat):Int)=1)=False from eq_false (by decide),show (((0:Nat):Int)=0)=True from eq_true (by decide),and_self,show ((0:Int)+1<=8796093022208)=True from eq_true (by decide)]
   ·have e1:qo .i64 ((1:Nat):Int) 1=((1+1:Nat):Int):=by decide
    have e2:qqf [x,y,z] ((1:Nat):Int)=y:=rfl;simp only[STD,e1,e2,q0X (qe9 hy),sy,t1,r1,q1,show (((1:Nat):Int)<3)=True from eq_true (by decide),show ((0:Int)<=((1:Nat):Int))=True from eq_true (by decide),
     show (((1:Nat):Int)=2)=False from eq_false (by decide),show (((1:Nat):Int)=1)=True from eq_true (by decide),and_self,show ((1:Int)+1<=8796093022208)=True from eq_true (by decide)]
   ·have e1:qo .i64 ((2:Nat):Int) 1=((2+1:Nat):Int):=by decide
    have e2:qqf [x,y,z] ((2:Nat):Int)=z:=rfl;simp only[STD,e1,e2,q0X (qe9 hz),sz,t2,r2,q2,show (((2:Nat):Int)<3)=True from eq_true (by decide),show ((0:Int)<=((2:Nat):Int))=True from eq_true (by decide),
     show (((2:Nat):Int)=2)=True from eq_true (by decide),and_self,show ((2:Int)+1<=8796093022208)=True from eq_true (by decide)]) (by
   rw[qgb];simp only[STD,show (((3:Nat):Int)<3)=False from eq_false (by decide)];rfl)
 exact key
theorem qKu{c:V3}{x y z:Int}(hc:CB c)(hx:co x)(hy:co y)(hz:co z):(vw [.s (tQ c.x),.s (tQ c.y),.s (tQ c.z),.i x,.i y,.i z]).run=some (0,[.s (tQ (d2 c (spV x y z))),.i 0]):=by
 have key':=qC1 hx hy hz (qca hc.x (qjq hx) (by omega) (by omega) (by omega)) (qca hc.y (qjq hy) (by omega) (by omega) (by omega)) (qca hc.z (qjq hz) (by omega) (by omega) (by omega));have kb:∀k,k<3->bnd 44 37 (if k=0 then c.x-(spV x y z).x else if k=1 then c.y-(spV x y z).y else c.z-(spV x y z).z):=fun k _=>by
  split
  ·exact qh2 hc.x hx
  ·split
   ·exact qh2 hc.y hy
   ·exact qh2 hc.z hz
 obtain⟨l0,l1,l2,l3⟩:=qOC (tQ (c.x-(x:Rat))) (tQ (c.y-(y:Rat))) (tQ (c.z-(z:Rat)));have gg:∀k:Nat,k<3->cS (txR [tQ (c.x-(x:Rat)),tQ (c.y-(y:Rat)),tQ (c.z-(z:Rat))]) (k:Int) 0=tQ (if k=0 then c.x-(spV x y z).x else if k=1 then c.y-(spV x y z).y else c.z-(spV x y z).z):=fun k hk=>by
  rcases (show k=0\/k=1\/k=2 by omega) with rfl|rfl|rfl
  ·exact l1
  ·exact l2
  ·exact l3
 have ht:=qGd (m:=3) (by omega) kb kb (by decide) l0 l0 gg gg;rw[qN6] at ht;rw[quV];simp only[STD,qi3,key',zm key',ht]
variable {n:Nat}
theorem qtp{t:Nat->Rat}{n:Nat}(h:∀k,k<n->bnd 36 36 (t k)):∀k,k<=n->bnd (38*k+1) (36*k+1) (su k t)
 | 0,_=>qex
 | k+1,hk=>by
  have:=(qtp h k (by omega)).add (h k (by omega)) (K:=38*(k+1)+1) (by omega) (by omega);exact this.mono (qON _) (by omega)
theorem qjs (F:Nat->Bs){k:Nat}(hk:k<n):cS (txR ((List.range n).map F)) (k:Int) 0=F k:=qHW (by rw[qOU,qPp hk];rfl)
theorem q5G (n:Nat)(F:Nat->Bs):qg (txR ((List.range n).map F))=(n:Int):=by rw[qry,qOV,qPm]
theorem qOp (hn:n<=3){t:Nat->Rat}(h:∀k,k<n->bnd 36 36 (t k)):(qc9 [.r (txR ((List.range n).map fun k=>tQ (t k)))]).run=some (0,[.s (tQ (su n t)),.i 0]):=by
 obtain⟨bl,hbl⟩:∃bl,bl=txR ((List.range n).map fun k=>tQ (t k)):=⟨_,rfl⟩;have lb:qg bl=(n:Int):=by rw[hbl,q5G]
 have gb:∀k,k<n->cS bl (k:Int) 0=tQ (t k):=fun k hk=>by rw[hbl];exact qjs (fun k=>tQ (t k)) hk
 have ck:(qC [.r bl]).run=some (0,[.i 0]):=by rw[hbl];exact qvE (by simp;omega) (fun s hs=>by obtain⟨k,hk,rfl⟩:=qPE.1 hs;exact qbE ((h k (qPH.1 hk)).ok (by omega) (by omega)))
 have key:=qu (S:=q20) (fun k=>[.s (tQ (su k t)),.r bl,.i n,.i (k:Int)]) (0,[.s (tQ (su n t))]) n (by omega) (fun k hk=>by
  rw[qko];have sb:=qtp h k (by omega);simp only[STD,lb,gb k hk,qnH sb (h k hk) (by omega) (by omega) (by omega),j5 hk (show n<9223372036854775808 by omega),show (k:Int)<n by omega,show (0:Int)<=k by omega,and_self];rfl) (by
  rw[qko];simp only[STD,show ¬(n:Int)<n by omega])
 have key':(qf q20 [.s [48],.r bl,.i (n:Int),.i 0]).run=some (0,[.s (tQ (su n t))]):=key;rw[<-hbl,qAW];simp only[STD,ck,key',zm key',lb,show ¬(4096:Int)<n by omega]
theorem qyL {q:Rat}{P M:Int}{a b:Nat}(hM:M≠0)(h:q*(M:Rat)=(P:Rat))(hP:P.natAbs<10^(a+1))(hD:M.natAbs<10^(b+1)):bnd (a+1) (b+1) q:=by obtain⟨h1,h2⟩:=qMP hM h;exact⟨q2Y a _ (by omega),q2Y b _ (by omega)⟩
theorem qJ2 (hn:n<=3){t:Nat->Rat}{D:Int}(hD:D.natAbs<=10^35)(h:∀i,i<n->∃T:Int,t i*(D:Rat)=(T:Rat)/\T.natAbs<=10^35):∀j,j<n+1->∃W:Int,wts t n j*(D:Rat)=(W:Rat)/\W.natAbs<=4*10^35:=by
 have sums:∀k,k<=n->∃W:Int,su k t*(D:Rat)=(W:Rat)/\W.natAbs<=k*10^35:=by
  intro k;induction k with
  | zero=>exact fun _=>⟨0,by simp only[su];rw[Rat.zero_mul];rfl,by simp⟩
  | succ k ih=>
   intro hk;obtain⟨W,e1,e2⟩:=ih (by omega);obtain⟨T,e3,e4⟩:=h k (by omega);refine⟨W+T,?_,?_⟩
   ·simp only[su];rw[Rat.add_mul,e1,e3,Rat.intCast_add]
   ·rw[qP2];omega
 intro j hj;unfold wts;by_cases e:j=0
 ·obtain⟨W,e1,e2⟩:=sums n (qON _);refine⟨D-W,?_,?_⟩
  ·rw[if_pos e,qQI,<-e1];grind
  ·have:=qPb (10^35) hn;omega
 ·obtain⟨T,e3,e4⟩:=h (j-1) (by omega);exact⟨T,by rw[if_neg e];exact e3,by omega⟩
theorem qJ9 (hn:n<=3){w:Nat->Rat}{x:Nat->Int}{D:Int}(hx:∀j,j<n+1->co (x j))(h:∀j,j<n+1->∃W:Int,w j*(D:Rat)=(W:Rat)/\W.natAbs<=4*10^35) :∃C:Int,su (n+1) (fun j=>w j*(x j:Rat))*(D:Rat)=(C:Rat)/\C.natAbs<=16*10^40:=by
 have sums:∀k,k<=n+1->∃C:Int,su k (fun j=>w j*(x j:Rat))*(D:Rat)=(C:Rat)/\C.natAbs<=k*(4*10^40):=by
  intro k;induction k with
  | zero=>exact fun _=>⟨0,by simp only[su];rw[Rat.zero_mul];rfl,by simp⟩
  | succ k ih=>
   intro hk;obtain⟨C,e1,e2⟩:=ih (by omega);obtain⟨W,e3,e4⟩:=h k (by omega);refine⟨C+W*x k,?_,?_⟩
   ·simp only[su];rw[Rat.add_mul,e1,Rat.intCast_add,qQx,<-e3];grind
   ·have hc:=hx k (by omega);have:=q4c e4 (show (x k).natAbs<=100000 by unfold co at hc;omega);rw[qP2];omega
 obtain⟨C,e1,e2⟩:=sums (n+1) (qON _);refine⟨C,e1,?_⟩;exact qOP e2 (qOP (qPb (4*10^40) (show n+1<=4 by omega)) (by decide))
end Go.Eng

namespace Go.Eng
variable {l:R}
def axv(l:R)(a k:Nat):Int:=qqf [cI l (k:Int) 0,cI l (k:Int) 1,cI l (k:Int) 2] (a:Int)
theorem uN.ax (h:uN l){k:Nat}(hk:k<l.length){a:Nat}(ha:a<3):co (axv l a k):=by
 obtain⟨h1,h2,h3⟩:=h.row hk;rcases (show a=0\/a=1\/a=2 by omega) with rfl|rfl|rfl
 ·exact h1
 ·exact h2
 ·exact h3
theorem qrp {m a:Nat}(h:uN l)(hl:l.length=m)(ha:a<3)(s1 s2 s3 s4 t1 t2 t3 t4:Bs)(wl:R) :(qf ja [.r l,.i a,.i a,.r l,.i m,.i 0,.s s1,.s s2,.s s3,.s s4,.r wl,.s t1,.s t2,.s t3,.s t4,.r []]).run = some (0,[.r l,.i a,.i a,.s s1,.s s2,.s s3,.s s4,.r wl,.s t1,.s t2,.s t3,.s t4,.r (txR ((List.range m).map fun k=>tQ (axv l a k:Rat)))]):=by
 have hm:m<=64:=by have:=h.1;omega
 have hL:qg l=(m:Int):=by unfold qg;rw[hl]
 have key:=qu (S:=ja) (fun k=>[.r l,.i a,.i a,.r l,.i m,.i (k:Int),.s s1,.s s2,.s s3,.s s4,.r wl,.s t1,.s t2,.s t3,.s t4,.r (txR ((List.range k).map fun k=>tQ (axv l a k:Rat)))])
  (0,[.r l,.i a,.i a,.s s1,.s s2,.s s3,.s s4,.r wl,.s t1,.s t2,.s t3,.s t4,.r (txR ((List.range m).map fun k=>tQ (axv l a k:Rat)))]) m (by omega) (fun k hk=>by
   rw[qaT];have e0:qqf [cI l (k:Int) 0,cI l (k:Int) 1,cI l (k:Int) 2] (a:Int)=axv l a k:=rfl;have e1:txR ((List.range (k+1)).map fun k=>tQ (axv l a k:Rat))=zE (txR ((List.range k).map fun k=>tQ (axv l a k:Rat))) [[.s (tQ (axv l a k:Rat))]]:=by rw[qic,qhQ,qPO,qP9];rfl
   have e3:qg [[U.s (tQ (axv l a k:Rat))]]=1:=rfl;simp only[STD,qi3,hL,e0,q0X (qe9 (h.ax (show k<l.length by omega) ha)),j5 hk (show m<9223372036854775808 by omega),e1,e3,qry,qOV,qPm,show (k:Int)<m by omega,
    show (a:Int)<3 by omega,show (0:Int)<=a by omega,show (k:Int)+1<=8796093022208 by omega,show (0:Int)<=k by omega,and_self]) (by
   rw[qaT];simp only[STD,show ¬(m:Int)<m by omega])
 exact key
theorem qEM {m:Nat}(h:uN l)(hl:l.length=m)(hm:m<=4){w:Nat->Rat}(hw:∀k,k<m->bnd 36 36 (w k))(s1 s2 s3 s4:Bs) :(qf jg [.r l,.i 0,.s s1,.s s2,.s s3,.s s4,.r (txR ((List.range m).map fun k=>tQ (w k))),.s [],.s [],.s [],.s []]).run = some (0,[.r l,.s s1,.s s2,.s s3,.s s4,.r (txR ((List.range m).map fun k=>tQ (w k))),.s (tQ (cen m w (pV l)).x),.s (tQ (cen m w (pV l)).y),.s (tQ (cen m w (pV l)).z),.s []]):=by
 obtain⟨wl,hwl⟩:∃wl,wl=txR ((List.range m).map fun k=>tQ (w k)):=⟨_,rfl⟩;have hL:qg l=(m:Int):=by unfold qg;rw[hl]
 have lw:qg wl=(m:Int):=by rw[hwl,q5G]
 have gw:∀k,k<m->cS wl (k:Int) 0=tQ (w k):=fun k hk=>by rw[hwl];exact qjs (fun k=>tQ (w k)) hk
 rw[<-hwl];have tot:∀a,a<3->(qA [.r wl,.r (txR ((List.range m).map fun k=>tQ (axv l a k:Rat)))]).run=some (0,[.s (tQ (su m fun k=>w k*(axv l a k:Rat))),.i 0]):=fun a ha=>
  qGd (by omega) hw (fun k hk=>qjq (h.ax (show k<l.length by omega) ha)) (by omega) lw (q5G _ _) gw (fun k hk=>qjs (fun k=>tQ (axv l a k:Rat)) hk)
 have q0:=tot 0 (by omega);have q1:=tot 1 (by omega);have q2:=tot 2 (by omega);have key:=qu (S:=jg) (fun a=>[.r l,.i (a:Int),.s s1,.s s2,.s s3,.s s4,.r wl,.s (if 0<a then tQ (su m fun k=>w k*(axv l 0 k:Rat)) else []),.s (if 1<a then tQ (su m fun k=>w k*(axv l 1 k:Rat)) else []),.s (if 2<a then tQ (su m fun k=>w k*(axv l 2 k:Rat)) else []),.s []])
  (0,[.r l,.s s1,.s s2,.s s3,.s s4,.r wl,.s (tQ (su m fun k=>w k*(axv l 0 k:Rat))),.s (tQ (su m fun k=>w k*(axv l 1 k:Rat))),.s (tQ (su m fun k=>w k*(axv l 2 k:Rat))),.s []]) 3 (by omega) (fun a ha=>by
   rw[qaO];rcases (show a=0\/a=1\/a=2 by omega) with rfl|rfl|rfl
   ·simp only[STD,hL,qrp h hl ha,q0];rfl
   ·simp only[STD,hL,qrp h hl ha,q1];rfl
   ·simp only[STD,hL,qrp h hl ha,q2];rfl) (by
   rw[qaO];simp only[STD];rfl)
 exact key
end Go.Eng

namespace Go.Eng
theorem qE5(n:Nat)(t:Nat->Rat):zE [[.s (tQ (1-su n t))]] (txR ((List.range n).map fun k=>tQ (t k)))=txR ((List.range (n+1)).map fun j=>tQ (wts t n j)):=by rw[qic,qhQ,List.range_succ_eq_map,qPS,List.map_map];rfl
theorem qDP{l:R}{n:Nat}(h:uN l)(hl:l.length=n+1)(hn:n<=3) :(∃t,Bl n (pV l) t/\(∀j,j<n+1->bnd 36 36 (wts t n j))/\CB (cen (n+1) (wts t n) (pV l)) /\(uZ [.r l]).run=some (0,[.s (tQ (cen (n+1) (wts t n) (pV l)).x),.s (tQ (cen (n+1) (wts t n) (pV l)).y),.s (tQ (cen (n+1) (wts t n) (pV l)).z),.s (tQ (d2 (cen (n+1) (wts t n) (pV l)) (pV l 0))),.r (txR ((List.range (n+1)).map fun j=>tQ (wts t n j))),.b true,.i 0])) \/(¬Ind (n+1) (pV l)/\(uZ [.r l]).run=some (0,[.s [],.s [],.s [],.s [],.r [],.b false,.i 0])):=by
 have hL:qg l=((n+1:Nat):Int):=by unfold qg;rw[hl]
 have w0:wo .i64 ((n+1:Nat):Int) 1=(n:Int):=by rw[ze (by omega)];omega
 have bd:∀i k,i<n->k<n->-120000000000<=dI l (i+1) (k+1)/\dI l (i+1) (k+1)<=120000000000:=fun i k hi hk=>qCx h (by omega) (by omega);have bg:∀i k,i<n->k<n->(gI2 l i k).natAbs<=240000000000:=fun i k hi hk=>by have:=bd i k hi hk;unfold gI2;omega
 have r0:=qGb h hl [] [] [] [];have r1:=qCB (n:=n) (L:=rI (mkI (gI2 l) n n)) (g:=gI2 l) (by omega) (by unfold rI;rw[qOV,qqi]) (fun i k hi hk=>qNP _ hi hk) (fun i k hi hk=>by have:=bg i k hi hk;omega);rcases qGc hn (G:=fun i k=>(gI2 l i k:Rat)) (fun i k hi hk=>qqg (qMj (by have:=bg i k hi hk;omega) (by omega)) (by omega)) with⟨N,g1,g2,g3⟩|⟨g1,g3⟩
 ·left;have eg:(fun i k=>(gI2 l i k:Rat))=qwN (pV l):=by funext i k;exact qtb l i k
  have eb:(fun k=>d2 (pV l 0) (pV l (k+1)))=fun k=>(dI l (k+1) (k+1):Rat):=by funext k;exact(qGk l k).symm
  obtain⟨t,et⟩:∃t,t=qMT n N fun k=>(dI l (k+1) (k+1):Rat):=⟨_,rfl⟩;have bl:Bl n (pV l) t:=by rw[eg] at g1;have:=qNn g1;rw[eb] at this;rw[et];exact this
  obtain⟨D,d0,d1,d2'⟩:=qNO hn (g:=gI2 l) (b:=fun i=>dI l (i+1) (i+1)) (N:=fun k j=>N k (n+j)) (t:=t) (fun i k hi hk=>bg i k hi hk)
   (fun i hi=>by have:=bd i i hi hi;show _<=240000000000;omega) (fun i j hi hj=>qGD g1 hi hj) (fun i hi=>by rw[et];exact qHR g1 _ hi)
  have tb:∀k,k<n->bnd 36 36 (t k):=fun k hk=>by obtain⟨T,e1,e2⟩:=d2' k hk;exact qyL (a:=35) (b:=35) d0 e1 (qQE e2 (by decide)) (qQE d1 (by decide))
  have wf:=qJ2 hn d1 d2';have wb:∀j,j<n+1->bnd 36 36 (wts t n j):=fun j hj=>by obtain⟨W,e1,e2⟩:=wf j hj;exact qyL (a:=35) (b:=35) d0 e1 (qQE e2 (by decide)) (qQE d1 (by decide))
  have cb:∀x:Nat->Int,(∀j,j<n+1->co (x j))->bnd 42 36 (su (n+1) fun j=>wts t n j*(x j:Rat)):=fun x hx=>by obtain⟨C,e1,e2⟩:=qJ9 hn hx wf;exact qyL (a:=41) (b:=35) d0 e1 (qQE e2 (by decide)) (qQE d1 (by decide))
  have hCB:CB (cen (n+1) (wts t n) (pV l)):=⟨cb _ fun j hj=>(h.row (show j<l.length by omega)).1,cb _ fun j hj=>(h.row (show j<l.length by omega)).2.1,cb _ fun j hj=>(h.row (show j<l.length by omega)).2.2⟩;refine⟨t,bl,wb,hCB,?_⟩;have r3:=qLP hn (V:=fun i k=>N i (n+k)) (B:=fun k=>(dI l (k+1) (k+1):Rat)) (fun i k hi hk=>g2 i (n+k) hi (by omega)) (fun k hk=>qqg (qMj (by have:=bd k k hk hk;omega) (by omega)) (by omega));have e3:(fun i=>tQ (su n fun k=>N i (n+k)*(dI l (k+1) (k+1):Rat)))=fun i=>tQ (t i):=by rw[et];rfl
  rw[e3] at r3;have r4:=qOp hn tb;have sb:=qtp tb n (qON _);have r5:=qca qzu sb (by omega) (by omega) (by omega);rw[show tQ 1=([49]:Bs) by decide] at r5;have r6:=qEM h hl (by omega) wb [] [] [] [];obtain⟨c,hc⟩:∃c,c=cen (n+1) (wts t n) (pV l):=⟨_,rfl⟩;rw[<-hc] at r6 hCB ⊢;obtain⟨z1,z2,z3⟩:=h.row0 (show 0<l.length by omega);have r7:(vw [.s (tQ c.x),.s (tQ c.y),.s (tQ c.z),.i (cI l 0 0),.i (cI l 0 1),.i (cI l 0 2)]).run=some (0,[.s (tQ (d2 c (pV l 0))),.i 0]):=qKu hCB z1 z2 z3;have e5:qg [[U.s (tQ (1-su n t))]]=1:=rfl;have e6:=qE5 n t;rw[qgA];simp only[STD,w0,r0,r1,g3,r3,r4,r5,e5,e6,q5G,r6,zm r6,r7,hL,show (1:Int)+n<=8796093022208 by omega,show (0:Int)<((n+1:Nat):Int) by omega];rw[if_neg (by decide),if_pos ⟨by decide,trivial⟩]
 ·right;have eg:(fun i k=>(gI2 l i k:Rat))=qwN (pV l):=by funext i k;exact qtb l i k
  refine⟨by rw[eg] at g1;exact qJF g1,?_⟩;rw[qgA];simp only[STD,hL,w0,r0,r1,g3]
theorem qAX{a:Rat}(h:okQ a):(q61 [.s (tQ a)]).run=some (0,[.i (sgn a.num),.i 0]):=by
 have e1:(q7n [.s (tQ a)]).run=some (0,[.s (tI a.num),.s (tI (a.den:Int)),.i 0]):=by rw[qwm];simp only[STD,qbE h,qks h]
 rw[qye];simp only[STD,e1,qA7 (q8Q h)]
theorem qkz{N D N' D':Nat}{a b:Rat}(ha:bnd N D a)(hb:bnd N' D' b)(h1:N+D'<=1023)(h2:N'+D<=1023) :(wH [.s (tQ a),.s (tQ b)]).run=some (0,[.i (sgn (a.num*(b.den:Int)-b.num*(a.den:Int))),.i 0]):=by
 have p1:=qxq a;have p2:=qxq b;have p3:=qxx a;have p4:=qxx b;have oa:okQ a:=⟨by have:=ha.1;have:=hb.2;omega,by have:=ha.2;have:=hb.1;omega⟩;have ob:okQ b:=⟨by have:=hb.1;have:=ha.2;omega,by have:=ha.1;have:=hb.2;omega⟩;have k1:okL (a.num*(b.den:Int)):=q9Y ha.1 hb.2 (by omega);have k2:okL (b.num*(a.den:Int)):=q9Y hb.1 ha.2 (by omega);have m1:=qix (q8Q oa) (q5J ob) k1;have m2:=qix (q8Q ob) (q5J oa) k2;have m1':(qt [.r [[.s (tI a.num)],[.s (tI (b.den:Int))]],.i 0]).run=some (0,[.s (tI (a.num*(b.den:Int))),.i 0]):=m1;have m2':(qt [.r [[.s (tI b.num)],[.s (tI (a.den:Int))]],.i 0]).run=some (0,[.s (tI (b.num*(a.den:Int))),.i 0]):=m2;have hch:=qvE (l:=[tQ a,tQ b]) (by simp) (fun s hs=>by
  simp only[qP5,List.not_mem_nil,or_false] at hs;rcases hs with rfl|rfl
  ·exact qbE oa
  ·exact qbE ob)
 have hch':(qC [.r [[.s (tQ a)],[.s (tQ b)]]]).run=some (0,[.i 0]):=hch;rw[qsP];simp only[STD,hch',qks oa,qks ob,m1',m2',qjF k1 k2]
theorem qNo{m:Int}:sgn m<0↔m<0:=by unfold sgn;split<;>(try split)<;>omega
theorem qFV{m:Int}:0<sgn m↔0<m:=by unfold sgn;split<;>(try split)<;>omega
theorem qN9{a:Rat}:a.num<0↔a<0:=by rw[<-Rat.not_le,<-Rat.num_nonneg];omega
theorem qHE{a b:Rat}:0<a.num*(b.den:Int)-b.num*(a.den:Int)↔b<a:=by rw[Rat.lt_iff];omega
theorem qgl{α:Type}{f:Nat->Option α}:∀{k i:Nat} {r:α},q7V f i k=some r->∃j,i<=j/\j<i+k/\f j=some r
 | 0,i,r,h=>by simp[q7V] at h
 | k+1,i,r,h=>by
  simp only[q7V] at h;cases hf:f i with
  | some a=>
   rw[hf] at h;exact⟨i,by omega,by omega,by rw[hf];exact h⟩
  | none=>
   rw[hf] at h;obtain⟨j,h1,h2,h3⟩:=qgl h;exact⟨j,by omega,by omega,h3⟩
theorem qKk{n:Nat}(hn:n<=1000){w:Nat->Rat}(hw:∀k,k<n->okQ (w k)) :∃b,(qN [.r (txR ((List.range n).map fun k=>tQ (w k)))]).run=some (0,[.b b])/\(b=true↔∃k,k<n/\w k<0):=by
 obtain⟨x,hx⟩:∃x,x=txR ((List.range n).map fun k=>tQ (w k)):=⟨_,rfl⟩;have lx:qg x=(n:Int):=by rw[hx,q5G]
 have gx:∀k,k<n->cS x (k:Int) 0=tQ (w k):=fun k hk=>by rw[hx];exact qjs (fun k=>tQ (w k)) hk
 have one:∀k,k<n->(qQ [.s (tQ (w k))]).run=some (0,[.b (decide (w k<0))]):=fun k hk=>by rw[qdG];simp only[STD,qAX (hw k hk)];rw[show ilt (sgn (w k).num) 0=decide (w k<0) from decide_eq_decide.2 (qNo.trans qN9)]
 have key:=kt (S:=qx) (fun k=>[.r x,.i n,.i (k:Int)]) (fun k=>if w k<0 then some (1,[.i (k:Int)]) else none) (0,[]) n (by omega)
  (fun k hk hf=>by
   have h0:¬w k<0:=fun h=>by rw[if_pos h] at hf;cases hf
   rw[wj];simp only[STD,lx,gx k hk,one k hk,h0,j5 hk (show n<9223372036854775808 by omega),show (k:Int)<n by omega,show (0:Int)<=k by omega,and_self])
  (fun k r hk hf=>by
   have h0:w k<0:=qPn fun h=>by rw[if_neg h] at hf;cases hf
   rw[if_pos h0] at hf;cases hf;rw[wj];simp only[STD,lx,gx k hk,one k hk,h0,show (k:Int)<n by omega,show (0:Int)<=k by omega,and_self])
  (by rw[wj];simp only[STD,show ¬(n:Int)<n by omega])
 rw[<-hx,q3s];cases hs:q7V (fun k=>if w k<0 then some (1,[PV.i (k:Int)]) else (none:Option (Nat×List PV))) 0 n with
 | none=>
  rw[hs] at key;have key':(qf qx [.r x,.i n,.i 0]).run=some (0,[]):=key;have r:(qJ [.r x]).run=some (0,[.i (-1)]):=by rw[ud];simp only[STD,lx,key',zm key']
  refine⟨false,by simp only[STD,r];rfl,⟨fun h=>(by cases h),fun⟨k,hk,h⟩=>?_⟩⟩;have:=qgj hs k (by omega) (by omega);simp only[if_pos h] at this;cases this
 | some r=>
  rw[hs] at key;obtain⟨k,h1,h2,h3⟩:=qgl hs;have h0:w k<0:=qPn fun h=>by simp only[if_neg h] at h3;cases h3
  simp only[if_pos h0] at h3;cases h3;have key':(qf qx [.r x,.i n,.i 0]).run=some (1,[.i (k:Int)]):=key;have r:(qJ [.r x]).run=some (0,[.i (k:Int)]):=by rw[ud];simp only[STD,lx,key',zm key',show ¬((1:Nat)=0) by decide]
  refine⟨true,?_,⟨fun _=>⟨k,by omega,h0⟩,fun _=>rfl⟩⟩;simp only[STD,r];rw[show ile 0 (k:Int)=true from by simp[ile]]
theorem qJw{n:Nat}(hn:n<=1000){w:Nat->Rat}(hw:∀k,k<n->okQ (w k))(s1 s2 s3 s4:Bs) :∃b,(vO [.s s1,.s s2,.s s3,.s s4,.r (txR ((List.range n).map fun k=>tQ (w k)))]).run=some (0,[.b b])/\(b=true↔∀k,k<n->0<=w k):=by
 obtain⟨b,h1,h2⟩:=qKk hn hw;refine⟨!b,by rw[qgt];simp only[STD,h1],?_⟩;constructor
 ·intro h k hk;apply Rat.not_lt.1;intro hl;have:=h2.2 ⟨k,hk,hl⟩;rw[this] at h;cases h
 ·intro h;cases b with
  | false=>rfl
  | true=>
   obtain⟨k,hk,hl⟩:=h2.1 rfl;exact absurd (h k hk) (Rat.not_le.2 hl)
theorem qF9{l:R}(h:uN l){c:V3}(hc:CB c){s:Rat}(hs:bnd 317 223 s)(wl:R) :∃b,(wI [.s (tQ c.x),.s (tQ c.y),.s (tQ c.z),.s (tQ s),.r wl,.r l]).run=some (0,[.b b,.i 0])/\(b=true↔∀k,k<l.length->d2 c (pV l k)<=s):=by
 have hl:=h.1;have lx:qg l=(l.length:Int):=rfl;have aw:∀k,k<l.length->(vw [.s (tQ c.x),.s (tQ c.y),.s (tQ c.z),.i (cI l (k:Int) 0),.i (cI l (k:Int) 1),.i (cI l (k:Int) 2)]).run=some (0,[.s (tQ (d2 c (pV l k))),.i 0]):=fun k hk=>by obtain⟨h1,h2,h3⟩:=h.row hk;exact qKu hc h1 h2 h3
 have cp:∀k,k<l.length->(wH [.s (tQ (d2 c (pV l k))),.s (tQ s)]).run=some (0,[.i (sgn ((d2 c (pV l k)).num*(s.den:Int)-s.num*((d2 c (pV l k)).den:Int))),.i 0]):=fun k hk=>by obtain⟨h1,h2,h3⟩:=h.row hk;exact qkz (qE8 hc h1 h2 h3) hs (by omega) (by omega)
 have key:=kt (S:=qS) (fun k=>[.r l,.i l.length,.i (k:Int),.s (tQ c.x),.s (tQ c.y),.s (tQ c.z),.s (tQ s),.r wl]) (fun k=>if s<d2 c (pV l k) then some (1,[.b false,.i 0]) else none) (0,[]) l.length (by omega)
  (fun k hk hf=>by
   have h0:¬s<d2 c (pV l k):=fun h=>by rw[if_pos h] at hf;cases hf
   rw[ym];simp only[STD,lx,aw k hk,cp k hk,qFV,qHE,h0,j5 hk (show l.length<9223372036854775808 by omega),show (k:Int)<l.length by omega,show (0:Int)<=k by omega,and_self])
  (fun k r hk hf=>by
   have h0:s<d2 c (pV l k):=qPn fun h=>by rw[if_neg h] at hf;cases hf
   rw[if_pos h0] at hf;cases hf;rw[ym];simp only[STD,lx,aw k hk,cp k hk,qFV,qHE,h0,show (k:Int)<l.length by omega,show (0:Int)<=k by omega,and_self])
  (by rw[ym];simp only[STD,show ¬(l.length:Int)<l.length by omega])
 rw[qdE];cases hs:q7V (fun k=>if s<d2 c (pV l k) then some (1,[PV.b false,.i 0]) else (none:Option (Nat×List PV))) 0 l.length with
 | none=>
  rw[hs] at key;have key':(qf qS [.r l,.i l.length,.i 0,.s (tQ c.x),.s (tQ c.y),.s (tQ c.z),.s (tQ s),.r wl]).run=some (0,[]):=key;refine⟨true,by simp only[STD,lx,key',zm key'],⟨fun _ k hk=>?_,fun _=>rfl⟩⟩;apply Rat.not_lt.1;intro h0;have:=qgj hs k (by omega) (by omega);simp only[if_pos h0] at this;cases this
 | some r=>
  rw[hs] at key;obtain⟨k,h1,h2,h3⟩:=qgl hs;have h0:s<d2 c (pV l k):=qPn fun h=>by simp only[if_neg h] at h3;cases h3
  simp only[if_pos h0] at h3;cases h3;have key':(qf qS [.r l,.i l.length,.i 0,.s (tQ c.x),.s (tQ c.y),.s (tQ c.z),.s (tQ s),.r wl]).run=some (1,[.b false,.i 0]):=key;refine⟨false,by simp only[STD,lx,key',zm key'];rfl,⟨fun h=>(by cases h),fun h=>?_⟩⟩;exact absurd (h k (by omega)) (Rat.not_le.2 h0)
variable {L:List Nat}{l:R}
def rN(L:List Nat):R:=rI (L.map fun k:Nat=>(k:Int))
def chR(l:R)(L:List Nat):R:=L.map fun k:Nat=>[.i (cI l (k:Int) 0),.i (cI l (k:Int) 1),.i (cI l (k:Int) 2)]
theorem qdt (L:List Nat):qg (rN L)=(L.length:Int):=by unfold rN;rw[qk5,qOV]
theorem qFW {j k:Nat}(h:L[j]?=some k):cI (rN L) (j:Int) 0=(k:Int):=by unfold rN;rw[qG6,qOX,qOM,qOU,h];rfl
theorem qkU (l:R)(L:List Nat):(chR l L).length=L.length:=by unfold chR;rw[qOV]
theorem qKg (hL:L.length<=1000)(h:∀k,k∈L->k<l.length):(q1F [.r l,.r (rN L)]).run=some (0,[.r (chR l L)]):=by
 have key:=qu (S:=jQ) (fun j=>[.r l,.r (rN L),.i L.length,.i (j:Int),.r (chR l (L.take j))]) (0,[.r (chR l L)]) L.length (by omega) (fun j hj=>by
  obtain⟨k,hk⟩:∃k,L[j]?=some k:=⟨L[j],qOS hj⟩;have hkl:=h k (qPA hk);have e1:chR l (L.take (j+1))=zE (chR l (L.take j)) [[.i (cI l (k:Int) 0),.i (cI l (k:Int) 1),.i (cI l (k:Int) 2)]]:=by unfold chR zE;rw[List.take_add_one,hk,qP9];rfl
  have e2:qg (chR l (L.take j))=(j:Int):=by unfold qg;rw[qkU,qPJ,qPK (by omega)]
  have e3:qg [[U.i (cI l (k:Int) 0),.i (cI l (k:Int) 1),.i (cI l (k:Int) 2)]]=1:=rfl;have e4:qg l=(l.length:Int):=rfl;rw[qdl];simp only[STD,qdt,qFW hk,e1,e2,e3,e4,j5 hj (show L.length<9223372036854775808 by omega),show (j:Int)<L.length by omega,show (0:Int)<=j by omega,show (0:Int)<=k by omega,show (k:Int)<l.length by omega,
   show (j:Int)+1<=5864062014805 by omega,and_self]) (by
  rw[qdl];simp only[STD,show ¬(L.length:Int)<L.length by omega,qPX])
 have key':(qf jQ [.r l,.r (rN L),.i (L.length:Int),.i 0,.r []]).run=some (0,[.r (chR l L)]):=key;rw[qqC];simp only[STD,qdt,key']
theorem qIe {j k:Nat}(h:L[j]?=some k):cI (chR l L) (j:Int) 0=cI l (k:Int) 0/\cI (chR l L) (j:Int) 1=cI l (k:Int) 1/\cI (chR l L) (j:Int) 2=cI l (k:Int) 2:=by
 have e:(chR l L).getD ((j:Int).toNat) []=[.i (cI l (k:Int) 0),.i (cI l (k:Int) 1),.i (cI l (k:Int) 2)]:=by unfold chR;rw[qOX,qOM,qOU,h];rfl
 refine⟨?_,?_,?_⟩<;>(conv=>lhs;unfold cI zJ)<;>rw[e]<;>rfl
theorem quZ (hs:uN l)(hL:L.length<=64)(h:∀k,k∈L->k<l.length):uN (chR l L):=by refine⟨by rw[qkU];exact hL,fun j hj=>?_⟩;rw[qkU] at hj;obtain⟨k,hk⟩:∃k,L[j]?=some k:=⟨L[j],qOS hj⟩;obtain⟨e1,e2,e3⟩:=qIe (l:=l) hk;have:=hs.2 k (h k (qPA hk));unfold qLD at this ⊢;rw[e1,e2,e3];exact this
def Lf(l:R)(L:List Nat)(j:Nat):Nat:=L.getD j l.length
theorem qBm (l:R)(L:List Nat):pV (chR l L)=fun j=>pV l (Lf l L j):=by
 funext j;unfold pV Lf;cases h:L[j]? with
 | some k=>
  obtain⟨e1,e2,e3⟩:=qIe (l:=l) h;rw[e1,e2,e3,qOM,h];rfl
 | none=>
  have h1:=List.getElem?_eq_none_iff.1 h;have e:(chR l L).getD ((j:Int).toNat) []=[]:=by rw[qOX,qOM,qP7 (by rw[qkU];exact h1)];rfl
  have e':l.getD (((l.length:Nat):Int).toNat) []=[]:=by rw[qOX,qOM,qP7 (qON _)];rfl
  rw[qOM,h];show V3.mk _ _ _=V3.mk _ _ _;unfold cI zJ;simp only[Option.getD_none];rw[e,e']
def qBS(p:Nat->V3)(m n:Nat)(L:Nat->Nat)(t:Nat->Rat):Prop:=Bl n (fun j=>p (L j)) t/\(∀j,j<n+1->0<=wts t n j)/\∀i,i<m->d2 (cen (n+1) (wts t n) fun j=>p (L j)) (p i)<=d2 (cen (n+1) (wts t n) fun j=>p (L j)) (p (L 0))
theorem qoo {n:Nat}{c:Nat->V3}{t t':Nat->Rat}(h:Bl n c t)(h':Bl n c t'):∀j,j<n+1->wts t n j=wts t' n j:=fun j hj=>by
 unfold wts;have:=qLC h h';rw[ql this];by_cases e:j=0
 ·rw[if_pos e,if_pos e]
 ·rw[if_neg e,if_neg e];exact this (j-1) (by omega)
theorem qk1 {n:Nat}{w w':Nat->Rat}{c:Nat->V3}(h:∀j,j<n->w j=w' j):cen n w c=cen n w' c:=by
 have e:∀f:Nat->Rat,su n (fun j=>w j*f j)=su n fun j=>w' j*f j:=fun f=>ql fun j hj=>by rw[h j hj]
 unfold cen;rw[e,e,e]
end Go.Eng

namespace Go.Eng
theorem qyG{l:R}(h:uN l){c:V3}(hc:CB c){k:Nat}(hk:k<l.length):bnd 317 223 (d2 c (pV l k)):=by obtain⟨h1,h2,h3⟩:=h.row hk;exact qE8 hc h1 h2 h3
theorem qAL{p:Nat->V3}{m n:Nat}{L:Nat->Nat}{t t':Nat->Rat}(h:qBS p m n L t)(h':Bl n (fun j=>p (L j)) t'):qBS p m n L t':=by
 have e:=qoo h.1 h';have ec:=qk1 (c:=fun j=>p (L j)) e;refine⟨h',fun j hj=>?_,fun i hi=>?_⟩
 ·rw[<-e j hj];exact h.2.1 j hj
 ·rw[<-ec];exact h.2.2 i hi
theorem quj{l:R}(hs:uN l){L:List Nat}{n:Nat}(hL:L.length=n+1)(hn:n<=3)(hlt:∀k,k∈L->k<l.length) :(∃t,qBS (pV l) l.length n (Lf l L) t/\(∀j,j<n+1->bnd 36 36 (wts t n j))/\CB (cen (n+1) (wts t n) fun j=>pV l (Lf l L j)) /\(zO [.r l,.r (rN L)]).run=some (0,[.s (tQ (cen (n+1) (wts t n) fun j=>pV l (Lf l L j)).x),.s (tQ (cen (n+1) (wts t n) fun j=>pV l (Lf l L j)).y),.s (tQ (cen (n+1) (wts t n) fun j=>pV l (Lf l L j)).z),.s (tQ (d2 (cen (n+1) (wts t n) fun j=>pV l (Lf l L j)) (pV l (Lf l L 0)))),.r (txR ((List.range (n+1)).map fun j=>tQ (wts t n j))),.b true,.i 0])) \/((∀t,¬qBS (pV l) l.length n (Lf l L) t)/\∃s1 s2 s3 s4 wl,(zO [.r l,.r (rN L)]).run=some (0,[.s s1,.s s2,.s s3,.s s4,.r wl,.b false,.i 0])):=by
 have ch:=qKg (l:=l) (L:=L) (by omega) hlt;have sp:=quZ hs (show L.length<=64 by omega) hlt;have key:=qDP sp (n:=n) (by rw[qkU];exact hL) hn;rw[qBm] at key;rcases key with⟨t,h1,h2,h3,h4⟩|⟨h1,h4⟩
 ·obtain⟨c,hc⟩:∃c,c=cen (n+1) (wts t n) fun j=>pV l (Lf l L j):=⟨_,rfl⟩;have l0:Lf l L 0<l.length:=by unfold Lf;rw[qOM,qOS (show 0<L.length by omega)];exact hlt _ (qPx _)
  rw[<-hc] at h3 h4;have fb:=qyG hs h3 l0;obtain⟨b1,i1,i2⟩:=qJw (show n+1<=1000 by omega) (w:=wts t n) (fun k hk=>(h2 k hk).ok (by omega) (by omega)) (tQ c.x) (tQ c.y) (tQ c.z) (tQ (d2 c (pV l (Lf l L 0))));obtain⟨b2,j1,j2⟩:=qF9 hs h3 fb (txR ((List.range (n+1)).map fun j=>tQ (wts t n j)));have nope:(b1=false\/b2=false)->∀t',¬qBS (pV l) l.length n (Lf l L) t':=fun hb t' ht'=>by
   have hh:=qAL ht' h1;unfold qBS at hh;rw[<-hc] at hh;rcases hb with e|e
   ·rw[i2.2 hh.2.1] at e;cases e
   ·rw[j2.2 hh.2.2] at e;cases e
  rw[qaZ];cases b1 with
  | false=>
   right;refine⟨nope (Or.inl rfl),[],[],[],[],[],?_⟩;simp only[STD,ch,h4,i1]
  | true=>
   cases b2 with
   | false=>
    right;refine⟨nope (Or.inr rfl),tQ c.x,tQ c.y,tQ c.z,tQ (d2 c (pV l (Lf l L 0))),txR ((List.range (n+1)).map fun j=>tQ (wts t n j)),?_⟩;simp only[STD,ch,h4,i1,j1]
   | true=>
    left;refine⟨t,⟨h1,i2.1 rfl,?_⟩,h2,by rw[<-hc];exact h3,?_⟩
    ·rw[<-hc];exact j2.1 rfl
    ·rw[<-hc];simp only[STD,ch,h4,i1,j1]
 ·right;refine⟨fun t ht=>h1 ht.1.ind,[],[],[],[],[],?_⟩;rw[qaZ];simp only[STD,ch,h4]
theorem qm5{l:R}{L:List Nat}(hL:L.length<=1000)(h:∀k,k∈L->k<l.length):(q00 [.r l,.r (rN L)]).run=some (0,[.r (chR l L)]):=by
 have key:=qu (S:=uP) (fun j=>[.r l,.r (rN L),.i (j:Int),.r (chR l (L.take j))]) (0,[.r (chR l L)]) L.length (by omega) (fun j hj=>by
  obtain⟨k,hk⟩:∃k,L[j]?=some k:=⟨L[j],qOS hj⟩;have hkl:=h k (qPA hk);have e1:chR l (L.take (j+1))=zE (chR l (L.take j)) [[.i (cI l (k:Int) 0),.i (cI l (k:Int) 1),.i (cI l (k:Int) 2)]]:=by unfold chR zE;rw[List.take_add_one,hk,qP9];rfl
  have e2:qg (chR l (L.take j))=(j:Int):=by unfold qg;rw[qkU,qPJ,qPK (by omega)]
  have e3:qg [[U.i (cI l (k:Int) 0),.i (cI l (k:Int) 1),.i (cI l (k:Int) 2)]]=1:=rfl;have e4:qg l=(l.length:Int):=rfl;rw[qg3];simp only[STD,qdt,qFW hk,e1,e2,e3,e4,j5 hj (show L.length<9223372036854775808 by omega),show (j:Int)<L.length by omega,show (0:Int)<=j by omega,show (0:Int)<=k by omega,show (k:Int)<l.length by omega,
   show (j:Int)+1<=5864062014805 by omega,and_self]) (by
  rw[qg3];simp only[STD,qdt,show ¬(L.length:Int)<L.length by omega,qPX])
 have key':(qf uP [.r l,.r (rN L),.i 0,.r []]).run=some (0,[.r (chR l L)]):=key;rw[qvf];simp only[STD,key']
theorem qrG{c:V3}{x y z:Int}(hc:CB c)(hx:co x)(hy:co y)(hz:co z):(yJ [.s (tQ c.x),.s (tQ c.y),.s (tQ c.z),.i x,.i y,.i z]).run=some (0,[.s (tQ (d2 c (spV x y z)))]):=by
 have bx:=qh2 hc.x hx;have bY:=qh2 hc.y hy;have bz:=qh2 hc.z hz;have mx:=bx.mul bx;have my:=bY.mul bY;have mz:=bz.mul bz;have a1:=qex.add mx (K:=200) (by omega) (by omega);have a2:=a1.add my (K:=400) (by omega) (by omega);obtain⟨A,hA⟩:∃A,A=(c.x-(x:Rat))*(c.x-(x:Rat)):=⟨_,rfl⟩;obtain⟨B,hB⟩:∃B,B=(c.y-(y:Rat))*(c.y-(y:Rat)):=⟨_,rfl⟩;obtain⟨C,hC⟩:∃C,C=(c.z-(z:Rat))*(c.z-(z:Rat)):=⟨_,rfl⟩;have hd:d2 c (spV x y z)=0+A+B+C:=by rw[hA,hB,hC];unfold d2 spV;grind
 have s1:=q6T (hc.x.sm (K:=100000) (by omega) (by omega)) ((qjq hx).sm (K:=100000) (by omega) (by omega));have s2:=q6T (hc.y.sm (K:=100000) (by omega) (by omega)) ((qjq hy).sm (K:=100000) (by omega) (by omega));have s3:=q6T (hc.z.sm (K:=100000) (by omega) (by omega)) ((qjq hz).sm (K:=100000) (by omega) (by omega));have t1:=q3A (bx.sm (K:=100000) (by omega) (by omega)) (bx.sm (K:=100000) (by omega) (by omega));have t2:=q3A (bY.sm (K:=100000) (by omega) (by omega)) (bY.sm (K:=100000) (by omega) (by omega));have t3:=q3A (bz.sm (K:=100000) (by omega) (by omega)) (bz.sm (K:=100000) (by omega) (by omega));have u1:=q9r (qex.sm (K:=100000) (by omega) (by omega)) (mx.sm (K:=100000) (by omega) (by omega));have u2:=q9r (a1.sm (K:=100000) (by omega) (by omega)) (my.sm (K:=100000) (by omega) (by omega));have u3:=q9r (a2.sm (K:=100000) (by omega) (by omega)) (mz.sm (K:=100000) (by omega) (by omega));rw[<-hA] at t1 u1 u2 u3;rw[<-hB] at t2 u2 u3;rw[<-hC] at t3 u3;obtain⟨acc,hacc⟩:∃acc:Nat->Bs,acc=fun k=>if k=0 then tQ 0 else if k=1 then tQ (0+A) else if k=2 then tQ (0+A+B) else tQ (0+A+B+C):=⟨_,rfl⟩
 have c0:acc 0=tQ 0:=by rw[hacc];rfl
 have c1:acc 1=tQ (0+A):=by rw[hacc];rfl
 have c2:acc 2=tQ (0+A+B):=by rw[hacc];rfl
 have c3:acc 3=tQ (0+A+B+C):=by rw[hacc];rfl
 have key:=qu (S:=q1Q) (fun k=>[.s (acc k),.i x,.i y,.i z,.i (k:Int),.s (tQ c.x),.s (tQ c.y),.s (tQ c.z)]) (0,[.s (acc 3)]) 3 (by omega) (fun k hk=>by
  rw[qkF];rcases (show k=0\/k=1\/k=2 by omega) with rfl|rfl|rfl
  ·have e1:qo .i64 ((0:Nat):Int) 1=((0+1:Nat):Int):=by decide
   have e2:qqf [x,y,z] ((0:Nat):Int)=x:=rfl;simp only[STD,e1,e2,q15 (qe9 hx),s1,t1,c0,u1,c1,show (((0:Nat):Int)<3)=True from eq_true (by decide),show ((0:Int)<=((0:Nat):Int))=True from eq_true (by decide),
    show (((0:Nat):Int)=2)=False from eq_false (by decide),show (((0:Nat):Int)=1)=False from eq_false (by decide),show (((0:Nat):Int)=0)=True from eq_true (by decide),and_self]
  ·have e1:qo .i64 ((1:Nat):Int) 1=((1+1:Nat):Int):=by decide
   have e2:qqf [x,y,z] ((1:Nat):Int)=y:=rfl;simp only[STD,e1,e2,q15 (qe9 hy),s2,t2,c1,u2,c2,show (((1:Nat):Int)<3)=True from eq_true (by decide),show ((0:Int)<=((1:Nat):Int))=True from eq_true (by decide),
    show (((1:Nat):Int)=2)=False from eq_false (by decide),show (((1:Nat):Int)=1)=True from eq_true (by decide),and_self]
  ·have e1:qo .i64 ((2:Nat):Int) 1=((2+1:Nat):Int):=by decide
   have e2:qqf [x,y,z] ((2:Nat):Int)=z:=rfl;simp only[STD,e1,e2,q15 (qe9 hz),s3,t3,c2,u3,c3,show (((2:Nat):Int)<3)=True from eq_true (by decide),show ((0:Int)<=((2:Nat):Int))=True from eq_true (by decide),
    show (((2:Nat):Int)=2)=True from eq_true (by decide),and_self]) (by
  rw[qkF];simp only[STD,show (((3:Nat):Int)<3)=False from eq_false (by decide)])
 have key':(qf q1Q [.s [48],.i x,.i y,.i z,.i 0,.s (tQ c.x),.s (tQ c.y),.s (tQ c.z)]).run=some (0,[.s (tQ (d2 c (spV x y z)))]):=by rw[hd,<-c3];have:=key;simp only[c0] at this;exact this
 rw[qy8];simp only[STD,key']
theorem qGM{q:Rat}:(0<sgq q)=(0<q):=by
 apply propext;rcases qu1 q with⟨h,e⟩|⟨h,e⟩|⟨h,e⟩<;>rw[e]
 ·exact⟨fun h'=>by omega,fun h'=>absurd h' (Rat.not_lt.2 (Rat.le_of_lt h))⟩
 ·exact⟨fun h'=>by omega,fun h'=>by rw[h] at h';exact absurd h' Rat.lt_irrefl⟩
 ·exact⟨fun _=>h,fun _=>by omega⟩
theorem qsM{l:R}(h:uN l){c:V3}(hc:CB c){s:Rat}(hs:bnd 317 223 s) :∃b,(q1A [.r l,.s (tQ c.x),.s (tQ c.y),.s (tQ c.z),.s (tQ s)]).run=some (0,[.b b])/\(b=true↔∀k,k<l.length->d2 c (pV l k)<=s):=by
 have hl:=h.1;have lx:qg l=(l.length:Int):=rfl;have aw:∀k,k<l.length->(yJ [.s (tQ c.x),.s (tQ c.y),.s (tQ c.z),.i (cI l (k:Int) 0),.i (cI l (k:Int) 1),.i (cI l (k:Int) 2)]).run=some (0,[.s (tQ (d2 c (pV l k)))]):=fun k hk=>by obtain⟨h1,h2,h3⟩:=h.row hk;exact qrG hc h1 h2 h3
 have cp:∀k,k<l.length->(yx [.s (tQ (d2 c (pV l k))),.s (tQ s)]).run=some (0,[.i (sgq (d2 c (pV l k)-s))]):=fun k hk=>
  qpa ((qyG h hc hk).sm (by omega) (by omega)) (hs.sm (by omega) (by omega))
 have gt:∀k,(0<d2 c (pV l k)-s)=(s<d2 c (pV l k)):=fun k=>propext ⟨fun h=>by grind,fun h=>by grind⟩;have key:=kt (S:=vJ) (fun k=>[.r l,.s (tQ s),.i (k:Int),.s (tQ c.x),.s (tQ c.y),.s (tQ c.z)]) (fun k=>if s<d2 c (pV l k) then some (1,[.b false]) else none) (0,[]) l.length (by omega)
  (fun k hk hf=>by
   have h0:¬s<d2 c (pV l k):=fun h=>by rw[if_pos h] at hf;cases hf
   rw[q5T];simp only[STD,lx,aw k hk,cp k hk,qGM,gt,h0,j5 hk (show l.length<9223372036854775808 by omega),show (k:Int)<l.length by omega,show (0:Int)<=k by omega,and_self])
  (fun k r hk hf=>by
   have h0:s<d2 c (pV l k):=qPn fun h=>by rw[if_neg h] at hf;cases hf
   rw[if_pos h0] at hf;cases hf;rw[q5T];simp only[STD,lx,aw k hk,cp k hk,qGM,gt,h0,show (k:Int)<l.length by omega,show (0:Int)<=k by omega,and_self])
  (by rw[q5T];simp only[STD,lx,show ¬(l.length:Int)<l.length by omega])
 rw[qqU];cases hs:q7V (fun k=>if s<d2 c (pV l k) then some (1,[PV.b false]) else (none:Option (Nat×List PV))) 0 l.length with
 | none=>
  rw[hs] at key;have key':(qf vJ [.r l,.s (tQ s),.i 0,.s (tQ c.x),.s (tQ c.y),.s (tQ c.z)]).run=some (0,[]):=key;refine⟨true,by simp only[STD,key',zm key'],⟨fun _ k hk=>?_,fun _=>rfl⟩⟩;apply Rat.not_lt.1;intro h0;have:=qgj hs k (by omega) (by omega);simp only[if_pos h0] at this;cases this
 | some r=>
  rw[hs] at key;obtain⟨k,h1,h2,h3⟩:=qgl hs;have h0:s<d2 c (pV l k):=qPn fun h=>by simp only[if_neg h] at h3;cases h3
  simp only[if_pos h0] at h3;cases h3;have key':(qf vJ [.r l,.s (tQ s),.i 0,.s (tQ c.x),.s (tQ c.y),.s (tQ c.z)]).run=some (1,[.b false]):=key;refine⟨false,by simp only[STD,key',zm key'];rfl,⟨fun h=>(by cases h),fun h=>?_⟩⟩;exact absurd (h k (by omega)) (Rat.not_le.2 h0)
theorem qxX{n:Nat}(hn:n<=3){t:Nat->Rat}(h:∀k,k<n->bnd 36 36 (t k)):(q3w [.r (txR ((List.range n).map fun k=>tQ (t k)))]).run=some (0,[.s (tQ (su n t))]):=by
 obtain⟨bl,hbl⟩:∃bl,bl=txR ((List.range n).map fun k=>tQ (t k)):=⟨_,rfl⟩;have lb:qg bl=(n:Int):=by rw[hbl,q5G]
 have gb:∀k,k<n->cS bl (k:Int) 0=tQ (t k):=fun k hk=>by rw[hbl];exact qjs (fun k=>tQ (t k)) hk
 have key:=qu (S:=q0t) (fun k=>[.r bl,.s (tQ (su k t)),.i (k:Int)]) (0,[.s (tQ (su n t))]) n (by omega) (fun k hk=>by
  rw[qii];have sb:=qtp h k (by omega);simp only[STD,lb,gb k hk,q9r (sb.sm (K:=100000) (by omega) (by omega)) ((h k hk).sm (K:=100000) (by omega) (by omega)),j5 hk (show n<9223372036854775808 by omega),show (k:Int)<n by omega,show (0:Int)<=k by omega,and_self];rfl) (by
  rw[qii];simp only[STD,lb,show ¬(n:Int)<n by omega])
 have key':(qf q0t [.r bl,.s [48],.i 0]).run=some (0,[.s (tQ (su n t))]):=key;rw[<-hbl,qw3];simp only[STD,key']
theorem qK8{l:R}(i:Nat)(w:Nat->Rat)(a:Nat):su (i+1) (fun k=>w k*(axv l a k:Rat))=su i (fun k=>w k*(axv l a k:Rat))+w i*(axv l a i:Rat):=rfl
theorem qvo{l wl:R}{m i:Nat}(h:uN l)(hl:l.length=m)(hm:m<=4)(hi:i<m){w:Nat->Rat}(hw:∀k,k<m->bnd 36 36 (w k))(lw:qg wl=(m:Int))(gw:∀k,k<m->cS wl (k:Int) 0=tQ (w k))(p1 p2 p3:Bs) :(qf ka [.r l,.r wl,.i i,.i (cI l (i:Int) 0),.i (cI l (i:Int) 1),.i (cI l (i:Int) 2),.i 0,.s p1,.s p2,.s p3,.s (tQ (su i fun k=>w k*(axv l 0 k:Rat))),.s (tQ (su i fun k=>w k*(axv l 1 k:Rat))),.s (tQ (su i fun k=>w k*(axv l 2 k:Rat)))]).run = some (0,[.r l,.r wl,.i i,.s p1,.s p2,.s p3,.s (tQ (su (i+1) fun k=>w k*(axv l 0 k:Rat))),.s (tQ (su (i+1) fun k=>w k*(axv l 1 k:Rat))),.s (tQ (su (i+1) fun k=>w k*(axv l 2 k:Rat)))]):=by
 have cb:∀a,a<3->∀k,k<m->co (axv l a k):=fun a ha k hk=>h.ax (by omega) ha;have sb:∀a,a<3->bnd 400 300 (su i fun k=>w k*(axv l a k:Rat)):=fun a ha=>
  (qth (m:=m) hw (fun k hk=>qjq (cb a ha k hk)) i (by omega)).mono (by omega) (by omega)
 have tm:∀a,a<3->(za [.s (tQ (w i)),.s (tQ (axv l a i:Rat))]).run=some (0,[.s (tQ (w i*(axv l a i:Rat)))]):=fun a ha=>
  q3A ((hw i hi).sm (by omega) (by omega)) ((qjq (cb a ha i hi)).sm (by omega) (by omega))
 have pl:∀a,a<3->(zP [.s (tQ (su i fun k=>w k*(axv l a k:Rat))),.s (tQ (w i*(axv l a i:Rat)))]).run=some (0,[.s (tQ (su (i+1) fun k=>w k*(axv l a k:Rat)))]):=fun a ha=>by rw[qK8];exact q9r ((sb a ha).sm (by omega) (by omega)) (((hw i hi).mul (qjq (cb a ha i hi))).sm (by omega) (by omega))
 have wh:∀a,a<3->(zq [.i (axv l a i)]).run=some (0,[.s (tQ (axv l a i:Rat))]):=fun a ha=>q15 (qe9 (cb a ha i hi));have key:=qu (S:=ka) (fun a=>[.r l,.r wl,.i i,.i (cI l (i:Int) 0),.i (cI l (i:Int) 1),.i (cI l (i:Int) 2),.i (a:Int),.s p1,.s p2,.s p3,.s (if 0<a then tQ (su (i+1) fun k=>w k*(axv l 0 k:Rat)) else tQ (su i fun k=>w k*(axv l 0 k:Rat))),
   .s (if 1<a then tQ (su (i+1) fun k=>w k*(axv l 1 k:Rat)) else tQ (su i fun k=>w k*(axv l 1 k:Rat))),.s (if 2<a then tQ (su (i+1) fun k=>w k*(axv l 2 k:Rat)) else tQ (su i fun k=>w k*(axv l 2 k:Rat)))])
  (0,[.r l,.r wl,.i i,.s p1,.s p2,.s p3,.s (tQ (su (i+1) fun k=>w k*(axv l 0 k:Rat))),.s (tQ (su (i+1) fun k=>w k*(axv l 1 k:Rat))),.s (tQ (su (i+1) fun k=>w k*(axv l 2 k:Rat)))]) 3 (by omega) (fun a ha=>by
   rw[qg5];have hii:(i:Int)<m:=by omega
   have hi0:(0:Int)<=i:=by omega
   rcases (show a=0\/a=1\/a=2 by omega) with rfl|rfl|rfl
   ·have e2:qqf [cI l (i:Int) 0,cI l (i:Int) 1,cI l (i:Int) 2] ((0:Nat):Int)=axv l 0 i:=rfl;simp only[STD,e2,wh 0 ha,tm 0 ha,pl 0 ha,gw i hi,lw,hii,hi0,Nat.lt_irrefl,qQC,and_self,show (((0:Nat):Int)<3)=True from eq_true (by decide),show ((0:Int)<=((0:Nat):Int))=True from eq_true (by decide),
     show (((0:Nat):Int)=2)=False from eq_false (by decide),show (((0:Nat):Int)=1)=False from eq_false (by decide),show (((0:Nat):Int)=0)=True from eq_true (by decide)]
    rfl
   ·have e2:qqf [cI l (i:Int) 0,cI l (i:Int) 1,cI l (i:Int) 2] ((1:Nat):Int)=axv l 1 i:=rfl;simp only[STD,e2,wh 1 ha,tm 1 ha,pl 1 ha,gw i hi,lw,hii,hi0,Nat.lt_irrefl,and_self,show (((1:Nat):Int)<3)=True from eq_true (by decide),show ((0:Int)<=((1:Nat):Int))=True from eq_true (by decide),
     show (((1:Nat):Int)=2)=False from eq_false (by decide),show (((1:Nat):Int)=1)=True from eq_true (by decide)]
    rfl
   ·have e2:qqf [cI l (i:Int) 0,cI l (i:Int) 1,cI l (i:Int) 2] ((2:Nat):Int)=axv l 2 i:=rfl;simp only[STD,e2,wh 2 ha,tm 2 ha,pl 2 ha,gw i hi,lw,hii,hi0,Nat.lt_irrefl,and_self,show (((2:Nat):Int)<3)=True from eq_true (by decide),show ((0:Int)<=((2:Nat):Int))=True from eq_true (by decide),
     show (((2:Nat):Int)=2)=True from eq_true (by decide)]
    rfl) (by
   rw[qg5];simp only[STD,show (((3:Nat):Int)<3)=False from eq_false (by decide)];rfl)
 exact key
theorem qwi{l:R}{m:Nat}(h:uN l)(hl:l.length=m)(hm:m<=4){w:Nat->Rat}(hw:∀k,k<m->bnd 36 36 (w k)) :(q4L [.r l,.r (txR ((List.range m).map fun k=>tQ (w k)))]).run=some (0,[.s (tQ (cen m w (pV l)).x),.s (tQ (cen m w (pV l)).y),.s (tQ (cen m w (pV l)).z)]):=by
 obtain⟨wl,hwl⟩:∃wl,wl=txR ((List.range m).map fun k=>tQ (w k)):=⟨_,rfl⟩;have hL:qg l=(m:Int):=by unfold qg;rw[hl]
 have lw:qg wl=(m:Int):=by rw[hwl,q5G]
 have gw:∀k,k<m->cS wl (k:Int) 0=tQ (w k):=fun k hk=>by rw[hwl];exact qjs (fun k=>tQ (w k)) hk
 rw[<-hwl];have key:=qu (S:=uY) (fun i=>[.r l,.r wl,.i (i:Int),.s [],.s [],.s [],.s (tQ (su i fun k=>w k*(axv l 0 k:Rat))),.s (tQ (su i fun k=>w k*(axv l 1 k:Rat))),.s (tQ (su i fun k=>w k*(axv l 2 k:Rat)))])
  (0,[.s [],.s [],.s [],.s (tQ (su m fun k=>w k*(axv l 0 k:Rat))),.s (tQ (su m fun k=>w k*(axv l 1 k:Rat))),.s (tQ (su m fun k=>w k*(axv l 2 k:Rat)))]) m (by omega) (fun i hi=>by
   rw[qgQ];simp only[STD,hL,qvo h hl hm hi hw lw gw,j5 hi (show m<9223372036854775808 by omega),show (i:Int)<m by omega,show (0:Int)<=i by omega,and_self]) (by
   rw[qgQ];simp only[STD,hL,show ¬(m:Int)<m by omega])
 have key':(qf uY [.r l,.r wl,.i 0,.s [],.s [],.s [],.s [48],.s [48],.s [48]]).run=_:=key;rw[quI];simp only[STD,key'];rfl
theorem qGL{ax ay az bx b2 bz:Int}(h1:co ax)(h2:co ay)(h3:co az)(h4:co bx)(h5:co b2)(h6:co bz):(q0R [.i ax,.i ay,.i az,.i bx,.i b2,.i bz]).run=some (0,[.i (ax-bx),.i (ay-b2),.i (az-bz)]):=by rw[qp2];simp only[STD,qh4 h1 h4,qh4 h2 h5,qh4 h3 h6]
theorem qDB{ox oy oz ax ay az bx b2 bz:Int}(h1:co ox)(h2:co oy)(h3:co oz)(h4:co ax)(h5:co ay)(h6:co az)(h7:co bx)(h8:co b2)(h9:co bz) :(zh [.i (ax-ox),.i (ay-oy),.i (az-oz),.i (bx-ox),.i (b2-oy),.i (bz-oz)]).run=some (0,[.i (qFj ox oy oz ax ay az bx b2 bz)]):=by have p1:=qfG h4 h1 h7 h1;have p2:=qfG h5 h2 h8 h2;have p3:=qfG h6 h3 h9 h3;have e:qFj ox oy oz ax ay az bx b2 bz=(ax-ox)*(bx-ox)+(ay-oy)*(b2-oy)+(az-oz)*(bz-oz):=rfl;rw[qcD];simp only[STD,qro h4 h1 h7 h1,qro h5 h2 h8 h2,qro h6 h3 h9 h3];have w1:qo .i64 ((ax-ox)*(bx-ox)) ((ay-oy)*(b2-oy))=(ax-ox)*(bx-ox)+(ay-oy)*(b2-oy):=qK (by omega);have w2:qo .i64 ((ax-ox)*(bx-ox)+(ay-oy)*(b2-oy)) ((az-oz)*(bz-oz))=(ax-ox)*(bx-ox)+(ay-oy)*(b2-oy)+(az-oz)*(bz-oz):=qK (by omega);rw[w1,w2,e]
theorem qOx{l:R}{n i:Nat}(h:uN l)(hl:l.length=n+1)(hi:i<n)(acc:R) :(qf jO [.r l,.i ((i+1:Nat):Int),.i 1,.r acc,.i (cI l ((i+1:Nat):Int) 0-cI l 0 0),.i (cI l ((i+1:Nat):Int) 1-cI l 0 1),.i (cI l ((i+1:Nat):Int) 2-cI l 0 2),.r []]).run = some (0,[.r l,.i ((i+1:Nat):Int),.r acc,.i (cI l ((i+1:Nat):Int) 0-cI l 0 0),.i (cI l ((i+1:Nat):Int) 1-cI l 0 1),.i (cI l ((i+1:Nat):Int) 2-cI l 0 2),.r (txR ((List.range n).map fun k=>tQ (gI2 l i k:Rat)))]):=by
 have hn:n<=64:=by have:=h.1;omega
 have hL:qg l=((n+1:Nat):Int):=by unfold qg;rw[hl]
 obtain⟨z1,z2,z3⟩:=h.row0 (show 0<l.length by omega);obtain⟨a1,a2,a3⟩:=h.row (show i+1<l.length by omega);have key:=qu (S:=jO) (fun k=>[.r l,.i ((i+1:Nat):Int),.i ((k+1:Nat):Int),.r acc,.i (cI l ((i+1:Nat):Int) 0-cI l 0 0),.i (cI l ((i+1:Nat):Int) 1-cI l 0 1),.i (cI l ((i+1:Nat):Int) 2-cI l 0 2),.r (txR ((List.range k).map fun k=>tQ (gI2 l i k:Rat)))])
  (0,[.r l,.i ((i+1:Nat):Int),.r acc,.i (cI l ((i+1:Nat):Int) 0-cI l 0 0),.i (cI l ((i+1:Nat):Int) 1-cI l 0 1),.i (cI l ((i+1:Nat):Int) 2-cI l 0 2),.r (txR ((List.range n).map fun k=>tQ (gI2 l i k:Rat)))]) n (by omega) (fun k hk=>by
   obtain⟨b1,b2,b3⟩:=h.row (show k+1<l.length by omega);have bd:=qCx h (i:=i+1) (k:=k+1) (by omega) (by omega);have w1:qo .i64 ((k+1:Nat):Int) 1=((k+1+1:Nat):Int):=j5 (show k+1<9223372036854775807 by omega) (by omega);have w3:wd .i64 2 (dI l (i+1) (k+1))=gI2 l i k:=uK (by omega);have tt:(zh [.i (cI l ((i+1:Nat):Int) 0-cI l 0 0),.i (cI l ((i+1:Nat):Int) 1-cI l 0 1),.i (cI l ((i+1:Nat):Int) 2-cI l 0 2),.i (cI l ((k+1:Nat):Int) 0-cI l 0 0),.i (cI l ((k+1:Nat):Int) 1-cI l 0 1),.i (cI l ((k+1:Nat):Int) 2-cI l 0 2)]).run=some (0,[.i (dI l (i+1) (k+1))]):=qDB z1 z2 z3 a1 a2 a3 b1 b2 b3;have e1:txR ((List.range (k+1)).map fun k=>tQ (gI2 l i k:Rat))=zE (txR ((List.range k).map fun k=>tQ (gI2 l i k:Rat))) [[.s (tQ (gI2 l i k:Rat))]]:=by rw[qic,qhQ,qPO,qP9];rfl
   have e3:qg [[U.s (tQ (gI2 l i k:Rat))]]=1:=rfl;have bg:-999999999999999<=gI2 l i k/\gI2 l i k<=999999999999999:=by unfold gI2;omega
   rw[qcE];simp only[STD,hL,qGL b1 b2 b3 z1 z2 z3,tt,w1,w3,q15 bg,e1,e3,q5G,show ((k+1:Nat):Int)<((n+1:Nat):Int) by omega,show (0:Int)<=((k+1:Nat):Int) by omega,show (0:Int)<((n+1:Nat):Int) by omega,
    show (0:Int)<=0 by omega,show (k:Int)+1<=8796093022208 by omega,and_self]) (by
   rw[qcE];simp only[STD,hL,show ¬((n+1:Nat):Int)<((n+1:Nat):Int) by omega])
 exact key
def qfQ(F:Nat->Nat->Bs)(n c:Nat):R:=(List.range n).map fun i=>[U.l (txR ((List.range c).map (F i)))]
theorem qbt(F:Nat->Nat->Bs)(n c:Nat):qg (qfQ F n c)=(n:Int):=by unfold qfQ qg;rw[qOV,qPm]
theorem qB4(F:Nat->Nat->Bs)(n c:Nat):qfQ F (n+1) c=zE (qfQ F n c) [[.l (txR ((List.range c).map (F n)))]]:=by unfold qfQ zE;rw[qPO,qP9];rfl
theorem qt4(F:Nat->Nat->Bs){n c i:Nat}(hi:i<n):cR (qfQ F n c) (i:Int) 0=txR ((List.range c).map (F i)):=by
 have e:(qfQ F n c).getD ((i:Int).toNat) []=[U.l (txR ((List.range c).map (F i)))]:=by unfold qfQ;rw[qOX,qOM,qOU,qPp hi];rfl
 unfold cR zJ;rw[e];rfl
theorem qGy(l:R)(n i:Nat):zE (txR ((List.range n).map fun k=>tQ (gI2 l i k:Rat))) [[.s (tQ (dI l (i+1) (i+1):Rat))]]=txR ((List.range (n+1)).map fun j=>tQ (qvH (pV l) n i j)):=by
 rw[qic,qhQ,qPO,qP9];have e:(List.range n).map (fun k=>tQ (gI2 l i k:Rat))=(List.range n).map fun j=>tQ (qvH (pV l) n i j):=qPV fun k hk=>by have:=qPH.1 hk;unfold qvH;rw[if_neg (by omega),qtb]
 rw[e];have e2:tQ (dI l (i+1) (i+1):Rat)=tQ (qvH (pV l) n i n):=by unfold qvH;rw[if_pos rfl,qGk]
 rw[e2];rfl
theorem qOG{l:R}{n:Nat}(h:uN l)(hl:l.length=n+1) :(qf yP [.r l,.i 1,.r []]).run=some (0,[.r (qfQ (fun i j=>tQ (qvH (pV l) n i j)) n (n+1))]):=by
 have hn:n<=64:=by have:=h.1;omega
 have hL:qg l=((n+1:Nat):Int):=by unfold qg;rw[hl]
 obtain⟨z1,z2,z3⟩:=h.row0 (show 0<l.length by omega);have key:=qu (S:=yP) (fun i=>[.r l,.i ((i+1:Nat):Int),.r (qfQ (fun i j=>tQ (qvH (pV l) n i j)) i (n+1))]) (0,[.r (qfQ (fun i j=>tQ (qvH (pV l) n i j)) n (n+1))]) n (by omega) (fun i hi=>by
  obtain⟨a1,a2,a3⟩:=h.row (show i+1<l.length by omega);have bd:=qCx h (i:=i+1) (k:=i+1) (by omega) (by omega);have w1:qo .i64 ((i+1:Nat):Int) 1=((i+1+1:Nat):Int):=j5 (show i+1<9223372036854775807 by omega) (by omega);have tt:(zh [.i (cI l ((i+1:Nat):Int) 0-cI l 0 0),.i (cI l ((i+1:Nat):Int) 1-cI l 0 1),.i (cI l ((i+1:Nat):Int) 2-cI l 0 2),.i (cI l ((i+1:Nat):Int) 0-cI l 0 0),.i (cI l ((i+1:Nat):Int) 1-cI l 0 1),.i (cI l ((i+1:Nat):Int) 2-cI l 0 2)]).run=some (0,[.i (dI l (i+1) (i+1))]):=qDB z1 z2 z3 a1 a2 a3 a1 a2 a3;have e3:qg [[U.s (tQ (dI l (i+1) (i+1):Rat))]]=1:=rfl;have e4:∀x:R,qg [[U.l x]]=1:=fun _=>rfl;have es:=qB4 (fun i j=>tQ (qvH (pV l) n i j)) i (n+1);rw[qe5];simp only[STD,hL,qGL a1 a2 a3 z1 z2 z3,qOx h hl hi,tt,w1,q15 (m:=dI l (i+1) (i+1)) (by omega),e3,e4,q5G,qGy,qbt,es,show ((i+1:Nat):Int)<((n+1:Nat):Int) by omega,show (0:Int)<=((i+1:Nat):Int) by omega,show (0:Int)<((n+1:Nat):Int) by omega,
   show (0:Int)<=0 by omega,show (n:Int)+1<=8796093022208 by omega,show (i:Int)+1<=5864062014805 by omega,and_self]) (by
  rw[qe5];simp only[STD,hL,show ¬((n+1:Nat):Int)<((n+1:Nat):Int) by omega])
 exact key
end Go.Eng

