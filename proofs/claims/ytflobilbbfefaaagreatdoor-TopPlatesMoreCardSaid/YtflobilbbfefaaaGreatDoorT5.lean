/- Texts of the proof, merged: what the code computes, and plain laws. No statement stands here. -/
import Derived.Test.YtflobilbbfefaaaGreatDoorT4
namespace Go.Eng
theorem ql7{ι:Type}(f:ι→Rat):∀(L:List ι),L≠[]→∃a∈L,∀k∈L,f k≤f a
 | [],h=>absurd rfl h
 | [a],_=>⟨a,by simp,fun k hk=>by simp at hk;rw[hk];exact Rat.le_refl⟩
 | a::b::r,_=>by
  obtain⟨m,hm,h⟩:=ql7 f (b::r) (by simp)
  rcases Rat.le_total (a:=f a) (b:=f m) with hle|hle
  ·refine⟨m,List.mem_cons_of_mem _ hm,fun k hk=>?_⟩
   rcases List.mem_cons.1 hk with rfl|hk
   ·exact hle
   ·exact h k hk
  ·refine⟨a,List.mem_cons_self,fun k hk=>?_⟩
   rcases List.mem_cons.1 hk with rfl|hk
   ·exact Rat.le_refl
   ·exact Rat.le_trans (h k hk) hle
theorem hit{ι:Type}(al be:ι→Rat):∀(L:List ι),(∀k∈L,al k≤0)→(∃k∈L,0<be k)→∃t,0≤t∧(∀k∈L,al k+be k*t≤0)∧∃b∈L,0<be b∧al b+be b*t=0
 | [],_,h=>by obtain⟨k,hk,_⟩:=h;cases hk
 | a::L,h0,h1=>by
  have hLn:∀k∈L,al k≤0:=fun k hk=>h0 k (List.mem_cons_of_mem _ hk)
  have ha0:=h0 a List.mem_cons_self
  by_cases ha:0<be a
  ·obtain⟨ta,hta⟩:∃ta,ta=-al a/be a:=⟨_,rfl⟩
   have eta:ta*be a=-al a:=by rw[hta];exact Rat.div_mul_cancel (by grind)
   have ta0:0≤ta:=by
    apply Rat.not_lt.1;intro hn
    have:=Rat.mul_pos (show 0 < -ta by grind) ha
    grind
   have own:al a+be a*ta=0:=by grind
   by_cases hL:∃k∈L,0<be k
   ·obtain⟨t,k1,k2,b,hb,k3,k4⟩:=hit al be L hLn hL
    rcases Rat.le_total (a:=t) (b:=ta) with hle|hle
    ·refine⟨t,k1,fun k hk=>?_,b,List.mem_cons_of_mem _ hb,k3,k4⟩
     rcases List.mem_cons.1 hk with rfl|hk
     ·have:=Rat.mul_nonneg (show 0≤be k by grind) (show 0≤ta-t by grind);grind
     ·exact k2 k hk
    ·refine⟨ta,ta0,fun k hk=>?_,a,List.mem_cons_self,ha,own⟩
     rcases List.mem_cons.1 hk with rfl|hk
     ·grind
     ·rcases Rat.le_total (a:=0) (b:=be k) with hb|hb
      ·have:=Rat.mul_nonneg hb (show 0≤t-ta by grind);have:=k2 k hk;grind
      ·have:=Rat.mul_nonneg (show 0≤-be k by grind) ta0;have:=hLn k hk;grind
   ·refine⟨ta,ta0,fun k hk=>?_,a,List.mem_cons_self,ha,own⟩
    rcases List.mem_cons.1 hk with rfl|hk
    ·grind
    ·have hb:be k≤0:=Rat.not_lt.1 fun hn=>hL ⟨k,hk,hn⟩
     have:=Rat.mul_nonneg (show 0≤-be k by grind) ta0;have:=hLn k hk;grind
  ·have hL:∃k∈L,0<be k:=by
    obtain⟨k,hk,h⟩:=h1
    rcases List.mem_cons.1 hk with rfl|hk
    ·exact absurd h ha
    ·exact⟨k,hk,h⟩
   obtain⟨t,k1,k2,b,hb,k3,k4⟩:=hit al be L hLn hL
   refine⟨t,k1,fun k hk=>?_,b,List.mem_cons_of_mem _ hb,k3,k4⟩
   rcases List.mem_cons.1 hk with rfl|hk
   ·have:=Rat.mul_nonneg (show 0≤-be k by grind) k1;grind
   ·exact k2 k hk
theorem qjS{a:Rat}(h:a*a≤0):a=0:=by
 have:=qe9 a
 rcases Rat.mul_eq_zero.1 (show a*a=0 by grind) with h|h<;>exact h
theorem qfx{a b c d:Rat}(h:q1t a b c d=0):a=c∧b=d:=by
 unfold q1t at h
 have s1:=qe9 (a-c)
 have s2:=qe9 (b-d)
 have:=qjS (a:=a-c) (by grind)
 have:=qjS (a:=b-d) (by grind)
 exact⟨by grind,by grind⟩
theorem qqY(a b c d:Rat):0≤q1t a b c d:=by
 unfold q1t
 have s1:=qe9 (a-c)
 have s2:=qe9 (b-d)
 grind
theorem qu0{l:List DQ}{x y:Rat}(hl:l≠[])(hs:∀d∈l,0≤d.s)(h:∀d∈l,pw d x y≤0) :
  (∃a∈l,∀d∈l,pw d a.x a.y≤0)∨∃a∈l,∃b∈l,∃X Y,q1t b.x b.y a.x a.y≠0∧pw b X Y=pw a X Y∧(∀d∈l,pw d X Y≤pw a X Y)∧pw a X Y≤0:=by
 obtain⟨a,ha,hmax⟩:=ql7 (fun d=>pw d x y) l hl
 by_cases hc:∀d∈l,pw d a.x a.y≤0
 ·exact .inl ⟨a,ha,hc⟩
 ·have hex:∃k∈l,0<pw k a.x a.y:=by
   by_cases hn:∃k∈l,0<pw k a.x a.y
   ·exact hn
   ·exact absurd (fun d hd=>Rat.not_lt.1 fun h0=>hn ⟨d,hd,h0⟩) hc
  obtain⟨k0,hk0,hp⟩:=hex
  have hsa:=hs a ha
  have paa:pw a a.x a.y=-a.s:=by unfold pw;grind
  obtain⟨al,hal⟩:∃al:DQ→Rat,al=fun k=>pw k x y-pw a x y:=⟨_,rfl⟩
  obtain⟨be,hbe⟩:∃be:DQ→Rat,be=fun k=>pw k a.x a.y-pw a a.x a.y-(pw k x y-pw a x y):=⟨_,rfl⟩
  have al0:∀k∈l,al k≤0:=fun k hk=>by rw[hal];have:=hmax k hk;simp only at this ⊢;grind
  have be0:al k0+be k0>0:=by rw[hal,hbe];simp only;grind
  obtain⟨t,t0,ht,b,hb,hb1,hb2⟩:=hit al be l al0 ⟨k0,hk0,by have:=al0 k0 hk0;grind⟩
  have line:∀k,pw k (x+t*(a.x-x)) (y+t*(a.y-y))-pw a (x+t*(a.x-x)) (y+t*(a.y-y))=al k+be k*t:=fun k=>by
   rw[hal,hbe];simp only;unfold pw;grind
  have t1:t≤1:=by
   apply Rat.not_lt.1;intro hn
   have h1:=ht k0 hk0
   have h2:=al0 k0 hk0
   have:=Rat.mul_pos (show 0<be k0 by grind) (show 0<t-1 by grind)
   grind
  refine .inr ⟨a,ha,b,hb,x+t*(a.x-x),y+t*(a.y-y),fun hf=>?_,?_,fun d hd=>?_,?_⟩
  ·obtain⟨e1,e2⟩:=qfx hf
   have:be b=0:=by rw[hbe];simp only;unfold pw;rw[e1,e2];grind
   grind
  ·have:=line b;grind
  ·have:=line d;have:=ht d hd;grind
  ·have h1:=h a ha
   have e:pw a (x+t*(a.x-x)) (y+t*(a.y-y))=(1-t)*(1-t)*((x-a.x)*(x-a.x)+(y-a.y)*(y-a.y))-a.s:=by unfold pw;grind
   have q:0≤(x-a.x)*(x-a.x)+(y-a.y)*(y-a.y):=by have:=qe9 (x-a.x);have:=qe9 (y-a.y);grind
   have m:=qjR (a:=1-t) (b:=1) (by grind) (by grind)
   have:=Rat.mul_nonneg (show 0≤1-(1-t)*(1-t) by grind) q
   rw[e]
   have:pw a x y=(x-a.x)*(x-a.x)+(y-a.y)*(y-a.y)-a.s:=rfl
   grind
theorem qgP{a b:DQ}(neg:Bool)(hf:q1t b.x b.y a.x a.y≠0) :
  (qj a b neg).ax*(qj a b neg).ax+(qj a b neg).ay*(qj a b neg).ay=q1t b.x b.y a.x a.y ∧
  (qj a b neg).ax*(b.x-a.x)+(qj a b neg).ay*(b.y-a.y)=0 ∧
  (qj a b neg).ax*((qj a b neg).fx-a.x)+(qj a b neg).ay*((qj a b neg).fy-a.y)=0 ∧
  2*(((qj a b neg).fx-a.x)*(b.x-a.x)+((qj a b neg).fy-a.y)*(b.y-a.y))=q1t b.x b.y a.x a.y+a.s-b.s ∧
  kA a (qj a b neg)=0∧kB a (qj a b neg)=0∧kA b (qj a b neg)=0∧kB b (qj a b neg)=0:=by
 obtain⟨far,hfar⟩:∃far,far=q1t b.x b.y a.x a.y:=⟨_,rfl⟩
 obtain⟨t,ht⟩:∃t,t=(far+a.s-b.s)/(2*far):=⟨_,rfl⟩
 obtain⟨h,hh⟩:∃h,h=a.s/far-t*t:=⟨_,rfl⟩
 rw[←hfar] at hf
 have h2f:2*far≠0:=by grind
 have ht':2*far*t=far+a.s-b.s:=by
  rw[ht,Rat.mul_comm];exact Rat.div_mul_cancel h2f
 have hh':far*h=a.s-far*(t*t):=by
  have:a.s/far*far=a.s:=Rat.div_mul_cancel hf
  rw[hh];grind
 have hc:qj a b neg=⟨a.x+t*(b.x-a.x),a.y+t*(b.y-a.y),if neg then b.y-a.y else 0-(b.y-a.y),if neg then 0-(b.x-a.x) else b.x-a.x,h⟩:=by
  rw[hh,ht,hfar];rfl
 have hfar':far=(b.x-a.x)*(b.x-a.x)+(b.y-a.y)*(b.y-a.y):=hfar
 rw[hc,←hfar]
 unfold kA kB
 clear hc hfar ht hh
 cases neg
 ·simp only[Bool.false_eq_true,if_false]
  refine⟨by grind,by grind,by grind,by grind,by grind,by grind,by grind,by grind⟩
 ·simp only[if_true]
  refine⟨by grind,by grind,by grind,by grind,by grind,by grind,by grind,by grind⟩
theorem qp4(a b:DQ):(qj a b true).ax=-(qj a b false).ax∧(qj a b true).ay=-(qj a b false).ay:=by
 unfold qj
 simp only[Bool.false_eq_true,if_false,if_true]
 exact⟨by grind,by grind⟩
theorem qku{l:List DQ}{a b:DQ}{x y:Rat}(neg:Bool)(hf:q1t b.x b.y a.x a.y≠0)(hab:pw b x y=pw a x y)(hm:∀d∈l,pw d x y≤pw a x y)(h0:pw a x y≤0)
  (hv:0≤(qj a b neg).ax*(x-a.x)+(qj a b neg).ay*(y-a.y)) :
  (0≤(qj a b neg).h∧∀d∈l,uA d (qj a b neg)) ∨
  ∃t k,0≤t∧k∈l∧(qj a b neg).ax*(k.x-a.x)+(qj a b neg).ay*(k.y-a.y)<0∧pw k (x+t*(qj a b neg).ax) (y+t*(qj a b neg).ay)=pw a (x+t*(qj a b neg).ax) (y+t*(qj a b neg).ay) ∧
   pw b (x+t*(qj a b neg).ax) (y+t*(qj a b neg).ay)=pw a (x+t*(qj a b neg).ax) (y+t*(qj a b neg).ay)∧(∀d∈l,pw d (x+t*(qj a b neg).ax) (y+t*(qj a b neg).ay)≤pw a (x+t*(qj a b neg).ax) (y+t*(qj a b neg).ay)) ∧
   pw a (x+t*(qj a b neg).ax) (y+t*(qj a b neg).ay)≤0:=by
 obtain⟨f1,f2,f3,f4,f5,f6,f7,f8⟩:=qgP neg hf
 have hpos:0<q1t b.x b.y a.x a.y:=by have:=qqY b.x b.y a.x a.y;grind
 have hfd:q1t b.x b.y a.x a.y=(b.x-a.x)*(b.x-a.x)+(b.y-a.y)*(b.y-a.y):=rfl
 have hax:(qj a b neg).ax=if neg then b.y-a.y else 0-(b.y-a.y):=rfl
 have hay:(qj a b neg).ay=if neg then 0-(b.x-a.x) else b.x-a.x:=rfl
 generalize qj a b neg=p at *
 generalize q1t b.x b.y a.x a.y=far at *
 obtain⟨T0,hT0⟩:∃T0,T0=(p.ax*(x-p.fx)+p.ay*(y-p.fy))/far:=⟨_,rfl⟩
 have eT0:T0*far=p.ax*(x-p.fx)+p.ay*(y-p.fy):=by rw[hT0];exact Rat.div_mul_cancel hf
 have hp:(x-p.fx)*(b.x-a.x)+(y-p.fy)*(b.y-a.y)=0:=by
  unfold pw at hab;grind
 have cancel:∀z:Rat,z*far=0→z=0:=fun z hz=>by
  rcases Rat.mul_eq_zero.1 hz with h|h
  ·exact h
  ·exact absurd h hf
 have ex:x=p.fx+T0*p.ax:=by
  have:x-p.fx-T0*p.ax=0:=cancel _ (by
   have e:(x-p.fx-T0*p.ax)*far=(x-p.fx)*far-p.ax*(T0*far):=by grind
   rw[e,eT0,hfd]
   cases neg
   ·simp only[Bool.false_eq_true,if_false] at hax hay;rw[hax,hay];clear hax hay eT0 hT0 f1 f2 f3 f4 f5 f6 f7 f8 hv hab;grind
   ·simp only[if_true] at hax hay;rw[hax,hay];clear hax hay eT0 hT0 f1 f2 f3 f4 f5 f6 f7 f8 hv hab;grind)
  grind
 have ey:y=p.fy+T0*p.ay:=by
  have:y-p.fy-T0*p.ay=0:=cancel _ (by
   have e:(y-p.fy-T0*p.ay)*far=(y-p.fy)*far-p.ay*(T0*far):=by grind
   rw[e,eT0,hfd]
   cases neg
   ·simp only[Bool.false_eq_true,if_false] at hax hay;rw[hax,hay];clear hax hay eT0 hT0 f1 f2 f3 f4 f5 f6 f7 f8 hv hab ex;grind
   ·simp only[if_true] at hax hay;rw[hax,hay];clear hax hay eT0 hT0 f1 f2 f3 f4 f5 f6 f7 f8 hv hab ex;grind)
  grind
 have T0n:0≤T0:=by
  apply Rat.not_lt.1;intro hn
  have:=Rat.mul_pos (show 0 < -T0 by grind) hpos
  grind
 have line:∀d T,pw d (p.fx+T*p.ax) (p.fy+T*p.ay)=kA d p+kB d p*T+far*(T*T-p.h):=fun d T=>by rw[qrt,f1]
 have lineA:∀T,pw a (p.fx+T*p.ax) (p.fy+T*p.ay)=far*(T*T-p.h):=fun T=>by rw[line,f5,f6];grind
 have lineB:∀T,pw b (p.fx+T*p.ax) (p.fy+T*p.ay)=far*(T*T-p.h):=fun T=>by rw[line,f7,f8];grind
 have at0:∀d∈l,kA d p+kB d p*T0≤0:=fun d hd=>by
  have:=hm d hd
  rw[ex,ey,line,lineA] at this
  grind
 have hT:T0*T0≤p.h:=by
  rw[ex,ey,lineA] at h0
  apply Rat.not_lt.1;intro hn
  have:=Rat.mul_pos hpos (show 0<T0*T0-p.h by grind)
  grind
 have hn:0≤p.h:=by have:=qe9 T0;grind
 have kb:∀d:DQ,kB d p=-(2*(p.ax*(d.x-a.x)+p.ay*(d.y-a.y))):=fun d=>by unfold kB;grind
 have all:∀T1,T0≤T1→p.h≤T1*T1→(∀d∈l,kA d p+kB d p*T1≤0)→0≤p.h∧∀d∈l,uA d p:=fun T1 h1 h2 h3=>
  ⟨hn,fun d hd=>qpd T0n h1 hT h2 (at0 d hd) (h3 d hd)⟩
 by_cases hk:∃k∈l,0<kB k p
 ·obtain⟨t,t0,ht,k,hk,hk1,hk2⟩:=hit (fun d=>kA d p+kB d p*T0) (fun d=>kB d p) l at0 hk
  by_cases hle:(T0+t)*(T0+t)≤p.h
  ·have eX:x+t*p.ax=p.fx+(T0+t)*p.ax:=by grind
   have eY:y+t*p.ay=p.fy+(T0+t)*p.ay:=by grind
   refine .inr ⟨t,k,t0,hk,?_,?_,?_,fun d hd=>?_,?_⟩
   ·rw[kb] at hk1;grind
   ·rw[eX,eY,line,lineA];grind
   ·rw[eX,eY,lineA,lineB]
   ·rw[eX,eY,line,lineA];have:=ht d hd;grind
   ·rw[eX,eY,lineA]
    have:=Rat.mul_nonneg (show 0≤far by grind) (show 0≤p.h-(T0+t)*(T0+t) by grind);grind
  ·exact .inl (all (T0+t) (by grind) (by grind) fun d hd=>by have:=ht d hd;grind)
 ·refine .inl (all (T0+p.h+1) (by grind) ?_ fun d hd=>?_)
  ·have:=qjR (a:=p.h+1) (b:=T0+p.h+1) (by grind) (by grind)
   have:=Rat.mul_nonneg hn hn
   grind
  ·have h1:kB d p≤0:=Rat.not_lt.1 fun h=>hk ⟨d,hd,h⟩
   have:=Rat.mul_nonneg (show 0≤-kB d p by grind) (show 0≤p.h+1 by grind)
   have:=at0 d hd
   grind
def Vx(l:List DQ)(x y:Rat)(t:DQ×DQ×DQ):Prop:=
 qvH t.1.x t.1.y t.2.1.x t.2.1.y t.2.2.x t.2.2.y≠0∧pw t.2.1 x y=pw t.1 x y∧pw t.2.2 x y=pw t.1 x y∧(∀d∈l,pw d x y≤pw t.1 x y)∧pw t.1 x y≤0
theorem qu7{l:List DQ}{x y x' y':Rat}{t:DQ×DQ×DQ}(h:Vx l x y t)(h':Vx l x' y' t):x=x'∧y=y':=by
 obtain⟨a,b,c⟩:=t
 obtain⟨hA,h1,h2,-,-⟩:=h
 obtain⟨-,h1',h2',-,-⟩:=h'
 unfold pw qvH at *
 simp only at *
 have e1:(x-x')*(b.x-a.x)+(y-y')*(b.y-a.y)=0:=by grind
 have e2:(x-x')*(c.x-a.x)+(y-y')*(c.y-a.y)=0:=by grind
 generalize b.x-a.x=p at *
 generalize b.y-a.y=q at *
 generalize c.x-a.x=r at *
 generalize c.y-a.y=s at *
 have k1:(x-x')*(p*s-r*q)=0:=by clear h1 h2 h1' h2' hA;grind
 have k2:(y-y')*(p*s-r*q)=0:=by clear h1 h2 h1' h2' hA;grind
 constructor
 ·rcases Rat.mul_eq_zero.1 k1 with h|h
  ·grind
  ·exact absurd h hA
 ·rcases Rat.mul_eq_zero.1 k2 with h|h
  ·grind
  ·exact absurd h hA
theorem qq2(l:List DQ):∀L:List (DQ×DQ×DQ),(∃t∈L,∃x y,Vx l x y t)→∃t∈L,∃x y,Vx l x y t∧∀t'∈L,∀x' y',Vx l x' y' t'→pw t'.1 x' y'≤pw t.1 x y
 | [],h=>by obtain⟨t,ht,_⟩:=h;cases ht
 | s::L,h=>by
  by_cases hs:∃x y,Vx l x y s
  ·obtain⟨x,y,hs⟩:=hs
   have own:∀x' y',Vx l x' y' s→pw s.1 x' y'≤pw s.1 x y:=fun x' y' h'=>by
    obtain⟨rfl,rfl⟩:=qu7 h' hs;exact Rat.le_refl
   by_cases hL:∃t∈L,∃x y,Vx l x y t
   ·obtain⟨t,ht,u,v,hv,hmax⟩:=qq2 l L hL
    rcases Rat.le_total (a:=pw s.1 x y) (b:=pw t.1 u v) with hle|hle
    ·refine⟨t,List.mem_cons_of_mem _ ht,u,v,hv,fun t' ht' x' y' h'=>?_⟩
     rcases List.mem_cons.1 ht' with rfl|ht'
     ·exact Rat.le_trans (own x' y' h') hle
     ·exact hmax t' ht' x' y' h'
    ·refine⟨s,List.mem_cons_self,x,y,hs,fun t' ht' x' y' h'=>?_⟩
     rcases List.mem_cons.1 ht' with rfl|ht'
     ·exact own x' y' h'
     ·exact Rat.le_trans (hmax t' ht' x' y' h') hle
   ·refine⟨s,List.mem_cons_self,x,y,hs,fun t' ht' x' y' h'=>?_⟩
    rcases List.mem_cons.1 ht' with rfl|ht'
    ·exact own x' y' h'
    ·exact absurd ⟨t',ht',x',y',h'⟩ hL
  ·have hL:∃t∈L,∃x y,Vx l x y t:=by
    obtain⟨t,ht,h⟩:=h
    rcases List.mem_cons.1 ht with rfl|ht
    ·exact absurd h hs
    ·exact⟨t,ht,h⟩
   obtain⟨t,ht,u,v,hv,hmax⟩:=qq2 l L hL
   refine⟨t,List.mem_cons_of_mem _ ht,u,v,hv,fun t' ht' x' y' h'=>?_⟩
   rcases List.mem_cons.1 ht' with rfl|ht'
   ·exact absurd ⟨x',y',h'⟩ hs
   ·exact hmax t' ht' x' y' h'
theorem qrN{l:List DQ}{x y:Rat}{t:DQ×DQ×DQ}(ht:t.1∈l∧t.2.1∈l∧t.2.2∈l)(hv:Vx l x y t) :
  ∃a∈l,∃b∈l,∃neg,q1t b.x b.y a.x a.y≠0∧pw a x y=pw t.1 x y∧pw b x y=pw a x y∧0≤(qj a b neg).ax*(x-a.x)+(qj a b neg).ay*(y-a.y) ∧
   ∀k∈l,pw k x y=pw a x y→0≤(qj a b neg).ax*(k.x-a.x)+(qj a b neg).ay*(k.y-a.y):=by
 obtain⟨a0,b0,c0⟩:=t
 obtain⟨hA,h1,h2,h3,h4⟩:=hv
 simp only at *
 obtain⟨I,hI⟩:∃I,I=l.filter fun k=>decide (pw k x y=pw a0 x y):=⟨_,rfl⟩
 have memI:∀k,k∈I↔k∈l∧pw k x y=pw a0 x y:=fun k=>by rw[hI];simp
 have ia:a0∈I:=(memI _).2 ⟨ht.1,rfl⟩
 have ib:b0∈I:=(memI _).2 ⟨ht.2.1,h1⟩
 have ic:c0∈I:=(memI _).2 ⟨ht.2.2,h2⟩
 obtain⟨a,haI,hmax⟩:=ql7 (fun k:DQ=>q1t k.x k.y x y) I (by intro h;rw[h] at ia;cases ia)
 obtain⟨hal,hap⟩:=(memI a).1 haI
 obtain⟨D,hD⟩:∃D:DQ→Rat,D=fun k=>(x-a.x)*(k.x-a.x)+(y-a.y)*(k.y-a.y):=⟨_,rfl⟩
 obtain⟨X,hX⟩:∃X:DQ→Rat,X=fun k=>(x-a.x)*(k.y-a.y)-(y-a.y)*(k.x-a.x):=⟨_,rfl⟩
 obtain⟨J,hJ⟩:∃J,J=I.filter fun k=>decide (q1t k.x k.y a.x a.y≠0):=⟨_,rfl⟩
 have memJ:∀k,k∈J↔k∈I∧q1t k.x k.y a.x a.y≠0:=fun k=>by rw[hJ];simp
 have hDp:∀k∈J,0<D k:=fun k hk=>by
  obtain⟨hk1,hk2⟩:=(memJ k).1 hk
  have e1:=hmax k hk1
  have e2:=qqY k.x k.y a.x a.y
  rw[hD]
  simp only at e1 ⊢
  unfold q1t at e1 e2 hk2
  grind
 have hJn:J≠[]:=by
  intro hJ0
  have all:∀k∈I,k.x=a.x∧k.y=a.y:=fun k hk=>by
   by_cases hz:q1t k.x k.y a.x a.y=0
   ·exact qfx hz
   ·have:=(memJ k).2 ⟨hk,hz⟩
    rw[hJ0] at this;cases this
  obtain⟨p1,q1⟩:=all a0 ia
  obtain⟨p2,q2⟩:=all b0 ib
  obtain⟨p3,q3⟩:=all c0 ic
  apply hA
  unfold qvH
  rw[p1,p2,p3,q1,q2,q3];grind
 have slope:∀k b:DQ,0<D k→0<D b→X k/D k≤X b/D b→X k*D b≤X b*D k:=fun k b k0 b0 h=>by
  have e1:X k/D k*D k=X k:=Rat.div_mul_cancel (by grind)
  have e2:X b/D b*D b=X b:=Rat.div_mul_cancel (by grind)
  generalize X k/D k=u at *
  generalize X b/D b=v at *
  have:=Rat.mul_nonneg (show 0≤v-u by grind) (Rat.mul_nonneg (show 0≤D k by grind) (show 0≤D b by grind))
  rw[←e1,←e2];grind
 have lag:∀k b:DQ,((x-a.x)*(x-a.x)+(y-a.y)*(y-a.y))*((k.x-a.x)*(b.y-a.y)-(k.y-a.y)*(b.x-a.x))=D k*X b-X k*D b:=fun k b=>by
  rw[hD,hX];simp only;grind
 have upos:∀b,0<D b→0<(x-a.x)*(x-a.x)+(y-a.y)*(y-a.y):=fun b hb=>by
  apply Rat.not_le.1;intro hn
  have s1:=qe9 (x-a.x)
  have s2:=qe9 (y-a.y)
  have z1:=qjS (a:=x-a.x) (by grind)
  have z2:=qjS (a:=y-a.y) (by grind)
  rw[hD] at hb;simp only at hb;rw[z1,z2] at hb;grind
 obtain⟨b,hb,hbm⟩:=ql7 (fun k=>X k/D k) J hJn
 have hbD:=hDp b hb
 obtain⟨hbI,hbf⟩:=(memJ b).1 hb
 obtain⟨hbl,hbp⟩:=(memI b).1 hbI
 have onI:∀k∈l,pw k x y=pw a x y→k∈I:=fun k hk e=>(memI k).2 ⟨hk,by rw[e,hap]⟩
 by_cases hXb:0≤X b
 ·refine⟨a,hal,b,hbl,true,hbf,hap,by rw[hbp,hap],?_,fun k hk hkp=>?_⟩
  ·have e:(qj a b true).ax*(x-a.x)+(qj a b true).ay*(y-a.y)=X b:=by
    rw[hX];unfold qj;simp only[if_true];grind
   rw[e];exact hXb
  ·have e:(qj a b true).ax*(k.x-a.x)+(qj a b true).ay*(k.y-a.y)=(k.x-a.x)*(b.y-a.y)-(k.y-a.y)*(b.x-a.x):=by
    unfold qj;simp only[if_true];grind
   rw[e]
   by_cases hz:q1t k.x k.y a.x a.y=0
   ·obtain⟨z1,z2⟩:=qfx hz
    rw[z1,z2];grind
   ·have hkJ:=(memJ k).2 ⟨onI k hk hkp,hz⟩
    have s:=slope k b (hDp k hkJ) hbD (hbm k hkJ)
    have g:=lag k b
    apply Rat.not_lt.1;intro hn
    have:=Rat.mul_pos (upos b hbD) (show 0 < -((k.x-a.x)*(b.y-a.y)-(k.y-a.y)*(b.x-a.x)) by grind)
    grind
 ·obtain⟨c,hc,hcm⟩:=ql7 (fun k=>-(X k/D k)) J hJn
  have hcD:=hDp c hc
  obtain⟨hcI,hcf⟩:=(memJ c).1 hc
  obtain⟨hcl,hcp⟩:=(memI c).1 hcI
  have hXc:X c<0:=by
   have s:=slope c b hcD hbD (hbm c hc)
   apply Rat.not_le.1;intro hn
   have m1:=Rat.mul_nonneg hn (show 0≤D b by grind)
   have m2:=Rat.mul_pos (show 0 < -X b by grind) hcD
   grind
  refine⟨a,hal,c,hcl,false,hcf,hap,by rw[hcp,hap],?_,fun k hk hkp=>?_⟩
  ·have e:(qj a c false).ax*(x-a.x)+(qj a c false).ay*(y-a.y)=-X c:=by
    rw[hX];unfold qj;simp only[Bool.false_eq_true,if_false];grind
   rw[e];grind
  ·have e:(qj a c false).ax*(k.x-a.x)+(qj a c false).ay*(k.y-a.y)=-((k.x-a.x)*(c.y-a.y)-(k.y-a.y)*(c.x-a.x)):=by
    unfold qj;simp only[Bool.false_eq_true,if_false];grind
   rw[e]
   by_cases hz:q1t k.x k.y a.x a.y=0
   ·obtain⟨z1,z2⟩:=qfx hz
    rw[z1,z2];grind
   ·have hkJ:=(memJ k).2 ⟨onI k hk hkp,hz⟩
    have hle:=hcm k hkJ
    have s:=slope c k hcD (hDp k hkJ) (by grind)
    have g:=lag k c
    apply Rat.not_lt.1;intro hn
    have:=Rat.mul_pos (upos c hcD) (show 0<(k.x-a.x)*(c.y-a.y)-(k.y-a.y)*(c.x-a.x) by grind)
    grind
theorem qs2{l:List DQ}(hl:l≠[])(hs:∀d∈l,0≤d.s)(hm:qtk l) :
  (∃a∈l,∀d∈l,pw d a.x a.y≤0)∨∃a∈l,∃b∈l,∃neg,q1t b.x b.y a.x a.y≠0∧0≤(qj a b neg).h∧∀d∈l,uA d (qj a b neg):=by
 obtain⟨x,y,hxy⟩:=hm
 rcases qu0 hl hs hxy with h|⟨a,ha,b,hb,X,Y,hf,hab,hmx,h0⟩
 ·exact .inl h
 ·right
  have vtx:∀{a b k:DQ} {neg:Bool} {X Y:Rat},(qj a b neg).ax*(k.x-a.x)+(qj a b neg).ay*(k.y-a.y)<0→pw k X Y=pw a X Y→pw b X Y=pw a X Y→(∀d∈l,pw d X Y≤pw a X Y)→pw a X Y≤0→Vx l X Y (a,b,k):=by
   intro a b k neg X Y h1 h2 h3 h4 h5
   refine⟨fun hA=>?_,h3,h2,h4,h5⟩
   unfold qvH at hA
   simp only at hA
   unfold qj at h1
   cases neg
   ·simp only[Bool.false_eq_true,if_false] at h1;grind
   ·simp only[if_true] at h1;grind
  have hneg:∃neg,0≤(qj a b neg).ax*(X-a.x)+(qj a b neg).ay*(Y-a.y):=by
   obtain⟨e1,e2⟩:=qp4 a b
   rcases Rat.le_total (a:=0) (b:=(qj a b false).ax*(X-a.x)+(qj a b false).ay*(Y-a.y)) with h|h
   ·exact⟨false,h⟩
   ·exact⟨true,by rw[e1,e2];grind⟩
  obtain⟨neg,hv⟩:=hneg
  rcases qku neg hf hab hmx h0 hv with⟨h1,h2⟩|⟨t,k,t0,hk,k1,k2,k3,k4,k5⟩
  ·exact⟨a,ha,b,hb,neg,hf,h1,h2⟩
  ·obtain⟨L,hL⟩:∃L,L=l.flatMap fun a=>l.flatMap fun b=>l.map fun c=>(a,b,c):=⟨_,rfl⟩
   have memL:∀t:DQ×DQ×DQ,t∈L↔t.1∈l∧t.2.1∈l∧t.2.2∈l:=fun t=>by
    obtain⟨a,b,c⟩:=t
    rw[hL];simp only[List.mem_flatMap,List.mem_map,Prod.mk.injEq]
    exact⟨fun⟨a',h1,b',h2,c',h3,e1,e2,e3⟩=>⟨e1▸h1,e2▸h2,e3▸h3⟩,fun⟨h1,h2,h3⟩=>⟨a,h1,b,h2,c,h3,rfl,rfl,rfl⟩⟩
   obtain⟨s,hs,u,v,hV,hmax⟩:=qq2 l L ⟨(a,b,k),(memL _).2 ⟨ha,hb,hk⟩,_,_,vtx k1 k2 k3 k4 k5⟩
   obtain⟨a',ha',b',hb',neg',hf',hp',hab',hv',hact⟩:=qrN ((memL s).1 hs) hV
   rcases qku neg' hf' hab' (fun d hd=>by rw[hp'];exact hV.2.2.2.1 d hd) (by rw[hp'];exact hV.2.2.2.2) hv' with⟨h1,h2⟩|⟨t,k,t0,hk,k1,k2,k3,k4,k5⟩
   ·exact⟨a',ha',b',hb',neg',hf',h1,h2⟩
   ·exfalso
    have hm':=hmax (a',b',k) ((memL _).2 ⟨ha',hb',hk⟩) _ _ (vtx k1 k2 k3 k4 k5)
    simp only at hm'
    rw[←hp'] at hm'
    obtain⟨f1,-⟩:=qgP neg' hf'
    have hpos:0<q1t b'.x b'.y a'.x a'.y:=by have:=qqY b'.x b'.y a'.x a'.y;grind
    generalize qj a' b' neg'=p at *
    have t1:0<t:=by
     apply Rat.not_le.1;intro hn
     have:t=0:=by grind
     rw[this] at k2
     have e1:u+0*p.ax=u:=by grind
     have e2:v+0*p.ay=v:=by grind
     rw[e1,e2] at k2
     have:=hact k hk k2
     grind
    have e:pw a' (u+t*p.ax) (v+t*p.ay)=pw a' u v+2*(t*(p.ax*(u-a'.x)+p.ay*(v-a'.y)))+t*t*(p.ax*p.ax+p.ay*p.ay):=by unfold pw;grind
    rw[e,f1] at hm'
    have m1:=Rat.mul_nonneg t0 hv'
    have m2:=Rat.mul_pos (Rat.mul_pos t1 t1) hpos
    grind
end Go.Eng

namespace Go.Eng
def cls(q:Rat):Prop:=(qn q≤12∧q.den=1)∨(qn q≤10∧qd q≤10)
def qvz(q:Rat):Prop:=qn q≤13∧qd q≤10
structure GD (d:DQ):Prop where
 x:cls d.x
 y:cls d.y
 s:qvz d.s
 nn:0≤d.s
theorem Bd.of_nl{m:Int}{k:Nat}(h:nl m≤k):Bd 1 k m:=by
 unfold Bd
 have:=quH h
 omega
theorem Bd.of_le{C e:Nat}{x y:Int}(h:Bd C e y)(hxy:x.natAbs≤y.natAbs):Bd C e x:=Nat.le_trans hxy h
theorem qio{q:Rat}(h:cls q):∃u v,Wt u v q∧((u=12∧v=0)∨(u=10∧v=10)):=by
 rcases h with⟨h1,h2⟩|⟨h1,h2⟩
 ·refine⟨12,0,⟨Bd.of_nl h1,?_,?_⟩,.inl ⟨rfl,rfl⟩⟩
  ·unfold Bd;rw[h2];decide
  ·unfold Bd;rw[h2];decide
 ·exact⟨10,10,⟨Bd.of_nl h1,Bd.of_nl (m:=(q.den:Int)) h2,Bd.of_nl (m:=(q.den:Int)) h2⟩,.inr ⟨rfl,rfl⟩⟩
theorem qmF{q:Rat}(h:qvz q):∃u v,Wt u v q∧u=13∧v=10:=
 ⟨13,10,⟨Bd.of_nl h.1,Bd.of_nl (m:=(q.den:Int)) h.2,(Bd.of_nl (m:=(q.den:Int)) h.2).mono (by omega) (by omega)⟩,rfl,rfl⟩
theorem wo{q:Rat}(h:cls q):bnd 12 10 q:=by
 rcases h with⟨h1,h2⟩|⟨h1,h2⟩
 ·exact⟨h1,by unfold qd;rw[h2];decide⟩
 ·exact⟨by omega,h2⟩
theorem q3U{q:Rat}(h:qvz q):bnd 13 10 q:=h
theorem GD.sh{d:DQ}(h:GD d):d.sh:=⟨wo h.x,wo h.y,q3U h.s⟩
theorem qoI{a b d:DQ}(ga:GD a)(gb:GD b)(gd:GD d)(neg:Bool)(hf:(b.x-a.x)*(b.x-a.x)+(b.y-a.y)*(b.y-a.y)≠0)(oa:okQ (kA d (qj a b neg)))(ob:okQ (kB d (qj a b neg)))(oc:okQ (qj a b neg).h) :
  RootOk (kA d (qj a b neg)) (kB d (qj a b neg)) (qj a b neg).h:=by
 obtain⟨f1,f2,f3,f4⟩:=qmx a b d neg hf
 generalize kA d (qj a b neg)=A at *
 generalize kB d (qj a b neg)=B at *
 generalize (qj a b neg).h=H at *
 obtain⟨hx1,vx1,wx1,ex1⟩:=qio ga.x
 obtain⟨hy1,vy1,wy1,ey1⟩:=qio ga.y
 obtain⟨hs1,vs1,ws1,es1⟩:=qmF ga.s
 obtain⟨hx2,vx2,wx2,ex2⟩:=qio gb.x
 obtain⟨hy2,vy2,wy2,ey2⟩:=qio gb.y
 obtain⟨hs2,vs2,ws2,es2⟩:=qmF gb.s
 obtain⟨hx3,vx3,wx3,ex3⟩:=qio gd.x
 obtain⟨hy3,vy3,wy3,ey3⟩:=qio gd.y
 obtain⟨hs3,vs3,ws3,es3⟩:=qmF gd.s
 have k1:8*hx1+vx1≤96∧14*hx1+4*vx1≤180:=by omega
 have k2:8*hy1+vy1≤96∧14*hy1+4*vy1≤180:=by omega
 have k3:7*hx2+vx2≤84∧14*hx2+2*vx2≤168:=by omega
 have k4:7*hy2+vy2≤84∧14*hy2+2*vy2≤168:=by omega
 have k5:2*hx3+vx3≤30∧2*hx3+4*vx3≤60:=by omega
 have k6:2*hy3+vy3≤30∧2*hy3+4*vy3≤60:=by omega
 have k7:hs1+2*vs1≤33∧2*hs1+4*vs1≤66:=by omega
 have k8:hs2+2*vs2≤33∧2*hs2+4*vs2≤66:=by omega
 have k9:hs3≤13∧vs3≤10:=by omega
 clear ex1 ey1 es1 ex2 ey2 es2 ex3 ey3 es3
 have p0:∀q:Rat,(q.den:Int)≠0:=fun q=>by have:=qsT q;omega
 have hM:iM a.x.num a.x.den a.y.num a.y.den a.s.den b.x.num b.x.den b.y.num b.y.den b.s.den d.x.den d.y.den d.s.den≠0:=by
  unfold iM iSq
  have:=p0 a.x;have:=p0 a.y;have:=p0 a.s;have:=p0 b.x;have:=p0 b.y;have:=p0 b.s;have:=p0 d.x;have:=p0 d.y;have:=p0 d.s
  exact Int.mul_ne_zero (Int.mul_ne_zero (Int.mul_ne_zero f4 (Int.mul_ne_zero (Int.mul_ne_zero ‹_› ‹_›) ‹_›)) (Int.mul_ne_zero (Int.mul_ne_zero (Int.mul_ne_zero ‹_› ‹_›) (Int.mul_ne_zero ‹_› ‹_›)) (Int.mul_ne_zero (Int.mul_ne_zero ‹_› ‹_›) (Int.mul_ne_zero ‹_› ‹_›)))) (Int.mul_ne_zero ‹_› ‹_›)
 have hQ:iQ a.x.den a.y.den b.x.den b.y.den d.x.den d.y.den≠0:=by
  unfold iQ
  exact Int.mul_ne_zero (Int.mul_ne_zero (Int.mul_ne_zero (p0 _) (p0 _)) (p0 _)) (Int.mul_ne_zero (Int.mul_ne_zero (p0 _) (p0 _)) (p0 _))
 have hC:iCd a.x.num a.x.den a.y.num a.y.den a.s.den b.x.num b.x.den b.y.num b.y.den b.s.den≠0:=by
  unfold iCd
  exact Int.mul_ne_zero (Int.mul_ne_zero (by omega) (Int.mul_ne_zero f4 f4)) (Int.mul_ne_zero (Int.mul_ne_zero (p0 _) (p0 _)) (Int.mul_ne_zero (p0 _) (p0 _)))
 obtain⟨g1,g2⟩:=qfu hM f1
 obtain⟨g3,g4⟩:=qfu hQ f2
 obtain⟨g5,g6⟩:=qfu hC f3
 have b1:=(bA wx1.n wx1.dh wy1.n wy1.dh wx2.n wx2.dh wy2.n wy2.dh wx3.n wx3.dh wy3.n wy3.dh ws1.n ws1.dh ws2.n ws2.dh ws3.n ws3.dh).of_le (x:=A.num) g1
 have b2:=(bM wx1.n wx1.dh wy1.n wy1.dh wx2.n wx2.dh wy2.n wy2.dh wx1.d wy1.d wx2.d wy2.d wx3.d wy3.d ws1.d ws2.d ws3.d).of_le (x:=(A.den:Int)) g2
 have b3:Bd 16 (hx1+hx2+hx3+hy1+hy2+hy3) B.num:=by
  refine(bK wx1.n wx1.dh wy1.n wy1.dh wx2.n wx2.dh wy2.n wy2.dh wx3.n wx3.dh wy3.n wy3.dh).of_le (Nat.le_trans g3 ?_)
  rw[Int.natAbs_mul]
  cases neg<;>simp
 have b4:=(bQ wx1.d wy1.d wx2.d wy2.d wx3.d wy3.d).of_le (x:=(B.den:Int)) g4
 have b5:=(bCn wx1.n wx1.dh wy1.n wy1.dh wx2.n wx2.dh wy2.n wy2.dh ws1.n ws1.dh ws2.n ws2.dh).of_le (x:=H.num) g5
 have b6:=(bCd wx1.n wx1.dh wy1.n wy1.dh wx2.n wx2.dh wy2.n wy2.dh ws1.d ws2.d).of_le (x:=(H.den:Int)) g6
 have X1:=b1.mul b4
 have X:Bd 40960 500 (rX A B H):=(X1.mul b6).mono (by omega) (by omega)
 have Y:=b3.mul b2
 have R:=b5.mul b6
 have XX:=(X.mul X).mono (C':=1677721600) (e':=1000) (by omega) (by omega)
 have YY:=Y.mul Y
 have YR:=(YY.mul R).mono (C':=553648128) (e':=972) (by omega) (by omega)
 have c10:(1000000000:Nat)≤10^9:=by decide
 exact { oa:=oa,ob:=ob,oc:=oc,x1:=X1.okL (k:=9) (by omega) (by omega) (by omega),x:=X.okL (k:=9) (by omega) (by omega) (by omega),y:=Y.okL (k:=9) (by omega) (by omega) (by omega),r:=R.okL (k:=9) (by omega) (by omega) (by omega),xx:=XX.okL (k:=10) (by decide) (by omega) (by omega),yy:=YY.okL (k:=9) (by omega) (by omega) (by omega),yr:=YR.okL (k:=9) (by omega) (by omega) (by omega),d:=((XX.mono (C':=1677721600) (e':=1000) (by omega) (by omega)).sub (YR.mono (C':=553648128) (e':=1000) (by omega) (by omega))).okL (k:=10) (by decide) (by omega) (by omega) }
end Go.Eng

namespace Go.Eng
theorem qw2{far c:Rat}(h0:far≠0)(hf:bnd 87 80 far)(hc:bnd 24 20 c):bnd 108 108 ((far+c)/(2*far)):=by
 have hn:far.num≠0:=fun h=>h0 (Rat.num_eq_zero.1 h)
 have hm:2*(far.num*(c.den:Int))≠0:=by
  have:=qsT c
  exact Int.mul_ne_zero (by omega) (Int.mul_ne_zero hn (by omega))
 have h2f:2*far≠0:=by grind
 have key:(far+c)/(2*far)*((2*(far.num*(c.den:Int)):Int):Rat)=((far.num*(c.den:Int)+c.num*(far.den:Int):Int):Rat):=by
  have e1:=q8P far
  have e2:=q8P c
  have e3:(far+c)/(2*far)*(2*far)=far+c:=Rat.div_mul_cancel h2f
  have f2:((2:Int):Rat)=2:=by simp
  simp only[Rat.intCast_add,Rat.intCast_mul,Rat.intCast_natCast,e1,e2,f2]
  generalize (far+c)/(2*far)=q at *
  generalize (far.den:Rat)=fd at *
  generalize (c.den:Rat)=cd at *
  have e4:q*(2*(far*fd*cd))=q*(2*far)*(fd*cd):=by grind
  rw[e4,e3];grind
 obtain⟨k1,k2⟩:=qfu hm key
 have g1:=qa3 k1
 have g2:=qqZ k2
 have a1:=qov (far.num*(c.den:Int)) (c.num*(far.den:Int))
 have a2:=q1l far.num (c.den:Int)
 have a3:=q1l c.num (far.den:Int)
 have a4:=q1l 2 (far.num*(c.den:Int))
 have a5:nl 2=1:=by decide
 have a6:dl (2*(far.num*(c.den:Int))).natAbs=nl (2*(far.num*(c.den:Int))):=rfl
 have b1:nl far.num≤87:=hf.1
 have b2:nl (far.den:Int)≤80:=hf.2
 have b3:nl c.num≤24:=hc.1
 have b4:nl (c.den:Int)≤20:=hc.2
 refine⟨?_,?_⟩
 ·show nl _≤108
  omega
 ·show dl _≤108
  omega
structure PB (p:SQ):Prop where
 fx:bnd 142 138 p.fx
 fy:bnd 142 138 p.fy
 ax:bnd 23 20 p.ax
 ay:bnd 23 20 p.ay
 h:bnd 314 313 p.h
theorem qw3(a:Rat):0-a=-a:=by grind
theorem qqq{a b:DQ}(ga:GD a)(gb:GD b)(hf:q1t b.x b.y a.x a.y≠0):bnd 108 108 ((q1t b.x b.y a.x a.y+a.s-b.s)/(2*q1t b.x b.y a.x a.y)):=by
 rw[show q1t b.x b.y a.x a.y+a.s-b.s=q1t b.x b.y a.x a.y+(a.s-b.s) by grind]
 exact qw2 hf (qjf (wo gb.x) (wo gb.y) (wo ga.x) (wo ga.y)) ((q3U ga.s).sub (q3U gb.s) (by omega) (by omega))
theorem qdz(a b:DQ)(neg:Bool):qj a b neg=⟨a.x+(q1t b.x b.y a.x a.y+a.s-b.s)/(2*q1t b.x b.y a.x a.y)*(b.x-a.x),a.y+(q1t b.x b.y a.x a.y+a.s-b.s)/(2*q1t b.x b.y a.x a.y)*(b.y-a.y),if neg then b.y-a.y else 0-(b.y-a.y),if neg then 0-(b.x-a.x) else b.x-a.x,a.s/q1t b.x b.y a.x a.y-(q1t b.x b.y a.x a.y+a.s-b.s)/(2*q1t b.x b.y a.x a.y)*((q1t b.x b.y a.x a.y+a.s-b.s)/(2*q1t b.x b.y a.x a.y))⟩:=rfl
theorem qcA{a b:DQ}(ga:GD a)(gb:GD b)(neg:Bool)(hf:q1t b.x b.y a.x a.y≠0):PB (qj a b neg):=by
 have dx:=q5Y (wo gb.x) (wo ga.x)
 have dy:=q5Y (wo gb.y) (wo ga.y)
 have far:=qjf (wo gb.x) (wo gb.y) (wo ga.x) (wo ga.y)
 have ht:=qqq ga gb hf
 rw[qdz]
 have nx:bnd 23 20 (0-(b.x-a.x)):=by rw[qw3];exact dx.neg
 have ny:bnd 23 20 (0-(b.y-a.y)):=by rw[qw3];exact dy.neg
 have hh:=((q3U ga.s).div hf far).sub (ht.mul ht) (K:=314) (by omega) (by omega)
 have hx:=(wo ga.x).add (ht.mul dx) (K:=142) (by omega) (by omega)
 have hy:=(wo ga.y).add (ht.mul dy) (K:=142) (by omega) (by omega)
 exact⟨hx,hy,by cases neg<;>assumption,by cases neg<;>assumption,hh⟩
theorem PB.m{p:SQ}{d:DQ}(hp:PB p)(gd:GD d):bnd 153 148 (p.fx-d.x)∧bnd 153 148 (p.fy-d.y):=
 ⟨hp.fx.sub (wo gd.x) (by omega) (by omega),hp.fy.sub (wo gd.y) (by omega) (by omega)⟩
theorem PB.mm{p:SQ}{d:DQ}(hp:PB p)(gd:GD d):bnd 603 592 ((p.fx-d.x)*(p.fx-d.x)+(p.fy-d.y)*(p.fy-d.y)):=
 qjz (hp.m gd).1 (hp.m gd).2 (hp.m gd).1 (hp.m gd).2
theorem PB.aa{p:SQ}(hp:PB p):bnd 87 80 (p.ax*p.ax+p.ay*p.ay):=qjz hp.ax hp.ay hp.ax hp.ay
theorem PB.ha{p:SQ}(hp:PB p):bnd 401 393 (p.h*(p.ax*p.ax+p.ay*p.ay)):=hp.h.mul hp.aa
theorem PB.x{p:SQ}{d:DQ}(hp:PB p)(gd:GD d):bnd 997 985 ((p.fx-d.x)*(p.fx-d.x)+(p.fy-d.y)*(p.fy-d.y)+p.h*(p.ax*p.ax+p.ay*p.ay)):=
 (hp.mm gd).add hp.ha (by omega) (by omega)
theorem PB.ma{p:SQ}{d:DQ}(hp:PB p)(gd:GD d):bnd 345 336 ((p.fx-d.x)*p.ax+(p.fy-d.y)*p.ay):=
 qjz (hp.m gd).1 (hp.m gd).2 hp.ax hp.ay
theorem PB.kA{p:SQ}{d:DQ}(hp:PB p)(gd:GD d):bnd 1008 995 (kA d p):=(hp.x gd).sub (q3U gd.s) (by omega) (by omega)
theorem PB.kB{p:SQ}{d:DQ}(hp:PB p)(gd:GD d):bnd 346 337 (kB d p):=qjN.mul (hp.ma gd)
structure PG (p:SQ):Prop where
 pb:PB p
 nn:0≤p.h
 root:∀d,GD d→RootOk (kA d p) (kB d p) p.h
theorem qsW{a b:DQ}(ga:GD a)(gb:GD b)(neg:Bool)(hf:q1t b.x b.y a.x a.y≠0)(hn:0≤(qj a b neg).h):PG (qj a b neg):=
 ⟨qcA ga gb neg hf,hn,fun _ gd=>qoI ga gb gd neg hf (((qcA ga gb neg hf).kA gd).ok (by omega) (by omega)) (((qcA ga gb neg hf).kB gd).ok (by omega) (by omega)) ((qcA ga gb neg hf).h.ok (by omega) (by omega))⟩
theorem qvc{a:DQ}(ga:GD a):PG ⟨a.x,a.y,0,0,0⟩:=by
 refine⟨⟨(wo ga.x).mono (by omega) (by omega),(wo ga.y).mono (by omega) (by omega),q5L.mono (by omega) (by omega),q5L.mono (by omega) (by omega),q5L.mono (by omega) (by omega)⟩,Rat.le_refl,fun d gd=>?_⟩
 have e1:Go.Eng.kA d ⟨a.x,a.y,0,0,0⟩=q1t a.x a.y d.x d.y-d.s:=by unfold Go.Eng.kA q1t;grind
 have e2:Go.Eng.kB d ⟨a.x,a.y,0,0,0⟩=0:=by unfold Go.Eng.kB;grind
 rw[e1,e2]
 have f1:bnd 98 90 (q1t a.x a.y d.x d.y-d.s):=(qjf (wo ga.x) (wo ga.y) (wo gd.x) (wo gd.y)).sub (q3U gd.s) (by omega) (by omega)
 exact RootOk.of f1 q5L q5L (by omega) (by omega)
theorem qrV{d:DQ}{p:SQ}(gd:GD d)(hp:PG p) :
  (vz [.s (tQ d.x),.s (tQ d.y),.s (tQ d.s),.s (tQ p.fx),.s (tQ p.fy),.s (tQ p.ax),.s (tQ p.ay),.s (tQ p.h),.i 0]).run=some (0,[.b (decide (uA d p)),.i 0]):=by
 rw[qbN]
 have hr:=qvq (hp.root d gd) hp.nn
 obtain⟨hp,-,-⟩:=hp
 obtain⟨m1,m2⟩:=hp.m gd
 have h0:=qtc hp.fx hp.fy (wo gd.x) (wo gd.y) (by omega) (by omega) (by omega)
 have h1:=qsN m1 m2 m1 m2 (by omega) (by omega)
 have h2:=qsN hp.ax hp.ay hp.ax hp.ay (by omega) (by omega)
 have h3:=qlO hp.h hp.aa (by omega) (by omega)
 have h4:=qrb (hp.mm gd) hp.ha (by omega) (by omega) (by omega)
 have h5:=qmu (hp.x gd) (q3U gd.s) (by omega) (by omega) (by omega)
 have h6:=qsN m1 m2 hp.ax hp.ay (by omega) (by omega)
 have h7:=qlO qjN (hp.ma gd) (by omega) (by omega)
 rw[qtq] at h7
 have e:uA d p=(qaR (Go.Eng.kA d p) (Go.Eng.kB d p) p.h≤0):=rfl
 unfold Go.Eng.kA Go.Eng.kB at hr e
 simp only[STD,h0,h1,h2,h3,h4,h5,h6,h7,hr,e]
 rfl
def qvE(d:DQ):List U:=[.s (tQ d.x),.s (tQ d.y),.s (tQ d.s)]
def rD(l:List DQ):R:=l.map qvE
def ix(l:List DQ)(i:Nat):DQ:=l.getD i ⟨0,0,0⟩
theorem yU(l:List DQ):qh (rD l)=(l.length:Int):=by simp[qh,rD]
theorem qoZ{l:List DQ}{i:Nat}(h:i<l.length):cS (rD l) (i:Int) 0=tQ (ix l i).x∧cS (rD l) (i:Int) 1=tQ (ix l i).y∧cS (rD l) (i:Int) 2=tQ (ix l i).s:=by
 unfold cS zZ rD ix
 simp[List.getD_eq_getElem?_getD,h,qvE,U.toS]
theorem qt2{l:List DQ}{i:Nat}(h:i<l.length):ix l i∈l:=by
 unfold ix
 simp[List.getD_eq_getElem?_getD,h]
def q5O(a b:DQ)(same:Bool)(side:Int):Option SQ:=
 if same then (if side=0 then some ⟨a.x,a.y,0,0,0⟩ else none)
 else if q1t b.x b.y a.x a.y=0 then none
 else if 0≤(qj a b (decide (side<0))).h∧((qj a b (decide (side<0))).h=0↔side=0) then some (qj a b (decide (side<0))) else none
theorem qsY{a b:DQ}(ga:GD a)(gb:GD b){same:Bool}{side:Int}{p:SQ}(h:q5O a b same side=some p):PG p:=by
 unfold q5O at h
 split at h
 ·split at h
  ·cases h;exact qvc ga
  ·cases h
 ·split at h
  ·cases h
  ·rename_i hf
   split at h
   ·rename_i hc
    cases h;exact qsW ga gb _ hf hc.1
   ·cases h
def q18(l:List DQ)(i j:Nat)(side:Int):Bool:=
 match q5O (ix l i) (ix l j) (decide (i=j)) side with
 | none=>false
 | some p=>l.all fun d=>decide (uA d p)
def qg8(l:List DQ)(i j:Nat)(side:Int):Option (Nat×Nat×Int):=if q18 l i j side then some (i,j,side) else none
def q8U(l:List DQ)(i j:Nat):Option (Nat×Nat×Int):=
 match qg8 l i j 0 with
 | some w=>some w
 | none=>match qg8 l i j 1 with
  | some w=>some w
  | none=>qg8 l i j (-1)
def q2e(l:List DQ):Option (Nat×Nat×Int):=
 match q2a (fun i=>qg8 l i i 0) 0 l.length with
 | some w=>some w
 | none=>q2a (fun i=>q2a (fun k=>q8U l i (i+1+k)) 0 (l.length-(i+1))) 0 l.length
end Go.Eng

namespace Go.Eng
theorem qpB(d a:DQ):uA d ⟨a.x,a.y,0,0,0⟩↔pw d a.x a.y≤0:=by
 have e1:kA d ⟨a.x,a.y,0,0,0⟩=pw d a.x a.y:=by unfold kA pw;grind
 have e2:kB d ⟨a.x,a.y,0,0,0⟩=0:=by unfold kB;grind
 unfold uA
 rw[e1,e2]
 simp only[qpi,qew]
theorem qlQ{d:DQ}{p q:SQ}(hA:kA d p=kA d q)(hB:kB d p=kB d q)(hh:p.h=q.h):uA d p↔uA d q:=by
 unfold uA;rw[hA,hB,hh]
theorem qg1{d:DQ}{p:SQ}(hh:p.h=0):uA d p↔kA d p≤0:=by
 unfold uA
 rw[hh,qj5 (by grind)]
 constructor
 ·rintro (⟨h,-⟩|⟨h1,h2,h3⟩)
  ·exact h
  ·have:=Rat.mul_pos h1 h1;grind
 ·intro h;exact .inl ⟨h,.inr (.inl rfl)⟩
theorem qpx{a b:DQ}(neg:Bool)(hf:q1t b.x b.y a.x a.y≠0) :
  (qj b a (!neg)).fx=(qj a b neg).fx∧(qj b a (!neg)).fy=(qj a b neg).fy∧(qj b a (!neg)).ax=(qj a b neg).ax∧(qj b a (!neg)).ay=(qj a b neg).ay∧(qj b a (!neg)).h=(qj a b neg).h:=by
 have hsw:q1t a.x a.y b.x b.y=q1t b.x b.y a.x a.y:=by unfold q1t;grind
 rw[qdz,qdz,hsw]
 generalize q1t b.x b.y a.x a.y=far at *
 have h2f:2*far≠0:=by grind
 have h1:(far+b.s-a.s)/(2*far)*(2*far)=far+b.s-a.s:=Rat.div_mul_cancel h2f
 have h2:(far+a.s-b.s)/(2*far)*(2*far)=far+a.s-b.s:=Rat.div_mul_cancel h2f
 have h3:a.s/far*far=a.s:=Rat.div_mul_cancel hf
 have h4:b.s/far*far=b.s:=Rat.div_mul_cancel hf
 generalize (far+b.s-a.s)/(2*far)=u at *
 generalize (far+a.s-b.s)/(2*far)=t at *
 generalize a.s/far=p at *
 generalize b.s/far=q at *
 have cancel:∀z:Rat,z*far=0→z=0:=fun z hz=>by
  rcases Rat.mul_eq_zero.1 hz with h|h
  ·exact h
  ·exact absurd h hf
 have hu:u=1-t:=by
  have:=cancel (u-(1-t)) (by grind)
  grind
 have hpq:q=p-t*t+(1-t)*(1-t):=by
  have:=cancel (q-(p-t*t+(1-t)*(1-t))) (by grind)
  grind
 simp only
 refine⟨by rw[hu];grind,by rw[hu];grind,?_,?_,by rw[hu,hpq];grind⟩
 ·cases neg<;>simp only[Bool.not_false,Bool.not_true,Bool.false_eq_true,if_false,if_true]<;>grind
 ·cases neg<;>simp only[Bool.not_false,Bool.not_true,Bool.false_eq_true,if_false,if_true]<;>grind
theorem qcy{l:List DQ}{d:DQ}(h:d∈l):∃i,i<l.length∧ix l i=d:=by
 obtain⟨i,hi,e⟩:=List.getElem_of_mem h
 exact⟨i,hi,by unfold ix;simp[List.getD_eq_getElem?_getD,hi,e]⟩
def Wit(l:List DQ):Prop:=(∃i,i<l.length∧q18 l i i 0=true)∨∃i j side,i<j∧j<l.length∧(side=0∨side=1∨side=-1)∧q18 l i j side=true
theorem q7u{l:List DQ}{i j:Nat}{side:Int}:q18 l i j side=true↔∃p,q5O (ix l i) (ix l j) (decide (i=j)) side=some p∧∀d∈l,uA d p:=by
 unfold q18
 cases h:q5O (ix l i) (ix l j) (decide (i=j)) side with
 | none=>simp
 | some p=>simp
theorem qsO{a b:DQ}{same:Bool}{side:Int}{p:SQ}(h:q5O a b same side=some p):0≤p.h:=by
 unfold q5O at h
 split at h
 ·split at h
  ·cases h;exact Rat.le_refl
  ·cases h
 ·split at h
  ·cases h
  ·split at h
   ·rename_i hc
    cases h;exact hc.1
   ·cases h
theorem qhR{l:List DQ}{i j:Nat}{side:Int}(h:q18 l i j side=true):qtk l:=by
 obtain⟨p,h1,h2⟩:=q7u.1 h
 exact qkf (qsO h1) h2
theorem qng{l:List DQ}(hl:l≠[])(hs:∀d∈l,0≤d.s)(hm:qtk l):Wit l:=by
 rcases qs2 hl hs hm with⟨a,ha,h⟩|⟨a,ha,b,hb,neg,hf,h0,hk⟩
 ·obtain⟨i,hi,rfl⟩:=qcy ha
  refine .inl ⟨i,hi,q7u.2 ⟨⟨(ix l i).x,(ix l i).y,0,0,0⟩,?_,fun d hd=>(qpB d _).2 (h d hd)⟩⟩
  unfold q5O;simp
 ·have main:∀(i j:Nat) (neg:Bool),i<j→j<l.length→q1t (ix l j).x (ix l j).y (ix l i).x (ix l i).y≠0→0≤(qj (ix l i) (ix l j) neg).h→(∀d∈l,uA d (qj (ix l i) (ix l j) neg))→Wit l:=by
   intro i j neg hij hj hf h0 hk
   by_cases hz:(qj (ix l i) (ix l j) neg).h=0
   ·have hz':(qj (ix l i) (ix l j) false).h=0:=hz
    refine .inr ⟨i,j,0,hij,hj,.inl rfl,q7u.2 ⟨qj (ix l i) (ix l j) false,?_,fun d hd=>?_⟩⟩
    ·unfold q5O
     rw[if_neg (by simp;omega),if_neg hf]
     simp[hz']
    ·have:=(qg1 hz).1 (hk d hd)
     rw[qg1 hz']
     have e:kA d (qj (ix l i) (ix l j) false)=kA d (qj (ix l i) (ix l j) neg):=by
      unfold kA;rw[hz,hz']
      have e1:(qj (ix l i) (ix l j) false).fx=(qj (ix l i) (ix l j) neg).fx:=rfl
      have e2:(qj (ix l i) (ix l j) false).fy=(qj (ix l i) (ix l j) neg).fy:=rfl
      rw[e1,e2];grind
     rw[e];exact this
   ·cases neg
    ·refine .inr ⟨i,j,1,hij,hj,.inr (.inl rfl),q7u.2 ⟨qj (ix l i) (ix l j) false,?_,hk⟩⟩
     unfold q5O
     rw[if_neg (by simp;omega),if_neg hf]
     simp[hz,h0]
    ·refine .inr ⟨i,j,-1,hij,hj,.inr (.inr rfl),q7u.2 ⟨qj (ix l i) (ix l j) true,?_,hk⟩⟩
     unfold q5O
     rw[if_neg (by simp;omega),if_neg hf]
     simp[hz,h0]
  obtain⟨i,hi,rfl⟩:=qcy ha
  obtain⟨j,hj,rfl⟩:=qcy hb
  rcases Nat.lt_trichotomy i j with hij|rfl|hij
  ·exact main i j neg hij hj hf h0 hk
  ·exact absurd (by unfold q1t;grind) hf
  ·obtain⟨e1,e2,e3,e4,e5⟩:=qpx neg hf
   refine main j i (!neg) hij hi ?_ (by rw[e5];exact h0) fun d hd=>?_
   ·intro h;apply hf;unfold q1t at *;grind
   ·refine(qlQ ?_ ?_ e5).2 (hk d hd)
    ·unfold kA;rw[e1,e2,e3,e4,e5]
    ·unfold kB;rw[e1,e2,e3,e4]
theorem qcw{l:List DQ}{i j:Nat}{side:Int}{w:Nat×Nat×Int}(h:qg8 l i j side=some w):w=(i,j,side)∧q18 l i j side=true:=by
 unfold qg8 at h
 split at h
 ·cases h;exact⟨rfl,by assumption⟩
 ·cases h
theorem qcO{l:List DQ}{i j:Nat}{side:Int}(h:qg8 l i j side=none):q18 l i j side=false:=by
 unfold qg8 at h
 split at h
 ·cases h
 ·simp_all
theorem qa5{α:Type}{f:Nat→Option α}{a:α}:∀{k i:Nat},q2a f i k=some a→∃j,i≤j∧j<i+k∧f j=some a∧∀m,i≤m→m<j→f m=none
 | 0,i,h=>by cases h
 | k+1,i,h=>by
  simp only[q2a] at h
  cases hf:f i with
  | some b=>rw[hf] at h;exact⟨i,Nat.le_refl _,by omega,by rw[hf];exact h,fun m h1 h2=>by omega⟩
  | none=>
   rw[hf] at h
   obtain⟨j,h1,h2,h3,h4⟩:=qa5 h
   refine⟨j,by omega,by omega,h3,fun m m1 m2=>?_⟩
   rcases Nat.eq_or_lt_of_le m1 with rfl|m1
   ·exact hf
   ·exact h4 m m1 m2
theorem qmh{l:List DQ}{i j:Nat}{w:Nat×Nat×Int}(h:q8U l i j=some w):∃side,w=(i,j,side)∧(side=0∨side=1∨side=-1)∧q18 l i j side=true:=by
 unfold q8U at h
 cases h0:qg8 l i j 0 with
 | some v=>rw[h0] at h;simp only at h;cases h;obtain⟨e1,e2⟩:=qcw h0;exact⟨0,e1,.inl rfl,e2⟩
 | none=>
  rw[h0] at h;simp only at h
  cases h1:qg8 l i j 1 with
  | some v=>rw[h1] at h;simp only at h;cases h;obtain⟨e1,e2⟩:=qcw h1;exact⟨1,e1,.inr (.inl rfl),e2⟩
  | none=>
   rw[h1] at h;simp only at h
   obtain⟨e1,e2⟩:=qcw h;exact⟨-1,e1,.inr (.inr rfl),e2⟩
theorem qmW{l:List DQ}{i j:Nat}(h:q8U l i j=none):∀side:Int,side=0∨side=1∨side=-1→q18 l i j side=false:=by
 unfold q8U at h
 cases h0:qg8 l i j 0 with
 | some v=>rw[h0] at h;cases h
 | none=>
  rw[h0] at h;simp only at h
  cases h1:qg8 l i j 1 with
  | some v=>rw[h1] at h;cases h
  | none=>
   rw[h1] at h;simp only at h
   rintro side (rfl|rfl|rfl)
   ·exact qcO h0
   ·exact qcO h1
   ·exact qcO h
theorem qn3{l:List DQ}{w:Nat×Nat×Int}(h:q2e l=some w):q18 l w.1 w.2.1 w.2.2=true∧w.1≤w.2.1∧w.2.1<l.length∧(w.2.2=0∨w.2.2=1∨w.2.2=-1)∧(w.1=w.2.1→w.2.2=0):=by
 unfold q2e at h
 cases h0:q2a (fun i=>qg8 l i i 0) 0 l.length with
 | some v=>
  rw[h0] at h;simp only at h;cases h
  obtain⟨i,-,hi,hf,-⟩:=qa5 h0
  obtain⟨rfl,e⟩:=qcw hf
  exact⟨e,Nat.le_refl _,by simpa using hi,.inl rfl,fun _=>rfl⟩
 | none=>
  rw[h0] at h;simp only at h
  obtain⟨i,-,hi,hf,-⟩:=qa5 h
  obtain⟨k,-,hk,hf,-⟩:=qa5 hf
  obtain⟨side,rfl,h1,h2⟩:=qmh hf
  exact⟨h2,by simp only;omega,by simp only;omega,h1,fun h=>by simp only at h;omega⟩
theorem qnf{l:List DQ}(h:q2e l=none):¬Wit l:=by
 unfold q2e at h
 cases h0:q2a (fun i=>qg8 l i i 0) 0 l.length with
 | some v=>rw[h0] at h;cases h
 | none=>
  rw[h0] at h;simp only at h
  rintro (⟨i,hi,hp⟩|⟨i,j,side,hij,hj,hs,hp⟩)
  ·have:=qcO (q4V h0 i (by omega) (by omega));simp_all
  ·have h1:=q4V h i (by omega) (by omega)
   have h2:=q4V h1 (j-(i+1)) (by omega) (by omega)
   simp only[show i+1+(j-(i+1))=j by omega] at h2
   have:=qmW h2 side hs;simp_all
theorem qim{l:List DQ}(hl:l≠[])(hs:∀d∈l,0≤d.s):(q2e l).isSome=true↔qtk l:=by
 constructor
 ·intro h
  cases hf:q2e l with
  | none=>rw[hf] at h;cases h
  | some w=>exact qhR (qn3 hf).1
 ·intro h
  cases hf:q2e l with
  | none=>exact absurd (qng hl hs h) (qnf hf)
  | some w=>rfl
end Go.Eng

namespace Go.Eng
def GDs(l:List DQ):Prop:=∀d∈l,GD d
theorem GDs.ix{l:List DQ}(h:GDs l){i:Nat}(hi:i<l.length):GD (ix l i):=h _ (qt2 hi)
theorem qtr(q:Rat):(seq (tQ q) [48]=true)=(q=0):=by rw[vP,qgA]
theorem qef(q:Rat):(0:Int)<zt (tQ q):=by
 have h1:=qgN q
 have h2:=qhq q
 unfold zt;omega
theorem qw4(i:Nat):((i:Int)=(i:Int))=True:=by simp
def plc(p:SQ):List PV:=[.s (tQ p.fx),.s (tQ p.fy),.s (tQ p.ax),.s (tQ p.ay),.s (tQ p.h)]
theorem qex(q:Rat):(¬(tQ q).getD 0 0=45)=(0≤q):=by
 by_cases h:0≤q
 ·exact propext ⟨fun _=>h,fun _=>quq h⟩
 ·have:=qve (c:=q) (by grind)
  exact propext ⟨fun h'=>absurd this h',fun h'=>absurd h' h⟩
theorem qtD(b:Bool)(p q:Prop)[Decidable p][Decidable q](hb:(b=true)=p):(Go.Eng.beq b (decide q))=decide (p↔q):=by
 subst hb
 by_cases hq:q<;>cases b<;>simp[Go.Eng.beq,hq]<;>rfl
set_option maxHeartbeats 2000000 in
theorem qtP{l:List DQ}(hl:GDs l){i j:Nat}(hi:i<l.length)(hj:j<l.length)(side:Int) :
  (q5O (ix l i) (ix l j) (decide (i=j)) side=none∧∃a b c d e,(wu [.r (rD l),.i (i:Int),.i (j:Int),.i side,.i 0]).run=some (0,[.s a,.s b,.s c,.s d,.s e,.b false,.i 0])) ∨
  ∃p,q5O (ix l i) (ix l j) (decide (i=j)) side=some p∧(wu [.r (rD l),.i (i:Int),.i (j:Int),.i side,.i 0]).run=some (0,plc p++[.b true,.i 0]):=by
 rw[qc6]
 obtain⟨x1,x2,x3⟩:=qoZ hi
 obtain⟨y1,y2,y3⟩:=qoZ hj
 have ga:=hl.ix hi
 have gb:=hl.ix hj
 have bi:0≤(i:Int)∧(i:Int)<qh (rD l):=by rw[yU];omega
 have bj:0≤(j:Int)∧(j:Int)<qh (rD l):=by rw[yU];omega
 obtain⟨a,ha⟩:∃a,a=ix l i:=⟨_,rfl⟩
 obtain⟨b,hb⟩:∃b,b=ix l j:=⟨_,rfl⟩
 rw[←ha] at x1 x2 x3 ga ⊢
 rw[←hb] at y1 y2 y3 gb ⊢
 simp only[x1,x2,x3,y1,y2,y3]
 clear x1 x2 x3 y1 y2 y3 hb
 unfold q5O plc
 by_cases hij:i=j
 ·subst hij
  have z:tQ 0=[48]:=rfl
  by_cases hs:side=0
  ·subst hs
   right
   refine⟨⟨a.x,a.y,0,0,0⟩,by simp,?_⟩
   have e:ieq 0 0=true:=rfl
   simp only[STD,bi,and_self,z,e]
   rfl
  ·left
   refine⟨by simp[hs],tQ a.x,tQ a.y,[48],[48],[48],?_⟩
   have e:ieq side 0=false:=by simp[ieq,hs]
   simp only[STD,bi,and_self,e]
 ·have hij':¬(i:Int)=(j:Int):=by omega
  obtain⟨a1,a2,a3⟩:=ga.sh
  obtain⟨b1,b2,b3⟩:=gb.sh
  have dx:=q5Y b1 a1
  have dy:=q5Y b2 a2
  have far:=qjf b1 b2 a1 a2
  have h0:=qtc b1 b2 a1 a2 (by omega) (by omega) (by omega)
  have h1:=qsN dx dy dx dy (by omega) (by omega)
  have hfd:(b.x-a.x)*(b.x-a.x)+(b.y-a.y)*(b.y-a.y)=q1t b.x b.y a.x a.y:=rfl
  rw[hfd] at h1
  by_cases hf:q1t b.x b.y a.x a.y=0
  ·left
   refine⟨by simp[hij,hf],[],[],[],[],[],?_⟩
   simp only[STD,bi,bj,and_self,hij',h0,h1,qtr,hf]
  ·have hpb:=fun neg=>qcA ga gb neg hf
   have ht:=qqq ga gb hf
   have n1:bnd 98 90 (q1t b.x b.y a.x a.y+a.s):=far.add a3 (by omega) (by omega)
   have h2:=qrb far a3 (by omega) (by omega) (by omega)
   have n2:bnd 112 100 (q1t b.x b.y a.x a.y+a.s-b.s):=n1.sub b3 (by omega) (by omega)
   have h3:=qmu n1 b3 (by omega) (by omega) (by omega)
   have h4:=qlO qjN far (by omega) (by omega)
   rw[qtq] at h4
   have n4:=qjN.mul far
   have hf2:2*q1t b.x b.y a.x a.y≠0:=by grind
   have h5:=quP hf2 n2 n4 (by omega) (by omega)
   have h6:=qlO ht dx (by omega) (by omega)
   have h7:=qrb a1 (ht.mul dx) (by omega) (by omega) (by omega)
   have h8:=qlO ht dy (by omega) (by omega)
   have h9:=qrb a2 (ht.mul dy) (by omega) (by omega) (by omega)
   have h10:=qmu q5L dy (by omega) (by omega) (by omega)
   have h14:=qmu q5L dx (by omega) (by omega) (by omega)
   rw[show tQ 0=[48] from rfl] at h10 h14
   have h11:=quP hf a3 far (by omega) (by omega)
   have h12:=qlO ht ht (by omega) (by omega)
   have h13:=qmu (a3.div hf far) (ht.mul ht) (by omega) (by omega) (by omega)
   have hbd:=fun (q:Rat)=>qtD (seq (tQ q) [48]) (q=0) (side=0) (qtr q)
   have hie:ieq side 0=decide (side=0):=rfl
   rw[if_neg (by simp[hij]),if_neg hf]
   obtain⟨p,hcr'⟩:∃p,p=qj a b (decide (side<0)):=⟨_,rfl⟩
   rw[←hcr']
   have hcr:=hcr'.symm
   clear hcr'
   rw[qdz] at hcr
   obtain⟨t,htt⟩:∃t,t=(q1t b.x b.y a.x a.y+a.s-b.s)/(2*q1t b.x b.y a.x a.y):=⟨_,rfl⟩
   rw[←htt] at hcr h5 h6 h7 h8 h9 h12 h13
   obtain⟨h,hh⟩:∃h,h=a.s/q1t b.x b.y a.x a.y-t*t:=⟨_,rfl⟩
   rw[←hh] at hcr h13
   have hp5:p.h=h:=by rw[←hcr]
   by_cases hs:side<0
   ·simp only[hs,decide_true,if_true] at hcr
    by_cases hn:0≤h
    ·by_cases hz:(h=0↔side=0)
     ·right
      refine⟨p,by rw[if_pos ⟨by rw[hp5];exact hn,by rw[hp5];exact hz⟩],?_⟩
      rw[←hcr]
      simp only[STD,bi,bj,and_self,hij',h0,h1,h2,h3,h4,h5,h6,h7,h8,h9,h10,h11,h12,h13,h14,qtr,hf,hs,Int.le_refl,qef,qdC,qex,hn,hie,hbd,hz,decide_true]
      rfl
     ·left
      refine⟨by rw[if_neg (by rw[hp5];exact fun c=>hz c.2)],tQ p.fx,tQ p.fy,tQ p.ax,tQ p.ay,tQ p.h,?_⟩
      rw[←hcr]
      simp only[STD,bi,bj,and_self,hij',h0,h1,h2,h3,h4,h5,h6,h7,h8,h9,h10,h11,h12,h13,h14,qtr,hf,hs,Int.le_refl,qef,qdC,qex,hn,hie,hbd,hz,decide_false]
    ·left
     refine⟨by rw[if_neg (by rw[hp5];exact fun c=>hn c.1)],tQ p.fx,tQ p.fy,tQ p.ax,tQ p.ay,tQ p.h,?_⟩
     rw[←hcr]
     simp only[STD,bi,bj,and_self,hij',h0,h1,h2,h3,h4,h5,h6,h7,h8,h9,h10,h11,h12,h13,h14,qtr,hf,hs,Int.le_refl,qef,qdC,qex,hn]
   ·simp only[hs,decide_false,Bool.false_eq_true,if_false] at hcr
    by_cases hn:0≤h
    ·by_cases hz:(h=0↔side=0)
     ·right
      refine⟨p,by rw[if_pos ⟨by rw[hp5];exact hn,by rw[hp5];exact hz⟩],?_⟩
      rw[←hcr]
      simp only[STD,bi,bj,and_self,hij',h0,h1,h2,h3,h4,h5,h6,h7,h8,h9,h10,h11,h12,h13,h14,qtr,hf,hs,Int.le_refl,qef,qdC,qex,hn,hie,hbd,hz,decide_true]
      rfl
     ·left
      refine⟨by rw[if_neg (by rw[hp5];exact fun c=>hz c.2)],tQ p.fx,tQ p.fy,tQ p.ax,tQ p.ay,tQ p.h,?_⟩
      rw[←hcr]
      simp only[STD,bi,bj,and_self,hij',h0,h1,h2,h3,h4,h5,h6,h7,h8,h9,h10,h11,h12,h13,h14,qtr,hf,hs,Int.le_refl,qef,qdC,qex,hn,hie,hbd,hz,decide_false]
    ·left
     refine⟨by rw[if_neg (by rw[hp5];exact fun c=>hn c.1)],tQ p.fx,tQ p.fy,tQ p.ax,tQ p.ay,tQ p.h,?_⟩
     rw[←hcr]
     simp only[STD,bi,bj,and_self,hij',h0,h1,h2,h3,h4,h5,h6,h7,h8,h9,h10,h11,h12,h13,h14,qtr,hf,hs,Int.le_refl,qef,qdC,qex,hn]
end Go.Eng

namespace Go.Eng
theorem qtF{α:Type}(p:Nat→Bool)(g:Nat→α)(n:Nat):(q2a (fun i=>if p i=true then none else some (g i)) 0 n=none∧∀i,i<n→p i=true)∨∃i,i<n∧p i=false∧q2a (fun i=>if p i=true then none else some (g i)) 0 n=some (g i):=by
 cases h:q2a (fun i=>if p i=true then none else some (g i)) 0 n with
 | none=>
  refine .inl ⟨rfl,fun i hi=>?_⟩
  have:=q4V h i (by omega) (by omega)
  cases hp:p i
  ·rw[hp] at this;simp at this
  ·rfl
 | some a=>
  obtain⟨j,-,hj,hf,-⟩:=qa5 h
  cases hp:p j
  ·rw[hp] at hf;simp at hf
   exact .inr ⟨j,by omega,hp,by rw[hf]⟩
  ·rw[hp] at hf;simp at hf
theorem qtv(l:List DQ)(p:DQ→Bool):l.all p=true↔∀i,i<l.length→p (ix l i)=true:=by
 rw[List.all_eq_true]
 constructor
 ·intro h i hi;exact h _ (qt2 hi)
 ·intro h d hd
  obtain⟨i,hi,rfl⟩:=qcy hd
  exact h i hi
theorem qut{l:List DQ}{p:DQ→Bool}{i:Nat}(hi:i<l.length)(h:p (ix l i)=false):l.all p=false:=by
 cases ha:l.all p
 ·rfl
 ·have:=(qtv l p).1 ha i hi;simp_all
theorem qnD{l:List DQ}(hl:GDs l)(hn:l.length<1000000){i j:Nat}(hi:i<l.length)(hj:j<l.length)(side:Int) :
  (qO [.r (rD l),.i (i:Int),.i (j:Int),.i side,.i 0]).run=some (0,[.b (q18 l i j side),.i 0]):=by
 rw[qaO]
 unfold q18
 rcases qtP hl hi hj side with⟨h1,a,b,c,d,e,h2⟩|⟨p,h1,h2⟩
 ·rw[h1]
  simp only[STD,h2]
 ·rw[h1]
  have hp:=qsY (hl.ix hi) (hl.ix hj) h1
  unfold plc at h2
  simp only[List.cons_append,List.nil_append] at h2
  have key:=qcs (S:=zF)
   (fun k=>[.r (rD l),.i (qh (rD l)),.i (k:Int),.r (rD l),.r (rD l),.r (rD l),.i (i:Int),.i (j:Int),.i side,.b true,.s (tQ p.fx),.s (tQ p.fy),.s (tQ p.ax),.s (tQ p.ay),.s (tQ p.h),.b true,.r (rD l),.i (i:Int),.i (j:Int),.i side,.s (tQ p.fx),.s (tQ p.fy),.s (tQ p.ax),.s (tQ p.ay),.s (tQ p.h),.b true,.s (tQ p.fx),.s (tQ p.fy),.s (tQ p.ax),.s (tQ p.ay),.s (tQ p.h),.b true,.b true,.r (rD l),.i 0,.i (i:Int),.i (j:Int),.i side,.s (tQ p.fx),.s (tQ p.fy),.s (tQ p.ax),.s (tQ p.ay),.s (tQ p.h)])
   (fun k=>if decide (uA (ix l k) p)=true then none else some (1,[.i (k:Int),.r (rD l),.r (rD l),.r (rD l),.i (i:Int),.i (j:Int),.i side,.b true,.s (tQ p.fx),.s (tQ p.fy),.s (tQ p.ax),.s (tQ p.ay),.s (tQ p.h),.b true,.r (rD l),.i (i:Int),.i (j:Int),.i side,.s (tQ p.fx),.s (tQ p.fy),.s (tQ p.ax),.s (tQ p.ay),.s (tQ p.h),.b true,.s (tQ p.fx),.s (tQ p.fy),.s (tQ p.ax),.s (tQ p.ay),.s (tQ p.h),.b true,.b true,.r (rD l),.i 0,.i (i:Int),.i (j:Int),.i side,.s (tQ p.fx),.s (tQ p.fy),.s (tQ p.ax),.s (tQ p.ay),.s (tQ p.h)]))
   (0,[.r (rD l),.r (rD l),.r (rD l),.i (i:Int),.i (j:Int),.i side,.b true,.s (tQ p.fx),.s (tQ p.fy),.s (tQ p.ax),.s (tQ p.ay),.s (tQ p.h),.b true,.r (rD l),.i (i:Int),.i (j:Int),.i side,.s (tQ p.fx),.s (tQ p.fy),.s (tQ p.ax),.s (tQ p.ay),.s (tQ p.h),.b true,.s (tQ p.fx),.s (tQ p.fy),.s (tQ p.ax),.s (tQ p.ay),.s (tQ p.h),.b true,.b true,.r (rD l),.i 0,.i (i:Int),.i (j:Int),.i side,.s (tQ p.fx),.s (tQ p.fy),.s (tQ p.ax),.s (tQ p.ay),.s (tQ p.h)])
   l.length (by omega)
   (fun k hk hf=>by
    rw[jp]
    obtain⟨x1,x2,x3⟩:=qoZ hk
    have hK:=qrV (hl.ix hk) hp
    by_cases hd:uA (ix l k) p
    ·simp only[x1,x2,x3,STD,hK,hd,yU,qaU hk (show l.length<9223372036854775808 by omega),show (k:Int)<(l.length:Int) by omega,show (0:Int)≤(k:Int) by omega,and_self,decide_true]
    ·simp[hd] at hf)
   (fun k r hk hf=>by
    rw[jp]
    obtain⟨x1,x2,x3⟩:=qoZ hk
    have hK:=qrV (hl.ix hk) hp
    by_cases hd:uA (ix l k) p
    ·simp[hd] at hf
    ·simp only[hd,decide_false,Bool.false_eq_true,if_false,Option.some.injEq] at hf
     subst hf
     simp only[x1,x2,x3,STD,hK,hd,yU,show (k:Int)<(l.length:Int) by omega,show (0:Int)≤(k:Int) by omega,and_self,decide_false])
   (by rw[jp];simp only[STD,yU,show ¬(l.length:Int)<(l.length:Int) by omega])
  rcases qtF (fun k=>decide (uA (ix l k) p)) (fun k=>((1,[.i (k:Int),.r (rD l),.r (rD l),.r (rD l),.i (i:Int),.i (j:Int),.i side,.b true,.s (tQ p.fx),.s (tQ p.fy),.s (tQ p.ax),.s (tQ p.ay),.s (tQ p.h),.b true,.r (rD l),.i (i:Int),.i (j:Int),.i side,.s (tQ p.fx),.s (tQ p.fy),.s (tQ p.ax),.s (tQ p.ay),.s (tQ p.h),.b true,.s (tQ p.fx),.s (tQ p.fy),.s (tQ p.ax),.s (tQ p.ay),.s (tQ p.h),.b true,.b true,.r (rD l),.i 0,.i (i:Int),.i (j:Int),.i side,.s (tQ p.fx),.s (tQ p.fy),.s (tQ p.ax),.s (tQ p.ay),.s (tQ p.h)]):Nat×List PV)) l.length with⟨s1,s2⟩|⟨k,hk,s2,s1⟩
  ·rw[s1] at key
   have hall:(l.all fun d=>decide (uA d p))=true:=(qtv l _).2 s2
   simp only[Option.getD_none] at key
   simp only[STD,h2,hall]
   have key':=key
   simp only[show ((0:Nat):Int)=0 from rfl] at key'
   simp only[STD,key',wI key',show ieq 0 0=true from rfl]
  ·rw[s1] at key
   have hall:=qut (p:=fun d=>decide (uA d p)) hk s2
   simp only[Option.getD_some] at key
   simp only[STD,h2,hall]
   have key':=key
   simp only[show ((0:Nat):Int)=0 from rfl] at key'
   simp only[STD,key',wI key',show ¬(1=0) by omega,show (0:Int)≤(k:Int) by omega]
end Go.Eng

namespace Go.Eng
theorem qfr{S:List PV→TR}{α:Type}(st:Nat→List PV)(f:Nat→Option α)(g:α→List PV)(fin:List PV)(n:Nat)(hn:n<9223372036854775808)
  (h:∀i,i<n→(S (st i)).run=(f i).elim (some (0,st (i+1))) (fun a=>some (2,g a))) (h3:(S (st n)).run=some (1,fin)) :
  (qw S (st 0)).run=some ((q2a f 0 n).elim (0,fin) (fun a=>(1,g a))):=by
 have key:=qcs st (fun i=>(f i).map fun a=>(1,g a)) (0,fin) n hn (fun i hi hf=>by
  rw[h i hi]
  cases hfi:f i with
  | none=>rfl
  | some a=>rw[hfi] at hf;cases hf) (fun i r hi hf=>by
  rw[h i hi]
  cases hfi:f i with
  | none=>rw[hfi] at hf;cases hf
  | some a=>rw[hfi] at hf;simp at hf;rw[←hf];rfl) h3
 rw[key,qjk]
 cases q2a f 0 n<;>rfl
def sd(s:Nat):Int:=cI [[.i 0],[.i 1],[.i (-1)]] (s:Int) 0
theorem qpk(l:List DQ)(i j:Nat):q2a (fun s=>qg8 l i j (sd s)) 0 3=q8U l i j:=by
 have e0:sd 0=0:=rfl
 have e1:sd 1=1:=rfl
 have e2:sd 2=-1:=rfl
 simp only[q2a,e0,e1,e2]
 unfold q8U
 cases qg8 l i j 0
 ·cases qg8 l i j 1
  ·cases qg8 l i j (-1)<;>rfl
  ·rfl
 ·rfl
def dex(l:List DQ)(w:Nat×Nat×Int):List PV:=[.i 0,.r (rD l),.i (w.1:Int),.i (w.2.1:Int),.i w.2.2,.b true,.i (l.length:Int)]
def fW(o:Option (Nat×Nat×Int)):List PV:=o.elim [.i 0,.i 0,.i 0,.b false] (fun w=>[.i (w.1:Int),.i (w.2.1:Int),.i w.2.2,.b true])
theorem n3:qh [[U.i 0],[U.i 1],[U.i (-1)]]=3:=rfl
set_option maxHeartbeats 600000 in
theorem qtz{l:List DQ}(hl:GDs l)(hn:l.length<1000000):(jE [.r (rD l),.i 0]).run=some (0,fW (q2e l)++[.i 0]):=by
 rw[qce]
 have big:l.length<9223372036854775808:=by omega
 have A:=qfr (S:=wc) (fun k=>[.i (l.length:Int),.i (k:Int),.i 0,.r (rD l),.i 0,.i 0,.i 0,.b false,.i (l.length:Int)]) (fun k=>qg8 l k k 0) (dex l)
  [.i 0,.r (rD l),.i 0,.i 0,.i 0,.b false,.i (l.length:Int)] l.length big
  (fun k hk=>by
   rw[q0I]
   have hp:=qnD hl hn hk hk 0
   unfold qg8
   by_cases c:q18 l k k 0=true
   ·rw[if_pos c]
    simp only[STD,hp,c,show (k:Int)<(l.length:Int) by omega,dex]
   ·rw[if_neg c]
    simp only[STD,hp,c,show (k:Int)<(l.length:Int) by omega,qaU hk big]
    rfl)
  (by rw[q0I];simp only[STD,show ¬(l.length:Int)<(l.length:Int) by omega])
 have B:=fun i j (hi:i<l.length) (hj:j<l.length)=>qfr (S:=zS) (fun s=>[.i (i:Int),.i (j:Int),.i (l.length:Int),.i (i:Int),.i 3,.i (s:Int),.i 0,.r (rD l),.i 0,.i 0,.i 0,.b false,.i (l.length:Int),.r [[.i 0],[.i 1],[.i (-1)]]]) (fun s=>qg8 l i j (sd s)) (dex l)
  [.i (i:Int),.i (j:Int),.i (l.length:Int),.i (i:Int),.i 0,.r (rD l),.i 0,.i 0,.i 0,.b false,.i (l.length:Int)] 3 (by omega)
  (fun s hs=>by
   rw[q0f]
   have hp:=qnD hl hn hi hj (sd s)
   have esd:cI [[.i 0],[.i 1],[.i (-1)]] (s:Int) 0=sd s:=rfl
   unfold qg8
   by_cases c:q18 l i j (sd s)=true
   ·rw[if_pos c]
    simp only[STD,hp,c,esd,n3,show (s:Int)<3 by omega,show (0:Int)≤(s:Int) by omega,and_self,dex]
   ·rw[if_neg c]
    simp only[STD,hp,c,esd,n3,show (s:Int)<3 by omega,show (0:Int)≤(s:Int) by omega,and_self,qaU hs (show 3<9223372036854775808 by omega)]
    rfl)
  (by rw[q0f];simp only[STD,show ((3:Nat):Int)=3 from rfl,show ¬(3:Int)<3 by omega])
 have C:=fun i (hi:i<l.length)=>qfr (S:=zQ) (fun k=>[.i (i:Int),.i ((i+1+k:Nat):Int),.i (l.length:Int),.i (i:Int),.i 0,.r (rD l),.i 0,.i 0,.i 0,.b false,.i (l.length:Int)]) (fun k=>q8U l i (i+1+k)) (dex l)
  [.i (l.length:Int),.i (i:Int),.i 0,.r (rD l),.i 0,.i 0,.i 0,.b false,.i (l.length:Int)] (l.length-(i+1)) (by omega)
  (fun k hk=>by
   rw[q0a]
   have hj:i+1+k<l.length:=by omega
   have b:=B i (i+1+k) hi hj
   rw[qpk] at b
   simp only[show ((0:Nat):Int)=0 from rfl] at b
   have w:=qaU hj big
   cases hs:q8U l i (i+1+k) with
   | none=>
    rw[hs] at b
    simp only[Option.elim] at b ⊢
    simp only[STD,b,wI b,n3,show ((i+1+k:Nat):Int)<(l.length:Int) by omega,w]
    rfl
   | some v=>
    rw[hs] at b
    simp only[Option.elim,dex] at b ⊢
    simp only[STD,b,wI b,n3,show ((i+1+k:Nat):Int)<(l.length:Int) by omega,show ¬(1=0) by omega])
  (by rw[q0a];simp only[STD,show ¬((i+1+(l.length-(i+1)):Nat):Int)<(l.length:Int) by omega])
 have D:=qfr (S:=wh) (fun i=>[.i (l.length:Int),.i (i:Int),.i 0,.r (rD l),.i 0,.i 0,.i 0,.b false,.i (l.length:Int)]) (fun i=>q2a (fun k=>q8U l i (i+1+k)) 0 (l.length-(i+1))) (dex l)
  [.i 0,.r (rD l),.i 0,.i 0,.i 0,.b false,.i (l.length:Int)] l.length big
  (fun i hi=>by
   rw[q0B]
   have c:=C i hi
   simp only[Nat.add_zero] at c
   have w:=qaU hi big
   cases hs:q2a (fun k=>q8U l i (i+1+k)) 0 (l.length-(i+1)) with
   | none=>
    rw[hs] at c
    simp only[Option.elim] at c ⊢
    simp only[STD,w,c,wI c,show (i:Int)<(l.length:Int) by omega]
   | some v=>
    rw[hs] at c
    simp only[Option.elim,dex] at c ⊢
    simp only[STD,w,c,wI c,show (i:Int)<(l.length:Int) by omega,show ¬(1=0) by omega])
  (by rw[q0B];simp only[STD,show ¬(l.length:Int)<(l.length:Int) by omega])
 simp only[show ((0:Nat):Int)=0 from rfl] at A D
 unfold q2e
 cases hs:q2a (fun i=>qg8 l i i 0) 0 l.length with
 | some v=>
  rw[hs] at A
  simp only[Option.elim,dex] at A
  simp only[STD,yU,A,wI A,show ¬(1=0) by omega,fW,Option.elim]
  rfl
 | none=>
  rw[hs] at A
  simp only[Option.elim] at A
  simp only[]
  cases hs':q2a (fun i=>q2a (fun k=>q8U l i (i+1+k)) 0 (l.length-(i+1))) 0 l.length with
  | none=>
   rw[hs'] at D
   simp only[Option.elim] at D
   simp only[STD,yU,A,wI A,D,wI D,fW,Option.elim]
   rfl
  | some v=>
   rw[hs'] at D
   simp only[Option.elim,dex] at D
   simp only[STD,yU,A,wI A,D,wI D,fW,Option.elim,show ¬(1=0) by omega]
   rfl
end Go.Eng

namespace Go.Eng
theorem quF{d:DQ}(h:GD d):qtO (tQ d.x) (tQ d.y) (tQ d.s)=0:=
 qur ((wo h.x).ok (by omega) (by omega)) ((wo h.y).ok (by omega) (by omega)) ((q3U h.s).ok (by omega) (by omega)) h.nn
end Go.Eng

namespace Go.Eng
noncomputable def cD(x:R)(i:Nat):Int:=qtO (cS x (i:Int) 0) (cS x (i:Int) 1) (cS x (i:Int) 2)
noncomputable def lE(x:R):Int:=if 64<x.length then 5 else if q2c (cD x) x.length=0 then (if x.length=0 then 13 else 0) else q2c (cD x) x.length
theorem qkH(x:R)(h:64<x.length∨∀i,i<x.length→∀j,(cS x (i:Int) j).length≤1000000):(q1j [.r x]).run=some (0,[.i (lE x)]):=by
 rw[qke]
 unfold lE
 by_cases hn:64<x.length
 ·have:(64:Int)<qh x:=by unfold qh;omega
  simp only[STD,this,hn]
 ·have h':∀i,i<x.length→∀j,(cS x (i:Int) j).length≤1000000:=by
   rcases h with h|h
   ·omega
   ·exact h
  have hn':¬(64:Int)<qh x:=by unfold qh;omega
  have L:=qai (S:=q0z) (fun k=>[.r x,.r x,.i (qh x),.i (k:Int)]) (cD x) [] [.r x] x.length (by omega)
   (fun i hi=>by
    rw[q9t]
    have c:=qjX _ _ _ (h' i hi 0) (h' i hi 1) (h' i hi 2)
    have w:=qaU hi (show x.length<9223372036854775808 by omega)
    by_cases e:qtO (cS x (i:Int) 0) (cS x (i:Int) 1) (cS x (i:Int) 2)=0
    ·simp only[STD,c,e,w,qt4 hi,q3g,and_self,cD]
    ·simp only[STD,c,e,qt4 hi,q3g,and_self,cD])
   (by rw[q9t];simp only[STD,qtM])
  simp only[show ((0:Nat):Int)=0 from rfl] at L
  by_cases e:q2c (cD x) x.length=0
  ·rw[if_pos e] at L
   by_cases z:x.length=0
   ·have:qh x=0:=by unfold qh;omega
    rw[if_neg hn,if_pos e,if_pos z]
    have L':=L
    rw[this] at L'
    simp only[STD,this,show ¬(64:Int)<0 by omega,L',wI L']
   ·have:¬qh x=0:=by unfold qh;omega
    simp only[STD,hn',L,wI L,hn,e,z,this]
  ·rw[if_neg e] at L
   simp only[STD,hn',L,wI L,hn,e,show ¬(1=0) by omega]
instance (s:List UInt8):Decidable (shT s):=by unfold shT;infer_instance
theorem qtH(x:R)(i:Nat)(j:Nat):cS x (i:Int) j=((x.getD i []).getD j (.i 0)).toS:=rfl
theorem qw0{l:List DQ}(hl:GDs l)(h0:l≠[])(hn:l.length≤64):lE (rD l)=0:=by
 have hlen:(rD l).length=l.length:=by simp[rD]
 have hz:l.length≠0:=fun h=>h0 (List.length_eq_zero_iff.1 h)
 unfold lE
 rw[hlen,if_neg (by omega),if_neg hz,if_pos]
 refine qfL fun i hi=>?_
 obtain⟨x1,x2,x3⟩:=qoZ hi
 unfold cD
 rw[x1,x2,x3]
 exact quF (hl.ix hi)
theorem qu2{l:List DQ}(hl:GDs l):∀i,i<(rD l).length→∀j,(cS (rD l) (i:Int) j).length≤1000000:=by
 intro i hi j
 have hi':i<l.length:=by simpa[rD] using hi
 obtain⟨x1,x2,x3⟩:=qoZ hi'
 have g:=hl.ix hi'
 match j with
 | 0=>rw[x1];have:=qgs ((wo g.x).ok (by omega) (by omega));omega
 | 1=>rw[x2];have:=qgs ((wo g.y).ok (by omega) (by omega));omega
 | 2=>rw[x3];have:=qgs ((q3U g.s).ok (by omega) (by omega));omega
 | j+3=>
  rw[qtH]
  have e:(rD l).getD i []=qvE (ix l i):=by
   unfold rD ix
   simp[List.getD_eq_getElem?_getD,hi']
  rw[e];simp[qvE,List.getD_eq_getElem?_getD,U.toS]
theorem qr3{l:List DQ}(hl:GDs l)(h0:l≠[])(hn:l.length≤64):(q1j [.r (rD l)]).run=some (0,[.i 0]):=by
 rw[qkH _ (.inr (qu2 hl)),qw0 hl h0 hn]
def cW(o:Option (Nat×Nat×Int)):List PV:=o.elim [.b false,.i 0,.i 0,.i 0,.i 0] (fun w=>[.b true,.i (w.1:Int),.i (w.2.1:Int),.i w.2.2,.i 0])
theorem qnr{l:List DQ}(hl:GDs l)(h0:l≠[])(hn:l.length≤64):(q0D [.r (rD l)]).run=some (0,cW (q2e l)):=by
 rw[qgo]
 have a:=qr3 hl h0 hn
 have b:=qtz hl (by omega)
 cases hf:q2e l with
 | none=>
  rw[hf] at b
  simp only[fW,Option.elim,List.cons_append,List.nil_append] at b
  simp only[STD,a,b,cW,Option.elim]
 | some w=>
  rw[hf] at b
  simp only[fW,Option.elim,List.cons_append,List.nil_append] at b
  simp only[STD,a,b,cW,Option.elim]
end Go.Eng

namespace Go.Eng
def two(i j:Nat):R:=[[.i (i:Int)],[.i (j:Int)]]
end Go.Eng

namespace Go.Eng
def chk(x0 x1 x2 x3 x4 x5:Int)(x6:Bool):Int:=
 if ¬(-100000≤x0∧x0≤100000∧-100000≤x1∧x1≤100000∧1≤x2∧x2≤100000∧1≤x3∧x3≤100000) then 2
 else if x3<x2 then 9
 else if x4<0∨100000<x4∨(x6=false∧x2≤x4) then 2
 else if x5<0∨2<x5 then 1 else 0
theorem qe2(x:Int):(jc [.i x]).run=some (0,[.b (decide (-100000≤x∧x≤100000))]):=by
 rw[qmz];simp only[q9v,q1J,q6g];by_cases h:-100000≤x<;>simp[h,ile]
theorem qi8(x:Int):(q1o [.i x]).run=some (0,[.b (decide (-100000≤x∧x≤100000))]):=by
 rw[qn8];simp only[q9v,q1J,q6g];by_cases h:-100000≤x<;>simp[h,ile]
theorem q9O(x:Int):(vn [.i x]).run=some (0,[.b (decide (1≤x∧x≤100000))]):=by
 rw[qiU];simp only[q9v,q1J,q6g];by_cases h:1≤x<;>simp[h,ile]
theorem q9I(x:Int):(vq [.i x]).run=some (0,[.b (decide (1≤x∧x≤100000))]):=by
 rw[qkb];simp only[q9v,q1J,q6g];by_cases h:1≤x<;>simp[h,ile]
theorem q7L(x y:Int):(vW [.i x,.i y]).run=some (0,[.b (decide (-100000≤x∧x≤100000∧-100000≤y∧y≤100000))]):=by
 rw[qi6];simp only[q9v,q1J,qeA (qi8 _),gB,qkM (qi8 _),List.getD_cons_zero,PV.toB,if_true,decide_eq_true_eq]
 by_cases h:-100000≤x<;>by_cases h2:x≤100000<;>simp[h,h2]
theorem q4p(x0 x1 x2 x3 x4 x5:Int)(x6:Bool):(wX [.i x0,.i x1,.i x2,.i x3,.i x4,.i x5,.b x6]).run=some (0,[.i (chk x0 x1 x2 x3 x4 x5 x6)]):=by
 rw[qhU]
 simp only[q9v,q1J,qeA (qe2 _),gB,qkM (qe2 _),qeA (q9O _),qkM (q9O _),List.getD_cons_zero,PV.toB,if_true,Bool.not_eq_true',decide_eq_false_iff_not,qey,q6g]
 unfold chk
 cases x6<;>simp only[reduceCtorEq,if_true,if_false,false_and,true_and,or_false]<;>repeat' split
 all_goals first|rfl|omega
theorem q86(x0 x1 x2 x3 x4 x5:Int)(x6:Bool):(kH [.i x0,.i x1,.i x2,.i x3,.i x4,.i x5,.b x6]).run=some (0,[.i (chk x0 x1 x2 x3 x4 x5 x6)]):=by
 rw[qhF]
 simp only[q9v,q1J,qeA (q7L _ _),gB,qkM (q7L _ _),qeA (q9I _),qkM (q9I _),List.getD_cons_zero,PV.toB,if_true,Bool.not_eq_true',decide_eq_false_iff_not,qey,q6g]
 unfold chk
 cases x6<;>simp only[reduceCtorEq,if_true,if_false,false_and,true_and,or_false]<;>repeat' split
 all_goals first|rfl|omega
theorem qft{x0 x1 x2 x3 x4 x5:Int}{x6:Bool}(h:chk x0 x1 x2 x3 x4 x5 x6=0):-100000≤x0∧x0≤100000∧-100000≤x1∧x1≤100000∧1≤x2∧x2≤100000∧1≤x3∧x3≤100000∧x2≤x3∧0≤x4∧x4≤100000∧(x6=false→x4<x2)∧0≤x5∧x5≤2:=by
 unfold chk at h
 repeat' split at h
 all_goals first|omega|skip
 rename_i h1 h2 h3 h4
 cases x6<;>simp at h3 ⊢<;>omega
def side(x5:Int)(x6:Bool):Int:=if (x5=2)=(x6=true) then -1 else 1
theorem qpJ(x0 x1 x2 x3 x4 x5:Int)(x6:Bool)(h:0≤x5∧x5≤2):(q7p [.i x0,.i x1,.i x2,.i x3,.i x4,.i x5,.b x6]).run=some (0,[.i x0,.i x1,.i x2,.i x3,.i x4,.i x5,.b x6,.i (side x5 x6)]):=by
 rw[qm9]
 have h012:x5=0∨x5=1∨x5=2:=by omega
 cases x6<;>rcases h012 with rfl|rfl|rfl<;>rfl
theorem q36(x0 x1 x2 x3 x4 x5:Int)(x6:Bool)(x7 x8:Int):(vh [.i x0,.i x1,.i x2,.i x3,.i x4,.i x5,.b x6,.i x7,.i x8]).run=some (0,[.i (if x8<0 then x2 else x3)]):=by
 rw[q8Z]
 simp only[q9v,q1J,qey]
 split<;>rfl
theorem qgz(x0 x1 x2 x3 x4 x5:Int)(x6:Bool):(vk [.i x0,.i x1,.i x2,.i x3,.i x4,.i x5,.b x6]).run=some (0,if chk x0 x1 x2 x3 x4 x5 x6=0 then [.i (if (x5=2)=(x6=true) then x2-x4 else x3+x4),.i 0] else [.i 0,.i (chk x0 x1 x2 x3 x4 x5 x6)]):=by
 rw[qf7]
 simp only[q9v,q1J,gB,gI,List.getD_cons_zero,PV.toB,PV.toI,if_true,qji,qeA (q4p _ _ _ _ _ _ _),qkM (q4p _ _ _ _ _ _ _)]
 by_cases hc:chk x0 x1 x2 x3 x4 x5 x6=0
 ·obtain⟨h1,h2,h3,h4,h5,h6,h7,h8,h9,h10,h11,h12,h13,h14⟩:=qft hc
  have e:=qpJ x0 x1 x2 x3 x4 x5 x6 ⟨h13,h14⟩
  simp only[hc,ne_eq,not_true_eq_false,if_false,qeA e,qkM e,List.getD_cons_zero,List.getD_cons_succ,if_true,qeA (q36 _ _ _ _ _ _ _ _ _),qkM (q36 _ _ _ _ _ _ _ _ _)]
  clear e hc
  congr 4
  unfold side
  split
  ·have e1:yW .i64 (-1) x4=-1*x4:=q3z (by omega)
   have e2:ql .i64 x2 (-1*x4)=x2+-1*x4:=vC (by omega)
   rw[if_pos (show (-1:Int)<0 by decide),e1,e2];omega
  ·have e1:yW .i64 1 x4=1*x4:=q3z (by omega)
   have e2:ql .i64 x3 (1*x4)=x3+1*x4:=vC (by omega)
   rw[if_neg (show ¬(1:Int)<0 by decide),e1,e2];omega
 ·simp[hc]
end Go.Eng

namespace Go.Eng
def ext(x2 x3 x5:Int)(x6:Bool)(n:Int):Int:=if x5=0 then 0 else if (x5=1)=(x6=true) then x3-n else n-x2
theorem qhT(x0 x1 x2 x3 x4 x5:Int)(x6:Bool)(n:Int):(yj [.i x0,.i x1,.i x2,.i x3,.i x4,.i x5,.b x6,.i n]).run=some (0,[.b (decide (x2≤n∧n≤x3))]):=by
 rw[qgC];simp only[STD];by_cases h:x2≤n<;>simp[h,ile]
end Go.Eng

namespace Go.Eng
def qfN(a b c:Int):Int:=if -100000≤a∧a≤100000∧-100000≤b∧b≤100000∧1≤c∧c≤100000 then 0 else 2
theorem qep{a b c:Int}(h:qfN a b c=0):-100000≤a∧a≤100000∧-100000≤b∧b≤100000∧1≤c∧c≤100000:=by
 unfold qfN at h;split at h
 ·assumption
 ·omega
theorem qlu(a b c:Int):(q31 [.i a,.i b,.i c]).run=some (0,[.i (qfN a b c)]):=by
 rw[qjt];simp only[STD,qe2,q9O];unfold qfN
 repeat' split
 all_goals first|rfl|omega
theorem ql8(a b c:Int):(kv [.i a,.i b,.i c]).run=some (0,[.i (qfN a b c)]):=by
 rw[qiS];simp only[STD,q7L,q9I];unfold qfN
 repeat' split
 all_goals first|rfl|omega
def qk9(x0 x1 x2 x3 x4 x5:Int)(x6:Bool)(a b c:Int):Int:=if chk x0 x1 x2 x3 x4 x5 x6=0 then qfN a b c else chk x0 x1 x2 x3 x4 x5 x6
theorem qpI{x0 x1 x2 x3 x4 x5:Int}{x6:Bool}{a b c:Int}(h:qk9 x0 x1 x2 x3 x4 x5 x6 a b c=0):chk x0 x1 x2 x3 x4 x5 x6=0∧qfN a b c=0:=by
 unfold qk9 at h;split at h
 ·exact⟨by assumption,h⟩
 ·exact absurd h (by assumption)
theorem qeK(x0 x1 x2 x3 x4 x5:Int)(x6:Bool)(a b c:Int):(q33 [.i x0,.i x1,.i x2,.i x3,.i x4,.i x5,.b x6,.i a,.i b,.i c]).run=some (0,[.i (qk9 x0 x1 x2 x3 x4 x5 x6 a b c)]):=by
 rw[qjw];simp only[STD,q4p,qlu];unfold qk9
 by_cases hc:chk x0 x1 x2 x3 x4 x5 x6=0<;>simp[hc]
def sq2(u v:Int):Int:=u*u+v*v
theorem qfc(x0 x1 x2 x3 x4 x5:Int)(x6:Bool)(a b c:Int):(wE [.i x0,.i x1,.i x2,.i x3,.i x4,.i x5,.b x6,.i a,.i b,.i c]).run =
  some (0,if qk9 x0 x1 x2 x3 x4 x5 x6 a b c=0 then [.i (sq2 (a-x0) (b-x1)),.i 0] else [.i 0,.i (qk9 x0 x1 x2 x3 x4 x5 x6 a b c)]):=by
 rw[qe5]
 by_cases hc:qk9 x0 x1 x2 x3 x4 x5 x6 a b c=0
 ·obtain⟨c1,c2⟩:=qpI hc
  obtain⟨h1,h2,h3,h4,_⟩:=qft c1
  obtain⟨k1,k2,k3,k4,_⟩:=qep c2
  have e1:qE .i64 a x0=a-x0:=yE (by omega)
  have e2:qE .i64 b x1=b-x1:=yE (by omega)
  have b1:=qtG (a:=a-x0) (b:=a-x0) (A:=200000) (B:=200000) (by omega) (by omega) (by omega) (by omega)
  have b2:=qtG (a:=b-x1) (b:=b-x1) (A:=200000) (B:=200000) (by omega) (by omega) (by omega) (by omega)
  have e3:yW .i64 (a-x0) (a-x0)=(a-x0)*(a-x0):=q3z (by omega)
  have e4:yW .i64 (b-x1) (b-x1)=(b-x1)*(b-x1):=q3z (by omega)
  have e5:ql .i64 ((a-x0)*(a-x0)) ((b-x1)*(b-x1))=sq2 (a-x0) (b-x1):=vC (by omega)
  simp only[STD,qeK,hc,qlC,e1,e2,e3,e4,e5]
 ·simp[qeK,hc,STD]
end Go.Eng

namespace Go.Eng
def qpT(l:R)(i:Nat):Int:=chk (cI l i 0) (cI l i 1) (cI l i 2) (cI l i 3) (cI l i 4) (cI l i 5) (cB l i 6)
def qow(l:R)(i:Nat):Int:=qfN (cI l i 0) (cI l i 1) (cI l i 2)
end Go.Eng

namespace Go.Eng
def zD(x y n:Int):DQ:=⟨(x:Rat),(y:Rat),Rat.divInt n 2*Rat.divInt n 2⟩
theorem qvY(n:Int):Rat.divInt (n*n) 4=Rat.divInt n 2*Rat.divInt n 2:=by
 rw[Rat.divInt_mul_divInt];rfl
theorem qo7{x:Int}(h:-999999≤x∧x≤999999):nl x≤6:=by
 have:=qa3 (m:=x) (n:=999999) (by omega)
 have e:nl 999999=6:=by decide
 omega
theorem quN{x:Int}(h:-999999999999≤x∧x≤999999999999):nl x≤12:=by
 have:=qa3 (m:=x) (n:=999999999999) (by omega)
 have e:nl 999999999999=12:=by decide
 omega
theorem qsX{n:Int}(h:-999999≤n∧n≤999999):0≤n*n∧n*n≤999998000001:=by
 have b:=qtG (a:=n) (b:=n) (A:=999999) (B:=999999) (by omega) (by omega) (by omega) (by omega)
 refine⟨?_,by omega⟩
 rcases Int.le_total 0 n with h0|h0
 ·exact Int.mul_nonneg h0 h0
 ·exact Int.mul_nonneg_of_nonpos_of_nonpos h0 h0
theorem qrd{x:Int}(h:-999999≤x∧x≤999999):cls (x:Rat):=by
 refine .inl ⟨?_,by simp⟩
 have:=qo7 h
 unfold qn;simp;omega
theorem qlh{n:Int}(h:-999999≤n∧n≤999999):qvz (Rat.divInt n 2*Rat.divInt n 2):=by
 rw[←qvY]
 have r:=qsX h
 have e:Rat.divInt (n*n) 4=mkRat (n*n) 4:=rfl
 rw[e]
 have m:=q5R (n*n) 4
 have l:=quN (x:=n*n) (by omega)
 have d:dl 4=1:=by decide
 unfold qvz qn qd
 omega
theorem qvV{x y n:Int}(hx:-999999≤x∧x≤999999)(hy:-999999≤y∧y≤999999)(hn:-999999≤n∧n≤999999):GD (zD x y n):=
 ⟨qrd hx,qrd hy,qlh hn,qe9 _⟩
end Go.Eng

namespace Go.Eng
theorem ql6{m n:Int}(hn0:n≠0)(hm:okL m)(hn:okL n):(q39 [.s (tI m),.s (tI n)]).run=some (0,[.s (tQ (Rat.divInt m n)),.i 0]):=by
 rw[qk8]
 have key:=kZ (S:=uK) (fun i=>[.s (tI m),.s (tI n),.i 2,.i (i:Int),.r [[.s (tI m)],[.s (tI n)]]]) (0,[.s (tI m),.s (tI n)]) 2 (by omega) (fun i hi=>by
  rw[q9Y]
  rcases (show i=0∨i=1 by omega) with rfl|rfl
  ·have e:cS [[.s (tI m)],[.s (tI n)]] ((0:Nat):Int) 0=tI m:=rfl
   simp only[e,STD,q8g hm,show qh [[U.s (tI m)],[.s (tI n)]]=2 from rfl]
   rfl
  ·have e:cS [[.s (tI m)],[.s (tI n)]] ((1:Nat):Int) 0=tI n:=rfl
   simp only[e,STD,q8g hn,show qh [[U.s (tI m)],[.s (tI n)]]=2 from rfl]
   rfl) (by rw[q9Y];simp only[STD,show ((2:Nat):Int)=2 from rfl,show ¬(2:Int)<2 by omega])
 have key':(qw uK [.s (tI m),.s (tI n),.i (qh [[U.s (tI m)],[.s (tI n)]]),.i 0,.r [[.s (tI m)],[.s (tI n)]]]).run=some (0,[.s (tI m),.s (tI n)]):=key
 have z:(seq (tI n) [48]=true)=False:=by rw[vP,q2n];exact eq_false hn0
 simp only[STD,key',wI key',z,(qcJ hn0 hm hn).1]
theorem qpG{m n:Int}(hn0:n≠0)(hm:-999999999999999≤m∧m≤999999999999999)(hn:-999999999999999≤n∧n≤999999999999999):(q4I [.i m,.i n]).run=some (0,[.s (tQ (Rat.divInt m n)),.i 0]):=by
 have ok:∀k:Int,-999999999999999≤k∧k≤999999999999999→okL k:=fun k hk=>by
  have:=qa3 (m:=k) (n:=999999999999999) (by omega)
  have e:nl 999999999999999=15:=by decide
  unfold okL;omega
 rw[qmc]
 simp only[STD,q2z m (by omega),q2z n (by omega),ql6 hn0 (ok m hm) (ok n hn)]
theorem qcT{m:Int}(hm:-999999999999999≤m∧m≤999999999999999):(uc [.i m]).run=some (0,[.s (tQ (m:Rat))]):=by
 rw[qhE,qrM]
 simp only[STD,q2z m (by omega)]
def inR(x:Int):Prop:=-999999≤x∧x≤999999
theorem q0w(l:R):(qh l=0)=(l.length=0):=by unfold qh;exact propext ⟨fun h=>by omega,fun h=>by omega⟩
structure Rt (x0 x1:R):Prop where
 n:x0.length≤16
 e:x1.length=x0.length
 ne:x0.length≠0
 t:∀i,i<x0.length→qpT x0 i=0
 r:∀i,i<x0.length→qow x1 i=0
 i:∀i:Nat,i<x0.length→cI x0 i 2≤cI x1 i 2∧cI x1 i 2≤cI x0 i 3
end Go.Eng

namespace Go.Eng
def qbx(x0 x1:R)(i:Nat):Int:=
 if qpT x0 i=0 then (if qpT x1 i=0 then (if cI x0 i 5=1∧cI x1 i 5=1 then (if (cI x0 i 0=cI x1 i 0∧cI x0 i 1=cI x1 i 1)∧cB x0 i 6≠cB x1 i 6 then 0 else 16) else 14) else qpT x1 i) else qpT x0 i
theorem qoR{x0 x1:R}{i:Nat}(h:qbx x0 x1 i=0):qpT x0 i=0∧qpT x1 i=0∧(cI x0 i 5=1∧cI x1 i 5=1)∧(cI x0 i 0=cI x1 i 0∧cI x0 i 1=cI x1 i 1)∧cB x0 i 6≠cB x1 i 6:=by
 unfold qbx at h
 split at h
 ·rename_i h1
  split at h
  ·rename_i h2
   split at h
   ·rename_i h3
    split at h
    ·rename_i h4;exact⟨h1,h2,h3,h4.1,h4.2⟩
    ·omega
   ·omega
  ·rename_i h2;exact absurd h h2
 ·rename_i h1;exact absurd h h1
def q25(x0 x1:R):Int:=if x0.length=0 then 13 else if 16<x0.length then 5 else if x1.length=x0.length then q2c (qbx x0 x1) x0.length else 8
structure Jt (x0 x1:R):Prop where
 n:x0.length≤16
 ne:x0.length≠0
 e:x1.length=x0.length
 p:∀i,i<x0.length→qbx x0 x1 i=0
theorem q4T{x0 x1:R}(h:q25 x0 x1=0):Jt x0 x1:=by
 unfold q25 at h
 split at h
 ·omega
 ·rename_i h1
  split at h
  ·omega
  ·rename_i h2
   split at h
   ·rename_i h3;exact⟨by omega,h1,h3,fun i hi=>qgF h i hi⟩
   ·omega
theorem qfO{x0 x1:R}(h:Jt x0 x1):q25 x0 x1=0:=by
 unfold q25
 rw[if_neg h.ne,if_neg (by have:=h.n;omega),if_pos h.e,qfL h.p]
def gau(l:R)(i:Nat):Int:=if cB l i 6=true then cI l i 3+cI l i 4 else cI l i 2-cI l i 4
theorem quE{l:R}{i:Nat}(h:cI l i 5=1):(if (cI l i 5=2)=(cB l i 6=true) then cI l i 2-cI l i 4 else cI l i 3+cI l i 4)=gau l i:=by
 unfold gau
 rw[h]
 cases cB l i 6<;>simp
def mgA(x0 x1:R)(i:Nat):Int:=if cB x0 i 6=true then gau x1 i-gau x0 i else gau x0 i-gau x1 i
def mgL(x0 x1:R)(n:Nat):R:=qrW (fun i=>[.i (mgA x0 x1 i)]) n
def qj3(x0 x1:R):Bool:=decide (∀i,i<x0.length→0≤mgA x0 x1 i)
def qm2(l c:R)(i:Nat):Prop:=cI l i 2≤cI c i 2∧cI c i 2≤cI l i 3
instance (l c:R) (i:Nat):Decidable (qm2 l c i):=inferInstanceAs (Decidable (_∧_))
def qrn(x0 x1 x2 x3:R)(i:Nat):Int:=if qow x2 i=0 then (if qow x3 i=0 then (if qm2 x0 x2 i∧qm2 x1 x3 i then 0 else 14) else qow x3 i) else qow x2 i
theorem qq7{x0 x1 x2 x3:R}{i:Nat}(h:qrn x0 x1 x2 x3 i=0):qow x2 i=0∧qow x3 i=0∧qm2 x0 x2 i∧qm2 x1 x3 i:=by
 unfold qrn at h
 split at h
 ·rename_i h1
  split at h
  ·rename_i h2
   split at h
   ·rename_i h3;exact⟨h1,h2,h3⟩
   ·omega
  ·rename_i h2;exact absurd h h2
 ·rename_i h1;exact absurd h h1
def qpF(x0 x1 x2 x3:R):Int:=if q25 x0 x1=0 then (if x2.length=x0.length∧x3.length=x1.length then q2c (qrn x0 x1 x2 x3) x0.length else 8) else q25 x0 x1
structure Gv (x0 x1 x2 x3:R):Prop where
 j:Jt x0 x1
 e2:x2.length=x0.length
 e3:x3.length=x0.length
 g:∀i,i<x0.length→qrn x0 x1 x2 x3 i=0
theorem qlw{x0 x1 x2 x3:R}(h:qpF x0 x1 x2 x3=0):Gv x0 x1 x2 x3:=by
 unfold qpF at h
 split at h
 ·rename_i h1
  have j:=q4T h1
  split at h
  ·rename_i h2;exact⟨j,h2.1,h2.2.trans j.e,fun i hi=>qgF h i hi⟩
  ·omega
 ·rename_i h1;exact absurd h h1
theorem qul{x0 x1 x2 x3:R}(h:Gv x0 x1 x2 x3):qpF x0 x1 x2 x3=0:=by
 unfold qpF
 rw[if_pos (qfO h.j),if_pos ⟨h.e2,h.e3.trans h.j.e.symm⟩,qfL h.g]
def qbZ(x0 x2 x3:R)(i:Nat):Int:=if cB x0 i 6=true then cI x3 i 2-cI x2 i 2 else cI x2 i 2-cI x3 i 2
def zA(x0 x2 x3:R)(i:Nat):DQ:=zD (cI x3 i 0-cI x2 i 0) (cI x3 i 1-cI x2 i 1) (qbZ x0 x2 x3 i)
def zAT(x0 x2 x3:R)(k:Nat):List DQ:=(List.range k).map (zA x0 x2 x3)
theorem qs9(x0 x2 x3:R)(k:Nat):zAT x0 x2 x3 (k+1)=zAT x0 x2 x3 k++[zA x0 x2 x3 k]:=by unfold zAT;rw[List.range_succ,List.map_append];rfl
theorem qm6(x0 x2 x3:R)(k:Nat):(zAT x0 x2 x3 k).length=k:=by simp[zAT]
def qb7(x0 x2 x3:R):Option Nat:=q2a (fun i=>if qbZ x0 x2 x3 i<0 then some i else none) 0 x0.length
structure GvN (x0 x2 x3:R) (i:Nat):Prop where
 ax:-100000≤cI x2 i 0∧cI x2 i 0≤100000
 ay:-100000≤cI x2 i 1∧cI x2 i 1≤100000
 sa:1≤cI x2 i 2∧cI x2 i 2≤100000
 bx:-100000≤cI x3 i 0∧cI x3 i 0≤100000
 by_:-100000≤cI x3 i 1∧cI x3 i 1≤100000
 sb:1≤cI x3 i 2∧cI x3 i 2≤100000
 pl:-100000≤qbZ x0 x2 x3 i∧qbZ x0 x2 x3 i≤100000
theorem Gv.num{x0 x1 x2 x3:R}(h:Gv x0 x1 x2 x3){i:Nat}(hi:i<x0.length):GvN x0 x2 x3 i:=by
 obtain⟨h1,h2,_,_⟩:=qq7 (h.g i hi)
 obtain⟨a1,a2,a3,a4,a5,a6⟩:=qep h1
 obtain⟨b1,b2,b3,b4,b5,b6⟩:=qep h2
 refine⟨⟨a1,a2⟩,⟨a3,a4⟩,⟨a5,a6⟩,⟨b1,b2⟩,⟨b3,b4⟩,⟨b5,b6⟩,?_⟩
 unfold qbZ;split<;>omega
theorem Gv.gd{x0 x1 x2 x3:R}(h:Gv x0 x1 x2 x3){i:Nat}(hi:i<x0.length):GD (zA x0 x2 x3 i):=by
 have n:=h.num hi
 obtain⟨n1,n2,n3,n4,n5,n6,n7⟩:=n
 exact qvV (by omega) (by omega) (by omega)
theorem Gv.gds{x0 x1 x2 x3:R}(h:Gv x0 x1 x2 x3):GDs (zAT x0 x2 x3 x0.length):=fun d hd=>by
 obtain⟨i,hi,rfl⟩:=List.mem_map.1 hd
 exact h.gd (List.mem_range.1 hi)
theorem Gv.nez{x0 x1 x2 x3:R}(h:Gv x0 x1 x2 x3):zAT x0 x2 x3 x0.length≠[]:=by
 intro e
 have:=congrArg List.length e
 rw[qm6] at this
 exact h.j.ne this
theorem Gv.nn{x0 x1 x2 x3:R}(h:Gv x0 x1 x2 x3):∀d∈zAT x0 x2 x3 x0.length,0≤d.s:=fun d hd=>(h.gds d hd).nn
theorem qiA{x0 x2 x3:R}:qb7 x0 x2 x3=none↔∀i,i<x0.length→0≤qbZ x0 x2 x3 i:=by
 unfold qb7
 constructor
 ·intro h i hi
  have:=q4V h i (by omega) (by omega)
  split at this
  ·cases this
  ·omega
 ·intro h
  rw[qaB (g:=fun _=>none) (fun j _ hj=>by rw[if_neg (by have:=h j (by omega);omega)]),qlf]
end Go.Eng

namespace Go.Eng
theorem qkU{p:Nat→Bool}:∀{n:Nat},(qh (pick p n)=0)↔∀i,i<n→p i=false
 | 0=>by simp[pick,qh]
 | n+1=>by
  have ih:=qkU (p:=p) (n:=n)
  unfold pick
  by_cases hp:p n=true
  ·rw[if_pos hp]
   constructor
   ·intro h;unfold qh q2g at h;simp at h;omega
   ·intro h;rw[h n (by omega)] at hp;cases hp
  ·have hp':p n=false:=by simpa using hp
   rw[if_neg hp,ih]
   constructor
   ·intro h i hi
    rcases Nat.lt_or_ge i n with h'|h'
    ·exact h i h'
    ·obtain rfl:i=n:=by omega
     exact hp'
   ·intro h i hi;exact h i (by omega)
def qsi(a0 a1 a2 a3 a4 a5:Int)(a6:Bool)(b0 b1 b2 b3 b4 b5:Int)(b6:Bool):Int:=
 if chk a0 a1 a2 a3 a4 a5 a6=0 then (if chk b0 b1 b2 b3 b4 b5 b6=0 then (if a5=1∧b5=1 then (if (a0=b0∧a1=b1)∧a6≠b6 then 0 else 16) else 14) else chk b0 b1 b2 b3 b4 b5 b6) else chk a0 a1 a2 a3 a4 a5 a6
theorem qpC(e:Nat→Int):q2c e 2=if e 0=0 then e 1 else e 0:=by
 unfold q2c q2a q2a q2a qf9
 by_cases h0:e 0=0
 ·by_cases h1:e 1=0<;>simp[h0,h1]
 ·simp[h0]
theorem qgh(a0 a1 a2 a3 a4 a5:Int)(a6:Bool)(b0 b1 b2 b3 b4 b5:Int)(b6:Bool) :
  (yM [.i a0,.i a1,.i a2,.i a3,.i a4,.i a5,.b a6,.i b0,.i b1,.i b2,.i b3,.i b4,.i b5,.b b6]).run=some (0,[.i (qsi a0 a1 a2 a3 a4 a5 a6 b0 b1 b2 b3 b4 b5 b6)]):=by
 rw[qfg]
 have key:=qai (S:=j7) (fun i=>[.i 2,.i (i:Int),.i a0,.i a1,.i a2,.i a3,.i a4,.i a5,.b a6,.i b0,.i b1,.i b2,.i b3,.i b4,.i b5,.b b6,.r [[.i a0,.i a1,.i a2,.i a3,.i a4,.i a5,.b a6],[.i b0,.i b1,.i b2,.i b3,.i b4,.i b5,.b b6]]])
  (fun i=>if i=0 then chk a0 a1 a2 a3 a4 a5 a6 else chk b0 b1 b2 b3 b4 b5 b6) [] [.i a0,.i a1,.i a2,.i a3,.i a4,.i a5,.b a6,.i b0,.i b1,.i b2,.i b3,.i b4,.i b5,.b b6] 2 (by omega) (fun i hi=>by
  rw[q65]
  simp only[q4p,STD]
  rcases (show i=0∨i=1 by omega) with rfl|rfl
  ·rw[if_pos (show ((0:Nat):Int)<2 by omega),if_pos (show (0:Int)≤((0:Nat):Int)∧((0:Nat):Int)<qh [[U.i a0,.i a1,.i a2,.i a3,.i a4,.i a5,.b a6],[.i b0,.i b1,.i b2,.i b3,.i b4,.i b5,.b b6]] from⟨by omega,by show (0:Int)<2;omega⟩)]
   by_cases hc:chk a0 a1 a2 a3 a4 a5 a6=0
   ·rw[if_pos (show (if (0:Nat)=0 then chk a0 a1 a2 a3 a4 a5 a6 else chk b0 b1 b2 b3 b4 b5 b6)=0 from hc)]
    exact if_neg (fun h=>h hc)
   ·rw[if_neg (show ¬(if (0:Nat)=0 then chk a0 a1 a2 a3 a4 a5 a6 else chk b0 b1 b2 b3 b4 b5 b6)=0 from hc)]
    exact if_pos hc
  ·rw[if_pos (show ((1:Nat):Int)<2 by omega),if_pos (show (0:Int)≤((1:Nat):Int)∧((1:Nat):Int)<qh [[U.i a0,.i a1,.i a2,.i a3,.i a4,.i a5,.b a6],[.i b0,.i b1,.i b2,.i b3,.i b4,.i b5,.b b6]] from⟨by omega,by show (1:Int)<2;omega⟩)]
   by_cases hc:chk b0 b1 b2 b3 b4 b5 b6=0
   ·rw[if_pos (show (if (1:Nat)=0 then chk a0 a1 a2 a3 a4 a5 a6 else chk b0 b1 b2 b3 b4 b5 b6)=0 from hc)]
    exact if_neg (fun h=>h hc)
   ·rw[if_neg (show ¬(if (1:Nat)=0 then chk a0 a1 a2 a3 a4 a5 a6 else chk b0 b1 b2 b3 b4 b5 b6)=0 from hc)]
    exact if_pos hc) (by rw[q65];simp only[STD,show ¬(((2:Nat):Int)<2) by omega])
 rw[qpC] at key
 simp only[show ((1:Nat)=0)=False by simp,if_true,if_false] at key
 have key':(qw j7 [.i (qh [[U.i a0,.i a1,.i a2,.i a3,.i a4,.i a5,.b a6],[.i b0,.i b1,.i b2,.i b3,.i b4,.i b5,.b b6]]),.i 0,.i a0,.i a1,.i a2,.i a3,.i a4,.i a5,.b a6,.i b0,.i b1,.i b2,.i b3,.i b4,.i b5,.b b6,.r [[.i a0,.i a1,.i a2,.i a3,.i a4,.i a5,.b a6],[.i b0,.i b1,.i b2,.i b3,.i b4,.i b5,.b b6]]]).run=_:=key
 unfold qsi
 by_cases ha:chk a0 a1 a2 a3 a4 a5 a6=0
 ·by_cases hb:chk b0 b1 b2 b3 b4 b5 b6=0
  ·simp only[ha,hb,if_true] at key'
   simp only[STD,key',wI key',ha,hb]
   by_cases c1:a5=1<;>by_cases c2:b5=1<;>by_cases c3:a0=b0<;>by_cases c4:a1=b1<;>by_cases c5:a6=b6<;>simp[c1,c2,c3,c4,c5]
  ·simp only[ha,hb,if_true,if_false] at key'
   simp only[STD,key',wI key',ha,hb]
   rfl
 ·simp only[ha,if_false] at key'
  simp only[STD,key',wI key',ha]
  rfl
theorem qlM(a0 a1 a2 a3 a4 a5:Int)(a6:Bool)(b0 b1 b2 b3 b4 b5:Int)(b6:Bool) :
  (q1n [.i a0,.i a1,.i a2,.i a3,.i a4,.i a5,.b a6,.i b0,.i b1,.i b2,.i b3,.i b4,.i b5,.b b6]).run=some (0,[.i (qsi a0 a1 a2 a3 a4 a5 a6 b0 b1 b2 b3 b4 b5 b6)]):=by
 rw[qjm]
 unfold qsi
 by_cases ha:chk a0 a1 a2 a3 a4 a5 a6=0
 ·by_cases hb:chk b0 b1 b2 b3 b4 b5 b6=0
  ·simp only[STD,q86,ha,hb]
   by_cases c1:a5=1<;>by_cases c2:b5=1<;>by_cases c3:a0=b0<;>by_cases c4:a1=b1<;>by_cases c5:a6=b6<;>simp[c1,c2,c3,c4,c5]
  ·simp only[STD,q86,ha,hb]
 ·simp only[STD,q86,ha]
theorem q1X(l m:R):(qh l=qh m)=(l.length=m.length):=by unfold qh;exact propext ⟨fun h=>by omega,fun h=>by omega⟩
theorem qrO(l:R)(n:Nat):((n:Int)<qh l)=(n<l.length):=by unfold qh;exact propext ⟨fun h=>by omega,fun h=>by omega⟩
theorem vG(x0 x1:R)(h:x0.length<9223372036854775808):(zU [.r x0,.r x1]).run=some (0,[.i (q25 x0 x1)]):=by
 rw[qec]
 unfold q25
 have g:=qrO x0 16
 simp only[show ((16:Nat):Int)=16 from rfl] at g
 by_cases h0:x0.length=0
 ·simp only[STD,q0w,h0]
 by_cases h1:16<x0.length
 ·simp only[STD,q0w,h0,g,h1]
 by_cases h2:x1.length=x0.length
 ·have key:=qai (S:=jg) (fun i=>[.i (qh x0),.i (i:Int),.r x0,.r x1]) (qbx x0 x1) [] [] x0.length h (fun i hi=>by
   rw[q3K]
   have a1:(i:Int)<qh x0:=by unfold qh;omega
   have a2:(i:Int)<qh x1:=by unfold qh;omega
   simp only[STD,a1,a2,q3g,and_self,qaU hi h,qgh]
   show (if ¬qbx x0 x1 i=0 then some (2,[PV.i (qbx x0 x1 i)]) else _)=_
   by_cases c:qbx x0 x1 i=0
   ·rw[if_neg (fun z=>z c),if_pos c]
   ·rw[if_pos c,if_neg c]) (by
   rw[q3K]
   simp only[STD,show ¬((x0.length:Int)<qh x0) by unfold qh;omega])
  simp only[show (((0:Nat)):Int)=0 from rfl] at key
  by_cases c:q2c (qbx x0 x1) x0.length=0
  ·rw[if_pos c] at key
   simp only[STD,q0w,h0,g,h1,q1X,h2,key,wI key,c]
  ·rw[if_neg c] at key
   simp only[STD,q0w,h0,g,h1,q1X,h2,key,wI key]
   rfl
 ·simp only[STD,q0w,h0,g,h1,q1X,h2,show ¬(x0.length=x1.length) from fun e=>h2 e.symm]
theorem q1w(x0 x1:R)(h:x0.length<9223372036854775808):(kQ [.r x0,.r x1]).run=some (0,[.i (q25 x0 x1)]):=by
 rw[qi0]
 unfold q25
 have g:=qrO x0 16
 simp only[show ((16:Nat):Int)=16 from rfl] at g
 by_cases h0:x0.length=0
 ·simp only[STD,q0w,h0]
 by_cases h1:16<x0.length
 ·simp only[STD,q0w,h0,g,h1]
 by_cases h2:x1.length=x0.length
 ·have key:=qai (S:=uy) (fun i=>[.i (i:Int),.r x0,.r x1]) (qbx x0 x1) [] [] x0.length h (fun i hi=>by
   rw[q7t]
   have a1:(i:Int)<qh x0:=by unfold qh;omega
   have a2:(i:Int)<qh x1:=by unfold qh;omega
   simp only[STD,a1,a2,q3g,and_self,qaU hi h,qlM]
   show (if ¬qbx x0 x1 i=0 then some (2,[PV.i (qbx x0 x1 i)]) else _)=_
   by_cases c:qbx x0 x1 i=0
   ·rw[if_neg (fun z=>z c),if_pos c]
   ·rw[if_pos c,if_neg c]) (by
   rw[q7t]
   simp only[STD,show ¬((x0.length:Int)<qh x0) by unfold qh;omega])
  simp only[show (((0:Nat)):Int)=0 from rfl] at key
  by_cases c:q2c (qbx x0 x1) x0.length=0
  ·rw[if_pos c] at key
   simp only[STD,q0w,h0,g,h1,q1X,h2,key,wI key,c]
  ·rw[if_neg c] at key
   simp only[STD,q0w,h0,g,h1,q1X,h2,key,wI key]
   rfl
 ·simp only[STD,q0w,h0,g,h1,q1X,h2]
structure JtN (x0 x1:R) (i:Nat):Prop where
 ga:-100000≤gau x0 i∧gau x0 i≤200000
 gb:-100000≤gau x1 i∧gau x1 i≤200000
 t0:qpT x0 i=0
 t1:qpT x1 i=0
 m0:cI x0 i 5=1
 m1:cI x1 i 5=1
theorem Jt.num{x0 x1:R}(h:Jt x0 x1){i:Nat}(hi:i<x0.length):JtN x0 x1 i:=by
 obtain⟨t0,t1,⟨m0,m1⟩,_,_⟩:=qoR (h.p i hi)
 obtain⟨a1,a2,a3,a4,a5,a6,a7,a8,a9,a10,a11,_⟩:=qft t0
 obtain⟨b1,b2,b3,b4,b5,b6,b7,b8,b9,b10,b11,_⟩:=qft t1
 refine⟨?_,?_,t0,t1,m0,m1⟩<;>unfold gau<;>split<;>omega
def qrj(x0 x1:R):List PV:=if q25 x0 x1=0 then [.r (mgL x0 x1 x0.length),.i 0] else [.r [],.i (q25 x0 x1)]
theorem qkB{l:R}{i:Nat}(ht:qpT l i=0)(hm:cI l i 5=1):(vk [.i (cI l i 0),.i (cI l i 1),.i (cI l i 2),.i (cI l i 3),.i (cI l i 4),.i (cI l i 5),.b (cB l i 6)]).run=some (0,[.i (gau l i),.i 0]):=by
 rw[qgz]
 have t:chk (cI l i 0) (cI l i 1) (cI l i 2) (cI l i 3) (cI l i 4) (cI l i 5) (cB l i 6)=0:=ht
 rw[if_pos t,quE hm]
theorem qju{l:R}{n:Nat}(h:l.length≤n)(hn:n≤1000000)(x:U):qh l+qh [[x]]≤17592186044416:=by
 rw[qsD];unfold qh;omega
theorem qdg(x0 x1:R)(h:x0.length<9223372036854775808):(jx [.r x0,.r x1]).run=some (0,qrj x0 x1):=by
 rw[qbt]
 unfold qrj
 by_cases hc:q25 x0 x1=0
 ·have j:=q4T hc
  have hn:=j.n
  have key:=kZ (S:=wA) (fun i=>[.r x0,.i (qh x0),.i (i:Int),.r x0,.r x1,.r (mgL x0 x1 i)]) (0,[.r (mgL x0 x1 x0.length)]) x0.length h (fun i hi=>by
   rw[q3e]
   have a1:(i:Int)<qh x0:=by unfold qh;omega
   have a2:(i:Int)<qh x1:=by unfold qh;have:=j.e;omega
   have n:=j.num hi
   obtain⟨n1,n2,n3,n4,n5,n6⟩:=n
   have v0:=qkB n3 n5
   have v1:=qkB n4 n6
   have w0:ql .i64 0 0=0:=by decide
   have w1:qE .i64 (gau x0 i) (gau x1 i)=gau x0 i-gau x1 i:=yE (by omega)
   have w2:qE .i64 (gau x1 i) (gau x0 i)=gau x1 i-gau x0 i:=yE (by omega)
   have room:=fun x=>qju (l:=mgL x0 x1 i) (n:=16) (by unfold mgL;rw[qiZ];omega) (by omega) x
   simp only[STD,a1,a2,q3g,and_self,v0,v1,w0,w1,w2,qaU hi h,room]
   have m:q2g (mgL x0 x1 i) [[.i (mgA x0 x1 i)]]=mgL x0 x1 (i+1):=qlT _ i
   rw[←m]
   unfold mgA
   cases cB x0 i 6<;>rfl) (by
   rw[q3e]
   simp only[STD,show ¬((x0.length:Int)<qh x0) by unfold qh;omega])
  have key':(qw wA [.r x0,.i (qh x0),.i 0,.r x0,.r x1,.r []]).run=some (0,[.r (mgL x0 x1 x0.length)]):=key
  simp only[STD,vG x0 x1 h,hc,key',wI key']
 ·simp only[STD,vG x0 x1 h,hc]
theorem qbp(l:R)(h:l.length≤1000000):(qM [.r l]).run=some (0,[.r (pick (fun i=>decide (cI l i 0<0)) l.length)]):=by
 rw[q7j]
 have key:=kZ (S:=zb) (fun i=>[.r l,.i (qh l),.i (i:Int),.r (pick (fun i=>decide (cI l i 0<0)) i)]) (0,[.r (pick (fun i=>decide (cI l i 0<0)) l.length)]) l.length (by omega) (fun i hi=>by
  rw[q0c]
  have a1:(i:Int)<qh l:=by unfold qh;omega
  have pl:=qnW (fun i=>decide (cI l i 0<0)) i
  have room:=qju (l:=pick (fun i=>decide (cI l i 0<0)) i) (n:=i) pl (by omega) (.i (i:Int))
  simp only[STD,a1,q3g,and_self,qaT,qaU hi (by omega),room,pick]
  by_cases c:cI l i 0<0
  ·simp only[c,if_true]
  ·simp only[c,if_false]) (by
  rw[q0c]
  simp only[STD,show ¬((l.length:Int)<qh l) by unfold qh;omega])
 have key':(qw zb [.r l,.i (qh l),.i 0,.r []]).run=some (0,[.r (pick (fun i=>decide (cI l i 0<0)) l.length)]):=key
 simp only[STD,key']
def qsf(x0 x1:R):List PV:=if q25 x0 x1=0 then [.b (qj3 x0 x1),.i 0] else [.b false,.i (q25 x0 x1)]
theorem qql(x0 x1:R)(n:Nat):(mgL x0 x1 n).length=n:=by unfold mgL;exact qiZ _ _
theorem qtx(x0 x1:R){n i:Nat}(h:i<n):cI (mgL x0 x1 n) i 0=mgA x0 x1 i:=by unfold mgL;rw[qq4 _ h];rfl
theorem qrG(x0 x1:R):ieq (qh (pick (fun i=>decide (cI (mgL x0 x1 x0.length) i 0<0)) x0.length)) 0=qj3 x0 x1:=by
 unfold ieq qj3
 rw[Bool.eq_iff_iff,beq_iff_eq,qkU,decide_eq_true_iff]
 constructor
 ·intro hh i hi
  have:=hh i hi
  rw[decide_eq_false_iff_not,qtx x0 x1 hi] at this
  omega
 ·intro hh i hi
  have:=hh i hi
  rw[decide_eq_false_iff_not,qtx x0 x1 hi]
  omega
theorem q4M(x0 x1:R)(h:x0.length<9223372036854775808):(vl [.r x0,.r x1]).run=some (0,qsf x0 x1):=by
 rw[qfa]
 unfold qsf
 have m:=qdg x0 x1 h
 unfold qrj at m
 by_cases hc:q25 x0 x1=0
 ·have j:=q4T hc
  rw[if_pos hc] at m
  have f:=qbp (mgL x0 x1 x0.length) (by rw[qql];have:=j.n;omega)
  rw[qql] at f
  simp only[STD,m,hc,f]
  rw[qrG]
 ·rw[if_neg hc] at m
  simp only[STD,m,hc]
end Go.Eng

namespace Go.Eng
theorem qss(l c:R)(i:Nat)(x y:Int):(wO [.i (cI l i 0),.i (cI l i 1),.i (cI l i 2),.i (cI l i 3),.i (cI l i 4),.i (cI l i 5),.b (cB l i 6),.i x,.i y,.i (cI c i 2)]).run=some (0,[.b (decide (qm2 l c i))]):=by
 rw[qdd]
 unfold qm2
 by_cases h1:cI l i 2≤cI c i 2
 ·by_cases h2:cI c i 2≤cI l i 3
  ·simp only[STD,h1,h2,and_self,decide_true]
   rw[show ile (cI c i 2) (cI l i 3)=true from by simp[ile,h2]]
  ·simp only[STD,h1,h2,and_false,decide_false]
   rw[show ile (cI c i 2) (cI l i 3)=false from by simp[ile];omega]
 ·simp only[STD,h1,false_and,decide_false]
theorem qti{l c:R}{i:Nat}(ht:qpT l i=0):∃d,(wE [.i (cI l i 0),.i (cI l i 1),.i (cI l i 2),.i (cI l i 3),.i (cI l i 4),.i (cI l i 5),.b (cB l i 6),.i (cI c i 0),.i (cI c i 1),.i (cI c i 2)]).run=some (0,[.i d,.i (qow c i)]):=by
 rw[qfc]
 have t:chk (cI l i 0) (cI l i 1) (cI l i 2) (cI l i 3) (cI l i 4) (cI l i 5) (cB l i 6)=0:=ht
 have e:qk9 (cI l i 0) (cI l i 1) (cI l i 2) (cI l i 3) (cI l i 4) (cI l i 5) (cB l i 6) (cI c i 0) (cI c i 1) (cI c i 2)=qow c i:=by unfold qk9;rw[if_pos t];rfl
 rw[e]
 by_cases hr:qow c i=0
 ·rw[if_pos hr];exact⟨_,by rw[hr]⟩
 ·rw[if_neg hr];exact⟨_,rfl⟩
theorem q2i(x0 x1 x2 x3:R)(h:x0.length<9223372036854775808):(yF [.r x0,.r x1,.r x2,.r x3]).run=some (0,[.i (qpF x0 x1 x2 x3)]):=by
 rw[qdw]
 unfold qpF
 by_cases hc:q25 x0 x1=0
 ·have j:=q4T hc
  have je:=j.e
  by_cases h2:x2.length=x0.length
  ·by_cases h3:x3.length=x1.length
   ·have key:=qai (S:=vH) (fun i=>[.i (qh x0),.i (i:Int),.r x0,.r x1,.r x2,.r x3]) (qrn x0 x1 x2 x3) [] [] x0.length h (fun i hi=>by
     rw[q3d]
     have a0:(i:Int)<qh x0:=by unfold qh;omega
     have a1:(i:Int)<qh x1:=by unfold qh;omega
     have a2:(i:Int)<qh x2:=by unfold qh;omega
     have a3:(i:Int)<qh x3:=by unfold qh;omega
     have n:=j.num hi
     obtain⟨d0,v0⟩:=qti (c:=x2) n.t0
     obtain⟨d1,v1⟩:=qti (c:=x3) n.t1
     simp only[STD,a0,a1,a2,a3,q3g,and_self,v0,v1,qss,qaU hi h]
     unfold qrn
     by_cases c1:qow x2 i=0
     ·by_cases c2:qow x3 i=0
      ·by_cases c3:qm2 x0 x2 i
       ·by_cases c4:qm2 x1 x3 i<;>simp[c1,c2,c3,c4]
       ·simp[c1,c2,c3]
      ·simp[c1,c2]
     ·simp[c1]) (by
     rw[q3d]
     simp only[STD,show ¬((x0.length:Int)<qh x0) by unfold qh;omega])
    simp only[show (((0:Nat)):Int)=0 from rfl] at key
    by_cases c:q2c (qrn x0 x1 x2 x3) x0.length=0
    ·rw[if_pos c] at key
     simp only[STD,vG x0 x1 h,hc,q1X,h2,h3,key,wI key,c,and_self]
    ·rw[if_neg c] at key
     simp only[STD,vG x0 x1 h,hc,q1X,h2,h3,key,wI key,and_self]
     rfl
   ·simp only[STD,vG x0 x1 h,hc,q1X,h2,h3,and_false]
  ·simp only[STD,vG x0 x1 h,hc,q1X,h2,false_and]
 ·simp only[STD,vG x0 x1 h,hc]
theorem qcC(x0 x1 x2 x3:R)(h:x0.length<9223372036854775808):(ud [.r x0,.r x1,.r x2,.r x3]).run=some (0,[.i (qpF x0 x1 x2 x3)]):=by
 rw[qhK]
 unfold qpF
 by_cases hc:q25 x0 x1=0
 ·have j:=q4T hc
  have je:=j.e
  by_cases h2:x2.length=x0.length
  ·by_cases h3:x3.length=x1.length
   ·have key:=qai (S:=uw) (fun i=>[.i (i:Int),.r x0,.r x1,.r x2,.r x3]) (qrn x0 x1 x2 x3) [] [] x0.length h (fun i hi=>by
     rw[q6V]
     have a0:(i:Int)<qh x0:=by unfold qh;omega
     have a1:(i:Int)<qh x1:=by unfold qh;omega
     have a2:(i:Int)<qh x2:=by unfold qh;omega
     have a3:(i:Int)<qh x3:=by unfold qh;omega
     simp only[STD,a0,a1,a2,a3,q3g,and_self,ql8,qhT,qaU hi h]
     unfold qrn qm2 qow
     by_cases c1:qfN (cI x2 i 0) (cI x2 i 1) (cI x2 i 2)=0
     ·by_cases c2:qfN (cI x3 i 0) (cI x3 i 1) (cI x3 i 2)=0
      ·by_cases c3:cI x0 i 2≤cI x2 i 2∧cI x2 i 2≤cI x0 i 3
       ·by_cases c4:cI x1 i 2≤cI x3 i 2∧cI x3 i 2≤cI x1 i 3
        ·simp only[c1,c2,c3,c4,and_self,not_true_eq_false,if_false,if_true]
        ·simp only[c1,c2,c3,c4,and_self,and_false,not_true_eq_false,not_false_eq_true,if_false,if_true];rfl
       ·simp only[c1,c2,c3,false_and,not_true_eq_false,not_false_eq_true,if_false,if_true];rfl
      ·simp only[c1,c2,not_true_eq_false,not_false_eq_true,if_false,if_true]
     ·simp only[c1,not_false_eq_true,if_false,if_true]) (by
     rw[q6V]
     simp only[STD,show ¬((x0.length:Int)<qh x2) by unfold qh;omega])
    simp only[show (((0:Nat)):Int)=0 from rfl] at key
    by_cases c:q2c (qrn x0 x1 x2 x3) x0.length=0
    ·rw[if_pos c] at key
     simp only[STD,q1w x0 x1 h,hc,q1X,h2,h3,key,wI key,c,and_self]
    ·rw[if_neg c] at key
     simp only[STD,q1w x0 x1 h,hc,q1X,h2,h3,key,wI key,and_self]
     rfl
   ·simp only[STD,q1w x0 x1 h,hc,q1X,h2,h3,and_false]
  ·simp only[STD,q1w x0 x1 h,hc,q1X,h2,false_and]
 ·simp only[STD,q1w x0 x1 h,hc]
def plL(x0 x2 x3:R)(n:Nat):R:=qrW (fun i=>[.i (qbZ x0 x2 x3 i)]) n
theorem qge(x0 x2 x3:R)(n:Nat):(plL x0 x2 x3 n).length=n:=by unfold plL;exact qiZ _ _
theorem qtt(x0 x2 x3:R){n i:Nat}(h:i<n):cI (plL x0 x2 x3 n) i 0=qbZ x0 x2 x3 i:=by unfold plL;rw[qq4 _ h];rfl
theorem qni{x0 x1 x2 x3:R}(g:Gv x0 x1 x2 x3):(wF [.r x0,.r x1,.r x2,.r x3]).run=some (0,[.r (plL x0 x2 x3 x0.length)]):=by
 rw[qek]
 have hn:=g.j.n
 have key:=kZ (S:=vw) (fun i=>[.r x0,.i (qh x0),.i (i:Int),.r x2,.r x3,.r (plL x0 x2 x3 i)]) (0,[.r (plL x0 x2 x3 x0.length)]) x0.length (by omega) (fun i hi=>by
  rw[q4P]
  have a0:(i:Int)<qh x0:=by unfold qh;omega
  have a2:(i:Int)<qh x2:=by unfold qh;have:=g.e2;omega
  have a3:(i:Int)<qh x3:=by unfold qh;have:=g.e3;omega
  obtain⟨_,_,n3,_,_,n6,_⟩:=g.num hi
  have w1:qE .i64 (cI x2 i 2) (cI x3 i 2)=cI x2 i 2-cI x3 i 2:=yE (by omega)
  have w2:qE .i64 0 (cI x2 i 2-cI x3 i 2)=cI x3 i 2-cI x2 i 2:=by rw[qrf (by omega)];omega
  have room:=fun x=>qju (l:=plL x0 x2 x3 i) (n:=16) (by rw[qge];omega) (by omega) x
  simp only[STD,a0,a2,a3,q3g,and_self,w1,w2,qaU hi (show x0.length<9223372036854775808 by omega),room]
  have m:q2g (plL x0 x2 x3 i) [[.i (qbZ x0 x2 x3 i)]]=plL x0 x2 x3 (i+1):=qlT _ i
  rw[←m]
  unfold qbZ
  cases cB x0 i 6<;>rfl) (by
  rw[q4P]
  simp only[STD,show ¬((x0.length:Int)<qh x0) by unfold qh;omega])
 have key':(qw vw [.r x0,.i (qh x0),.i 0,.r x2,.r x3,.r []]).run=some (0,[.r (plL x0 x2 x3 x0.length)]):=key
 simp only[STD,key']
end Go.Eng

namespace Go.Eng
theorem quu(l m:List DQ):rD (l++m)=rD l++rD m:=List.map_append
theorem qqw(l:List DQ)(d:DQ):q2g (rD l) [[.s (tQ d.x),.s (tQ d.y),.s (tQ d.s)]]=rD (l++[d]):=by
 rw[quu];rfl
theorem qtW(x0 x2 x3:R){i n:Nat}(hi:i<n)(hn:n≤16)(x:List U):qh (rD (zAT x0 x2 x3 i))+qh [x]≤2932031007402:=by
 rw[yU,qm6];unfold qh;simp;omega
theorem qsQ{n:Int}(h:inR n):bnd 10 10 (Rat.divInt n 2):=by
 have m:=q5R n 2
 have l:=qo7 (x:=n) h
 have d:dl 2=1:=by decide
 have e:Rat.divInt n 2=mkRat n 2:=rfl
 rw[e];unfold bnd qn qd;omega
theorem qf6{x0 x1 x2 x3:R}(g:Gv x0 x1 x2 x3):(um [.r x0,.r x1,.r x2,.r x3]).run=some (0,[.r (rD (zAT x0 x2 x3 x0.length))]):=by
 rw[qdZ]
 have hn:=g.j.n
 have key:=kZ (S:=vu) (fun i=>[.r (plL x0 x2 x3 x0.length),.i (qh (plL x0 x2 x3 x0.length)),.i (i:Int),.r x2,.r x3,.r (rD (zAT x0 x2 x3 i))]) (0,[.r (rD (zAT x0 x2 x3 x0.length))]) x0.length (by omega) (fun i hi=>by
  rw[q5u]
  have a1:(i:Int)<qh (plL x0 x2 x3 x0.length):=by unfold qh;rw[qge];omega
  have a2:(i:Int)<qh x2:=by unfold qh;have:=g.e2;omega
  have a3:(i:Int)<qh x3:=by unfold qh;have:=g.e3;omega
  obtain⟨n1,n2,n3,n4,n5,n6,n7⟩:=g.num hi
  have w1:qE .i64 (cI x3 i 0) (cI x2 i 0)=cI x3 i 0-cI x2 i 0:=yE (by omega)
  have w2:qE .i64 (cI x3 i 1) (cI x2 i 1)=cI x3 i 1-cI x2 i 1:=yE (by omega)
  have o:=qpG (m:=qbZ x0 x2 x3 i) (n:=2) (by omega) (by omega) (by omega)
  have hb:=qsQ (n:=qbZ x0 x2 x3 i) (by unfold inR;omega)
  have m:=qh2 hb hb (by omega) (by omega)
  have u1:=qcT (m:=cI x3 i 0-cI x2 i 0) (by omega)
  have u2:=qcT (m:=cI x3 i 1-cI x2 i 1) (by omega)
  have room:=fun x=>qtW x0 x2 x3 hi hn x
  simp only[STD,a1,a2,a3,q3g,and_self,qtt x0 x2 x3 hi,w1,w2,o,m,u1,u2,room,qaU hi (show x0.length<9223372036854775808 by omega)]
  have row:=qqw (zAT x0 x2 x3 i) (zA x0 x2 x3 i)
  rw[←qs9] at row
  rw[←row]
  rfl) (by
  rw[q5u]
  simp only[STD,show ¬((x0.length:Int)<qh (plL x0 x2 x3 x0.length)) by unfold qh;rw[qge];omega])
 have key':(qw vu [.r (plL x0 x2 x3 x0.length),.i (qh (plL x0 x2 x3 x0.length)),.i 0,.r x2,.r x3,.r []]).run=some (0,[.r (rD (zAT x0 x2 x3 x0.length))]):=key
 simp only[STD,qni g,key']
theorem qir{p:Nat→Bool}:∀{n:Nat},(q2a (fun i=>if p i=true then some i else none) 0 n=none∧pick p n=[])∨∃i r,q2a (fun i=>if p i=true then some i else none) 0 n=some i∧pick p n=[.i (i:Int)]::r
 | 0=>.inl ⟨rfl,rfl⟩
 | n+1=>by
  have split:q2a (fun i=>if p i=true then some i else none) 0 (n+1)=(q2a (fun i=>if p i=true then some i else none) 0 n).or (if p n=true then some n else none):=by
   have key:∀k i,q2a (fun i=>if p i=true then some i else none) i (k+1)=(q2a (fun i=>if p i=true then some i else none) i k).or (if p (i+k)=true then some (i+k) else none):=by
    intro k
    induction k with
    | zero=>intro i;simp only[q2a,Nat.add_zero];by_cases c:p i=true<;>simp[c]
    | succ k ih=>
     intro i
     rw[q2a]
     by_cases c:p i=true
     ·simp[q2a,c]
     ·have c':p i=false:=by simpa using c
      simp only[c',Bool.false_eq_true,if_false]
      rw[ih (i+1)]
      simp only[q2a,c',Bool.false_eq_true,if_false]
      rw[show i+1+k=i+(k+1) by omega]
   have:=key n 0
   rwa [Nat.zero_add] at this
  rcases qir (p:=p) (n:=n) with⟨h1,h2⟩|⟨i,r,h1,h2⟩
  ·rw[split,h1]
   unfold pick
   by_cases c:p n=true
   ·rw[if_pos c,if_pos c,h2];exact .inr ⟨n,[],rfl,rfl⟩
   ·rw[if_neg c,if_neg c,h2];exact .inl ⟨rfl,rfl⟩
  ·rw[split,h1]
   unfold pick
   by_cases c:p n=true
   ·rw[if_pos c,if_pos c,h2];exact .inr ⟨i,r++[[.i (n:Int)]],rfl,rfl⟩
   ·rw[if_neg c,if_neg c,h2];exact .inr ⟨i,r,rfl,rfl⟩
theorem qpO(x0 x2 x3:R):(qb7 x0 x2 x3=none∧pick (fun i=>decide (cI (plL x0 x2 x3 x0.length) i 0<0)) x0.length=[])∨∃i r,qb7 x0 x2 x3=some i∧pick (fun i=>decide (cI (plL x0 x2 x3 x0.length) i 0<0)) x0.length=[.i (i:Int)]::r:=by
 have e:qb7 x0 x2 x3=q2a (fun i=>if decide (cI (plL x0 x2 x3 x0.length) (i:Int) 0<0)=true then some i else none) 0 x0.length:=by
  unfold qb7
  refine qaB fun j _ hj=>?_
  rw[qtt x0 x2 x3 (show j<x0.length by omega)]
  simp only[decide_eq_true_eq]
 rw[e]
 exact qir
def qv5(x0 x1 x2 x3:R):List PV:=if qpF x0 x1 x2 x3=0 then (qb7 x0 x2 x3).elim (cW (q2e (zAT x0 x2 x3 x0.length))) (fun _=>[.b false,.i 0,.i 0,.i 0,.i 0]) else [.b false,.i 0,.i 0,.i 0,.i (qpF x0 x1 x2 x3)]
theorem qfP{x0 x1 x2 x3:R}(g:Gv x0 x1 x2 x3):(qM [.r (plL x0 x2 x3 x0.length)]).run=some (0,[.r (pick (fun i=>decide (cI (plL x0 x2 x3 x0.length) i 0<0)) x0.length)]):=by
 have f:=qbp (plL x0 x2 x3 x0.length) (by rw[qge];have:=g.j.n;omega)
 rwa [qge] at f
theorem q1f(x0 x1 x2 x3:R)(h:x0.length<9223372036854775808):(qY [.r x0,.r x1,.r x2,.r x3]).run=some (0,qv5 x0 x1 x2 x3):=by
 rw[qaH]
 unfold qv5
 by_cases hc:qpF x0 x1 x2 x3=0
 ·have g:=qlw hc
  have hn:=g.j.n
  have c:=qnr g.gds g.nez (by rw[qm6];omega)
  rcases qpO x0 x2 x3 with⟨t1,t2⟩|⟨i,r,t1,t2⟩
  ·simp only[STD,q2i x0 x1 x2 x3 h,hc,qni g,qfP g,t1,t2,show ¬((0:Int)<qh []) by unfold qh;simp,qf6 g,c]
   cases q2e (zAT x0 x2 x3 x0.length)<;>rfl
  ·simp only[STD,q2i x0 x1 x2 x3 h,hc,qni g,qfP g,t1,t2,show ((0:Int)<qh ([U.i (i:Int)]::r)) by unfold qh;simp<;>omega]
 ·simp only[STD,q2i x0 x1 x2 x3 h,hc]
end Go.Eng

namespace Go.Eng
def qw6(l m:R)(i:Nat):Bool:=decide (cI m i 0<cI l i 0∨cI l i 1<cI m i 0)
def qw7(l m:R):Prop:=∀i,i<l.length→qw6 l m i=false
instance (l m:R):Decidable (qw7 l m):=inferInstanceAs (Decidable (∀i,i<l.length→_))
end Go.Eng

namespace Go.Eng
def jA:R:=[[.i 0,.i 0,.i 100,.i 104,.i 4,.i 1,.b false],[.i 1000,.i 0,.i 100,.i 104,.i 4,.i 1,.b false]]
def jB:R:=[[.i 0,.i 0,.i 90,.i 92,.i 4,.i 1,.b true],[.i 1000,.i 0,.i 90,.i 92,.i 4,.i 1,.b true]]
def mA:R:=[[.i 2,.i 0,.i 100],[.i 998,.i 0,.i 100]]
def mB(w:Int):R:=[[.i (-w),.i 0,.i 92],[.i (1000+w),.i 0,.i 92]]
theorem quk:(q5p []).run=some (0,[.r jA,.r jB]):=by
 rw[qlx]
 have L:=kZ (S:=kW) (fun i=>[.i 2,.i (i:Int),.r [[.i 0],[.i 1000]],.r (jA.take i),.r (jB.take i)]) (0,[.r jA,.r jB]) 2 (by omega) (fun i hi=>by
  rw[qb4]
  rcases (show i=0∨i=1 by omega) with rfl|rfl<;>rfl) (by rw[qb4];rfl)
 have L':(qw kW [.i (qh [[U.i 0],[.i 1000]]),.i 0,.r [[.i 0],[.i 1000]],.r [],.r []]).run=some (0,[.r jA,.r jB]):=L
 simp only[STD,L']
theorem qvj(w:Int)(h:0≤w∧w≤1000):(uD [.i w]).run=some (0,[.r mA,.r (mB w)]):=by
 rw[qdS,yE (by omega),vC (by omega)]
 unfold mA mB
 rw[show (0:Int)-w=-w by omega];rfl
theorem ej:q25 jA jB=0:=by decide +kernel
theorem es:qj3 jA jB=true:=by decide +kernel
theorem eg2:qpF jA jB mA (mB 2)=0:=by decide +kernel
theorem et2:qb7 jA mA (mB 2)=none:=by decide +kernel
theorem ef2:(q2e (zAT jA mA (mB 2) 2)).isSome=true:=by decide +kernel
theorem em:mgL jA jB 2=[[.i 0],[.i 0]]:=by
 have h0:mgA jA jB 0=0:=by decide +kernel
 have h1:mgA jA jB 1=0:=by decide +kernel
 unfold mgL qrW
 rw[show List.range 2=[0,1] from rfl]
 simp only[List.map_cons,List.map_nil,h0,h1]
theorem qtj:jA.length<9223372036854775808:=by show 2<_;omega
theorem qui(x0 x1 x2 x3:R)(h:x0.length<9223372036854775808):∃b,(q5y [.r x0,.r x1,.r x2,.r x3]).run=some (0,[.b b]):=by
 rw[qkV]
 by_cases h0:(40:Int)<qh x0
 ·simp only[STD,h0];exact⟨_,rfl⟩
 by_cases h1:(40:Int)<qh x1
 ·simp only[STD,h0,h1];exact⟨_,rfl⟩
 by_cases h2:(40:Int)<qh x2
 ·simp only[STD,h0,h1,h2];exact⟨_,rfl⟩
 by_cases h3:(40:Int)<qh x3
 ·simp only[STD,h0,h1,h2,h3];exact⟨_,rfl⟩
 by_cases h4:qh x0≤4
 ·simp only[STD,h0,h1,h2,h3,h4];exact⟨_,rfl⟩
 ·simp only[STD,h0,h1,h2,h3,h4,qcC x0 x1 x2 x3 h];exact⟨_,rfl⟩
theorem qtV{sh:List Sh}{x:R}(h:UFit (.sl sh) (.l x)):x.length<9223372036854775808:=by cases h with|sl _ _ h=>unfold maxLen at h;omega
end Go.Eng

namespace Go.Eng
def qhA(k r:Nat):Nat:=if r<k then r else r+1
theorem q4a(l:R){k:Nat}(hk:k<l.length):(q48 l (k:Int) ((k+1:Nat):Int)).length=l.length-1:=by
 unfold q48
 simp only[Int.toNat_natCast,List.length_append,List.length_take,List.length_drop]
 omega
theorem qlL(l:R){k:Nat}(hk:k<l.length)(r j:Nat):zZ (q48 l (k:Int) ((k+1:Nat):Int)) (r:Int) j=zZ l (qhA k r:Nat) j:=by
 rw[qii (by omega) (by omega)]
 unfold qhA
 by_cases h:r<k
 ·rw[if_pos h,if_pos h]
 ·rw[if_neg h,if_neg h,show r+(k+1-k)=r+1 by omega]
theorem q1S(l:R){k:Nat}(hk:k<l.length)(r j:Nat):cI (q48 l (k:Int) ((k+1:Nat):Int)) r j=cI l (qhA k r:Nat) j:=by unfold cI;rw[qlL l hk]
theorem qg6(l:R){k:Nat}(hk:k<l.length)(r j:Nat):cB (q48 l (k:Int) ((k+1:Nat):Int)) r j=cB l (qhA k r:Nat) j:=by unfold cB;rw[qlL l hk]
theorem qg2{k r n:Nat}(hk:k<n)(h:r<n-1):qhA k r<n:=by unfold qhA;split<;>omega
section
variable {x0 x1 x2 x3:R} {k:Nat}
theorem qtl(g:Gv x0 x1 x2 x3)(hk:k<x0.length)(h2:2≤x0.length):Gv (q48 x0 (k:Int) ((k+1:Nat):Int)) (q48 x1 (k:Int) ((k+1:Nat):Int)) (q48 x2 (k:Int) ((k+1:Nat):Int)) (q48 x3 (k:Int) ((k+1:Nat):Int)):=by
 have k1:k<x1.length:=by rw[g.j.e];exact hk
 have k2:k<x2.length:=by rw[g.e2];exact hk
 have k3:k<x3.length:=by rw[g.e3];exact hk
 have e0:=q4a x0 hk
 have hn:=g.j.n
 refine⟨⟨by omega,by omega,by rw[q4a x1 k1,g.j.e,e0],fun r hr=>?_⟩,by rw[q4a x2 k2,g.e2,e0],by rw[q4a x3 k3,g.e3,e0],fun r hr=>?_⟩
 ·rw[e0] at hr
  rw[←g.j.p _ (qg2 hk hr)]
  unfold qbx qpT
  simp only[q1S x0 hk,q1S x1 k1,qg6 x0 hk,qg6 x1 k1]
 ·rw[e0] at hr
  have iA:qm2 (q48 x0 (k:Int) ((k+1:Nat):Int)) (q48 x2 (k:Int) ((k+1:Nat):Int)) r=qm2 x0 x2 (qhA k r):=by
   unfold qm2;simp only[q1S x0 hk,q1S x2 k2]
  have iB:qm2 (q48 x1 (k:Int) ((k+1:Nat):Int)) (q48 x3 (k:Int) ((k+1:Nat):Int)) r=qm2 x1 x3 (qhA k r):=by
   unfold qm2;simp only[q1S x1 k1,q1S x3 k3]
  rw[←g.g _ (qg2 hk hr)]
  unfold qrn qow
  simp only[iA,iB,q1S x2 k2,q1S x3 k3]
theorem qnZ(g:Gv x0 x1 x2 x3)(hk:k<x0.length)(r:Nat):qbZ (q48 x0 (k:Int) ((k+1:Nat):Int)) (q48 x2 (k:Int) ((k+1:Nat):Int)) (q48 x3 (k:Int) ((k+1:Nat):Int)) r=qbZ x0 x2 x3 (qhA k r):=by
 have k2:k<x2.length:=by rw[g.e2];exact hk
 have k3:k<x3.length:=by rw[g.e3];exact hk
 unfold qbZ
 simp only[qg6 x0 hk,q1S x2 k2,q1S x3 k3]
theorem qw1(g:Gv x0 x1 x2 x3)(hk:k<x0.length)(r:Nat):zA (q48 x0 (k:Int) ((k+1:Nat):Int)) (q48 x2 (k:Int) ((k+1:Nat):Int)) (q48 x3 (k:Int) ((k+1:Nat):Int)) r=zA x0 x2 x3 (qhA k r):=by
 have k2:k<x2.length:=by rw[g.e2];exact hk
 have k3:k<x3.length:=by rw[g.e3];exact hk
 unfold zA
 rw[qnZ g hk]
 simp only[q1S x2 k2,q1S x3 k3]
def quy(x0 x2 x3:R):Bool:=decide (qb7 x0 x2 x3=none)&&(q2e (zAT x0 x2 x3 x0.length)).isSome
theorem qty(g:Gv x0 x1 x2 x3)(hk:k<x0.length)(h2:2≤x0.length)(h:quy x0 x2 x3=true):quy (q48 x0 (k:Int) ((k+1:Nat):Int)) (q48 x2 (k:Int) ((k+1:Nat):Int)) (q48 x3 (k:Int) ((k+1:Nat):Int))=true:=by
 have gy:=qtl g hk h2
 unfold quy at h ⊢
 simp only[Bool.and_eq_true,decide_eq_true_eq] at h ⊢
 obtain⟨t,f⟩:=h
 refine⟨qiA.2 fun r hr=>?_,(qim gy.nez gy.nn).2 (((qim g.nez g.nn).1 f).mono fun d hd=>?_)⟩
 ·rw[q4a x0 hk] at hr
  rw[qnZ g hk]
  exact qiA.1 t _ (qg2 hk hr)
 ·obtain⟨r,hr,rfl⟩:=List.mem_map.1 hd
  have hr:=List.mem_range.1 hr
  rw[q4a x0 hk] at hr
  rw[qw1 g hk]
  exact List.mem_map.2 ⟨_,List.mem_range.2 (qg2 hk hr),rfl⟩
theorem qnY(g:Gv x0 x1 x2 x3)(hk:k<x0.length)(h:qj3 x0 x1=true):qj3 (q48 x0 (k:Int) ((k+1:Nat):Int)) (q48 x1 (k:Int) ((k+1:Nat):Int))=true:=by
 have k1:k<x1.length:=by rw[g.j.e];exact hk
 unfold qj3 at h ⊢
 rw[decide_eq_true_iff] at h ⊢
 intro r hr
 rw[q4a x0 hk] at hr
 have:=h _ (qg2 hk hr)
 unfold mgA gau at this ⊢
 simp only[q1S x0 hk,q1S x1 k1,qg6 x0 hk,qg6 x1 k1]
 exact this
end
theorem qqM{x0 x1 x2 x3:R}(g:Gv x0 x1 x2 x3):∃x y z,qv5 x0 x1 x2 x3=[.b (quy x0 x2 x3),.i x,.i y,.i z,.i 0]:=by
 unfold qv5 quy
 rw[if_pos (qul g)]
 cases qb7 x0 x2 x3 with
 | none=>
  show ∃x y z,cW (q2e _)=_
  unfold cW
  cases q2e (zAT x0 x2 x3 x0.length) with
  | none=>exact⟨_,_,_,rfl⟩
  | some w=>exact⟨_,_,_,rfl⟩
 | some i=>exact⟨_,_,_,rfl⟩
theorem q14:(zr []).run=some (0,[.b true]):=by
 rw[qf8]
 have S:=q4M jA jB qtj
 have T2:=q1f jA jB mA (mB 2) qtj
 unfold qsf at S
 unfold qv5 at T2
 have l2:jA.length=2:=rfl
 rw[if_pos ej,es] at S
 rw[if_pos eg2,et2,l2] at T2
 obtain⟨w,f2⟩:∃w,q2e (zAT jA mA (mB 2) 2)=some w:=Option.isSome_iff_exists.1 ef2
 rw[f2] at T2
 have T2':(qY [.r jA,.r jB,.r mA,.r (mB 2)]).run=some (0,[.b true,.i (w.1:Int),.i (w.2.1:Int),.i w.2.2,.i 0]):=T2
 have m2:=qvj 2 (by omega)
 have w0:ql .i64 0 0=0:=by decide
 simp only[STD,quk,S,T2',m2,w0]
theorem qoo(l:R)(h:l.length≤16)(h0:l.length≠0):(qv [.r l]).run=some (0,[.r l]):=by
 rw[q0r]
 have a:(0:Int)<qh l:=by unfold qh;omega
 have b:qh []+qh l≤2513169434916:=by show (0:Int)+qh l≤_;unfold qh;omega
 simp only[STD,a,b]
 rfl
theorem qlc(l:R)(h:l.length≤16)(h0:l.length≠0):(qu [.r l]).run=some (0,[.r l]):=by
 rw[q0g]
 have a:(0:Int)<qh l:=by unfold qh;omega
 have b:qh []+qh l≤5864062014805:=by show (0:Int)+qh l≤_;unfold qh;omega
 simp only[STD,a,b]
 rfl
theorem qcX(x0:R)(x1:R)(x2:R)(x3:R)(x4:Int)(lex0:UFit (.sl [(.int .i64),(.int .i64),(.int .i64),(.int .i64),(.int .i64),(.int .i64),.bool]) (.l x0))(_:UFit (.sl [(.int .i64),(.int .i64),(.int .i64),(.int .i64),(.int .i64),(.int .i64),.bool]) (.l x1))(_:UFit (.sl [(.int .i64),(.int .i64),(.int .i64)]) (.l x2))(_:UFit (.sl [(.int .i64),(.int .i64),(.int .i64)]) (.l x3))(lox4:IntKind.min .u8≤x4)(hix4:x4≤IntKind.max .u8):(jf [.r x0,.r x1,.r x2,.r x3,.i x4]).run=some (0,[.b true]):=by
 have h:=qtV lex0
 have r4:(0:Int)≤x4∧x4≤255:=⟨lox4,hix4⟩
 rw[qaK]
 obtain⟨b,f⟩:=qui x0 x1 x2 x3 h
 have G:=qcC x0 x1 x2 x3 h
 cases b with
 | false=>simp only[STD,f,q14]
 | true=>
  by_cases hc:qpF x0 x1 x2 x3=0
  ·by_cases h2:qh x0<2
   ·simp only[STD,f,G,hc,h2,q14]
   ·have g:=qlw hc
    have hn:=g.j.n
    have hl:2≤x0.length:=by unfold qh at h2;omega
    have rl:qh x0=(x0.length:Int):=rfl
    have tm:0≤x4.tmod (qh x0)∧x4.tmod (qh x0)<qh x0:=⟨Int.tmod_nonneg _ r4.1,Int.tmod_lt_of_pos _ (by omega)⟩
    obtain⟨k,hk⟩:∃k:Nat,x4.tmod (qh x0)=(k:Int):=⟨(x4.tmod (qh x0)).toNat,by omega⟩
    have kl:k<x0.length:=by omega
    have w1:uO .i64 x4=x4:=qs5 (by omega)
    have w2:q5v x4 (qh x0)=(k:Int):=hk
    have w3:ql .i64 (k:Int) 1=((k+1:Nat):Int):=by rw[vC (by omega)];omega
    have c0:=qoo x0 hn (by omega)
    have c1:=qoo x1 (by rw[g.j.e];exact hn) (by rw[g.j.e];omega)
    have c2:=qlc x2 (by rw[g.e2];exact hn) (by rw[g.e2];omega)
    have c3:=qlc x3 (by rw[g.e3];exact hn) (by rw[g.e3];omega)
    have q0:(0:Int)<qh x0:=by omega
    have q1:(0:Int)<qh x1:=by unfold qh;rw[g.j.e];omega
    have q2:(0:Int)<qh x2:=by unfold qh;rw[g.e2];omega
    have q3:(0:Int)<qh x3:=by unfold qh;rw[g.e3];omega
    have b0:((k+1:Nat):Int)≤qh x0:=by omega
    have b1:((k+1:Nat):Int)≤qh x1:=by unfold qh;rw[g.j.e];omega
    have b2:((k+1:Nat):Int)≤qh x2:=by unfold qh;rw[g.e2];omega
    have b3:((k+1:Nat):Int)≤qh x3:=by unfold qh;rw[g.e3];omega
    have gy:=qtl g kl hl
    have T:=q1f x0 x1 x2 x3 h
    have S:=q4M x0 x1 h
    have T2:=q1f (q48 x0 (k:Int) ((k+1:Nat):Int)) (q48 x1 (k:Int) ((k+1:Nat):Int)) (q48 x2 (k:Int) ((k+1:Nat):Int)) (q48 x3 (k:Int) ((k+1:Nat):Int)) (by rw[q4a x0 kl];omega)
    have S2:=q4M (q48 x0 (k:Int) ((k+1:Nat):Int)) (q48 x1 (k:Int) ((k+1:Nat):Int)) (by rw[q4a x0 kl];omega)
    unfold qsf at S S2
    rw[if_pos (qfO g.j)] at S
    rw[if_pos (qfO gy.j)] at S2
    obtain⟨u1,u2,u3,ht⟩:=qqM g
    obtain⟨v1,v2,v3,ht2⟩:=qqM gy
    rw[ht] at T
    rw[ht2] at T2
    have w0:ql .i64 0 0=0:=by decide
    have i0:¬(qh x0=0):=by omega
    cases ha:quy x0 x2 x3 with
    | false=>
     rw[ha] at T
     cases hs:qj3 x0 x1 with
     | false=>
      rw[hs] at S
      simp only[STD,f,G,hc,h2,i0,w1,w2,w3,c0,c1,c2,c3,q0,q1,q2,q3,b0,b1,b2,b3,q3g,show (k:Int)≤((k+1:Nat):Int) by omega,T,S,T2,S2,w0,q14]
     | true=>
      have:=qnY g kl hs
      rw[this] at S2
      rw[hs] at S
      simp only[STD,f,G,hc,h2,i0,w1,w2,w3,c0,c1,c2,c3,q0,q1,q2,q3,b0,b1,b2,b3,q3g,show (k:Int)≤((k+1:Nat):Int) by omega,T,S,T2,S2,w0,q14]
    | true=>
     have t2:=qty g kl hl ha
     rw[t2] at T2
     rw[ha] at T
     cases hs:qj3 x0 x1 with
     | false=>
      rw[hs] at S
      simp only[STD,f,G,hc,h2,i0,w1,w2,w3,c0,c1,c2,c3,q0,q1,q2,q3,b0,b1,b2,b3,q3g,show (k:Int)≤((k+1:Nat):Int) by omega,T,S,T2,S2,w0,q14]
     | true=>
      have:=qnY g kl hs
      rw[this] at S2
      rw[hs] at S
      simp only[STD,f,G,hc,h2,i0,w1,w2,w3,c0,c1,c2,c3,q0,q1,q2,q3,b0,b1,b2,b3,q3g,show (k:Int)≤((k+1:Nat):Int) by omega,T,S,T2,S2,w0,q14]
  ·simp only[STD,f,G,hc,q14]
end Go.Eng

