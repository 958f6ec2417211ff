/- Texts of the proof, merged: what the code computes, and plain laws. No statement stands here. -/
import Derived.Test.YtgphdcbbofjndaaGreatDoorM3
namespace Go.Eng
variable {n:Nat}
def dch(d:Nat):UInt8:=UInt8.ofNat (48+d)
def dv(c:UInt8):Nat:=c.toNat-48
def q9r(s:qxA):Prop:=∀c,c∈s->48<=c.toNat/\c.toNat<=57
def val(s:qxA):Nat:=s.foldl (fun a c=>10*a+dv c) 0
def tNf:Nat->Nat->List UInt8
 | 0,_=>[]
 | f+1,n=>if n<10 then [dch n] else tNf f (n/10)++[dch (n%10)]
def tN(n:Nat):List UInt8:=tNf (n+1) n
def tI(n:Int):List UInt8:=if n<0 then 45::tN n.natAbs else tN n.natAbs
theorem qec {d:Nat}(h:d<10):(dch d).toNat=48+d:=by unfold dch;rw[UInt8.toNat_ofNat'];omega
theorem qua {d:Nat}(h:d<10):dv (dch d)=d:=by unfold dv;rw[qec h];omega
theorem quy {c:UInt8}(h1:48<=c.toNat)(h2:c.toNat<=57):dch (dv c)=c:=by apply UInt8.toNat_inj.1;rw[qec (by unfold dv;omega)];unfold dv;omega
theorem qoH (s:qxA)(c:UInt8):val (s++[c])=10*val s+dv c:=by simp[val,List.foldl_append]
theorem qhb:∀(t:qxA) (a:Nat),t.foldl (fun a c=>10*a+dv c) a=a*10^t.length+val t
 | [],a=>by simp[val]
 | c::t,a=>by
  have h1:=qhb t (10*a+dv c);have h2:=qhb t (10*0+dv c);have h3:val (c::t)=t.foldl (fun a c=>10*a+dv c) (10*0+dv c):=rfl;rw[h3,h2,qz7,h1,qy9,qz1];grind
theorem qlb (s t:qxA):val (s++t)=val s*10^t.length+val t:=by
 have h:val (s++t)=t.foldl (fun a c=>10*a+dv c) (val s):=by simp[val,List.foldl_append]
 rw[h,qhb]
theorem q6q (c:UInt8)(t:qxA):val (c::t)=dv c*10^t.length+val t:=by have:=qlb [c] t;simpa[val] using this
theorem qkA:val []=0:=rfl
theorem qnb (c:UInt8):val [c]=dv c:=by simp[val]
theorem qti:q9r []:=fun c h=>by cases h
theorem q17 {c:UInt8}{s:qxA}:q9r (c::s)↔(48<=c.toNat/\c.toNat<=57)/\q9r s:=by unfold q9r;simp
theorem qdg {s t:qxA}:q9r (s++t)↔q9r s/\q9r t:=by unfold q9r;simp only[qxY];exact⟨fun h=>⟨fun c hc=>h c (.inl hc),fun c hc=>h c (.inr hc)⟩,fun h c hc=>hc.elim (h.1 c) (h.2 c)⟩
theorem qvg {c:UInt8}(h:48<=c.toNat/\c.toNat<=57):dv c<10:=by unfold dv;omega
theorem qa5:∀{s:qxA},q9r s->val s<10^s.length
 | [],_=>by simp[val]
 | c::s,h=>by
  obtain⟨h1,h2⟩:=q17.1 h;have ih:=qa5 h2;have hd:=qvg h1;rw[q6q,qy9,qz1];have:dv c*10^s.length<=9*10^s.length:=qy8 _ (by omega);omega
theorem qoS {d:Nat}(h:d<10):q9r [dch d]:=by intro c hc;simp at hc;subst hc;rw[qec h];omega
theorem qun:∀(f g n:Nat),n<f->n<g->tNf f n=tNf g n
 | 0,_,n,h,_=>by omega
 | _,0,n,_,h=>by omega
 | f+1,g+1,n,h1,h2=>by
  unfold tNf;by_cases h:n<10
  ·rw[if_pos h,if_pos h]
  ·rw[if_neg h,if_neg h,qun f g (n/10) (by omega) (by omega)]
theorem qnp (h:n<10):tN n=[dch n]:=by unfold tN tNf;rw[if_pos h]
theorem qpo (h:10<=n):tN n=tN (n/10)++[dch (n%10)]:=by
 have:tN n=tNf n (n/10)++[dch (n%10)]:=by show tNf (n+1) n=_;rw[tNf,if_neg (by omega)]
 rw[this,qun n (n/10+1) (n/10) (by omega) (by omega)];rfl
theorem ql0 (n:Nat):q9r (tN n)/\tN n≠[]/\val (tN n)=n:=by
 induction n using Nat.strongRecOn with
 | _ n ih=>
  by_cases h:n<10
  ·rw[qnp h];exact⟨qoS h,by simp,by rw[qnb,qua h]⟩
  ·rw[qpo (by omega)];obtain⟨h1,h2,h3⟩:=ih (n/10) (by omega);refine⟨qdg.2 ⟨h1,qoS (by omega)⟩,by simp,?_⟩;rw[qoH,h3,qua (by omega)];omega
theorem jh (n:Nat):q9r (tN n):=(ql0 n).1
theorem qgy (n:Nat):tN n≠[]:=(ql0 n).2.1
theorem q2R (n:Nat):val (tN n)=n:=(ql0 n).2.2
theorem qh2 (n:Nat):0<(tN n).length:=qyM.2 (qgy n)
theorem q8c:∀(k n:Nat),n<10^(k+1)->(tN n).length<=k+1
 | 0,n,h=>by rw[qnp (by simpa using h)];simp
 | k+1,n,h=>by
  by_cases h10:n<10
  ·rw[qnp h10];simp
  ·rw[qpo (by omega),qyL];have:=q8c k (n/10) (by rw[qz1] at h;omega);simp;omega
theorem qlf:∀(k n:Nat),10^k<=n->k<(tN n).length
 | 0,n,_=>qh2 n
 | k+1,n,h=>by
  have hp:0<10^k:=Nat.pow_pos (by omega);rw[qz1] at h;rw[qpo (by omega),qyL];have:=qlf k (n/10) (by omega);simp;omega
theorem qdY {k n:Nat}(h:(tN n).length<=k):n<10^k:=by have:=qa5 (jh n);rw[q2R] at this;exact qyG this (qzc (by omega) h)
def lead(s:qxA):Prop:=s.length=1\/s.getD 0 0≠48
theorem qow {s:qxA}(hd:q9r s)(hn:s≠[])(h:s.getD 0 0≠48):10^(s.length-1)<=val s:=by
 cases s with
 | nil=>exact absurd rfl hn
 | cons c s=>
  obtain⟨h1,h2⟩:=q17.1 hd;simp at h;have hc:1<=dv c:=by unfold dv;have:c.toNat≠48:=fun e=>h (UInt8.toNat_inj.1 (by simpa using e));omega
  rw[q6q,qy9,Nat.add_sub_cancel];have:1*10^s.length<=dv c*10^s.length:=qy8 _ hc;omega
theorem qud:∀(n:Nat) {s:qxA},s.length=n+1->q9r s->lead s->tN (val s)=s
 | 0,s,hl,hd,_=>by
  match s,hl with
  | [c],_=>
   have h1:=(q17.1 hd).1;rw[qnb,qnp (qvg h1),quy h1.1 h1.2]
 | n+1,s,hl,hd,hz=>by
  obtain⟨i,c,rfl⟩:∃i c,s=i++[c]:=⟨s.dropLast,s.getLast (by intro h;simp[h] at hl),(List.dropLast_concat_getLast _).symm⟩;have hil:i.length=n+1:=by simpa using hl
  obtain⟨h1,h2⟩:=qdg.1 hd;have hc:=(q17.1 h2).1;have hi:i≠[]:=by intro h;simp[h] at hil
  have hz0:i.getD 0 0≠48:=by
   rcases hz with hz|hz
   ·exact absurd (by simpa using hz) hi
   ·cases i with
    | nil=>exact absurd rfl hi
    | cons a i=>simpa using hz
  have hv:1<=val i:=qxJ (Nat.one_le_pow _ _ (by omega)) (qow h1 hi hz0);have hd10:=qvg hc;rw[qoH,qpo (n:=10*val i+dv c) (by omega),show (10*val i+dv c)/10=val i by omega,show (10*val i+dv c)%10=dv c by omega,quy hc.1 hc.2,qud n hil h1 (.inr hz0)]
theorem qn6 {s:qxA}(hd:q9r s)(hn:s≠[])(hz:lead s):s=tN (val s):=(qud (s.length-1) (by have:=qyM.2 hn;omega) hd hz).symm
theorem qog {m n:Nat}(h:tN m=tN n):m=n:=by rw[<-q2R m,h,q2R]
theorem qqy (n:Nat):lead (tN n):=by
 induction n using Nat.strongRecOn with
 | _ n ih=>
  by_cases h:n<10
  ·rw[qnp h];exact .inl rfl
  ·rw[qpo (by omega)];right;by_cases h2:n/10<10
   ·rw[qnp h2];intro e;have:(dch (n/10)).toNat=48:=by
     have e':dch (n/10)=48:=by simpa using e
     rw[e'];rfl
    rw[qec h2] at this;omega
   ·have h3:(tN (n/10)).length≠1:=by have:=qlf 1 (n/10) (by omega);omega
    rcases ih (n/10) (by omega) with h4|h4
    ·exact absurd h4 h3
    ·cases hq:tN (n/10) with
     | nil=>exact absurd hq (qgy _)
     | cons a i=>rw[hq] at h4;simpa using h4
theorem qvD (t:qxA):slt [] t=!t.isEmpty:=by cases t<;>rfl
theorem qsZ (a b:UInt8)(s t:qxA):slt (a::s) (b::t)=(decide (a<b)||(a==b&&slt s t)):=by unfold slt;simp only[Op.bytesLess]
theorem qnD:∀{s t:qxA},q9r s->q9r t->s.length=t.length->((slt s t=true)=(val s<val t))
 | [],[],_,_,_=>by simp[qvD,qkA]
 | a::s,b::t,h1,h2,hl=>by
  obtain⟨ha,hs⟩:=q17.1 h1;obtain⟨hb,ht⟩:=q17.1 h2;have hl':s.length=t.length:=by simpa using hl
  have ih:=qnD hs ht hl';have v1:=qa5 hs;have v2:=qa5 ht;rw[qsZ,q6q,q6q,hl'];rw[hl'] at v1;have hab:(a<b)=(dv a<dv b):=by unfold dv;rw[UInt8.lt_iff_toNat_lt];simp only[eq_iff_iff];omega
  have hab2:(a=b)=(dv a=dv b):=by unfold dv;rw[<-UInt8.toNat_inj];simp only[eq_iff_iff];omega
  simp only[qyE,decide_eq_true_eq,qxL,beq_iff_eq,eq_iff_iff,ih,hab,hab2];generalize 10^t.length=p at *;generalize dv a=x at *;generalize dv b=y at *;constructor
  ·rintro (h|⟨rfl,h⟩)
   ·have:=qy8 p (show x+1<=y by omega);rw[qy2] at this;omega
   ·omega
  ·intro h;rcases Nat.lt_trichotomy x y with h3|h3|h3
   ·exact .inl h3
   ·subst h3;exact .inr ⟨rfl,by omega⟩
   ·have:=qy8 p (show y+1<=x by omega);rw[qy2] at this;omega
theorem q95 {m n:Nat}(h:m<=n):(tN m).length<=(tN n).length:=by
 rcases qxG (tN n).length (tN m).length with h1|h1
 ·have h2:=qdY (qxC (tN n).length);have h3:0<(tN n).length:=qh2 n;have:=q8c ((tN n).length-1) m (by rw[Nat.sub_add_cancel h3];omega);omega
 ·exact h1
theorem qrA (m n:Nat):((tN m).length<(tN n).length\/(tN m).length=(tN n).length/\slt (tN m) (tN n)=true)↔m<n:=by
 constructor
 ·rintro (h|⟨h1,h2⟩)
  ·rcases qxG m n with h3|h3
   ·exact h3
   ·have:=q95 h3;omega
  ·rw[qnD (jh m) (jh n) h1,q2R,q2R] at h2;exact h2
 ·intro h;have h1:=q95 (Nat.le_of_lt h);rcases qxG (tN m).length (tN n).length with h3|h3
  ·exact .inl h3
  ·have h4:(tN m).length=(tN n).length:=by omega
   exact .inr ⟨h4,by rw[qnD (jh m) (jh n) h4,q2R,q2R];exact h⟩
theorem qt4 (s:qxA):val (48::s)=val s:=by rw[q6q];simp[dv]
theorem qqP (n:Nat)(s:qxA):val (List.replicate n 48++s)=val s:=by
 induction n with
 | zero=>rfl
 | succ n ih=>rw[qyQ,qyn,qt4,ih]
theorem qq2 (n:Nat):q9r (List.replicate n 48):=by intro c hc;rw[(List.mem_replicate.1 hc).2];decide
def rI(l:List Int):R:=l.map fun v=>[.i v]
theorem qx4 (l:List Int)(i:Int):cI (rI l) i 0=l.getD i.toNat 0:=by unfold cI wv rI;simp only[qxE,qxZ];cases l[i.toNat]?<;>rfl
theorem qqd (x v:U):qjF [x] 0 [v]=[v]:=rfl
theorem qvX (l:List Int)(i v:Int):q9e (rI l) i 0 [.i v]=rI (l.set i.toNat v):=by
 unfold q9e rI;apply qyc;intro j;by_cases hj:j=i.toNat
 ·subst hj;by_cases hl:i.toNat<l.length
  ·simp[hl,qqd]
  ·rw[qxR (by simp;omega),qxR (by simp;omega)]
 ·rw[qxD (qxS hj),qxZ,qxZ,qxD (qxS hj)]
theorem qkd (n v:Int):q31 n [.i v]=rI (List.replicate n.toNat v):=by simp[q31,rI]
theorem quN {s:qxA}{i:Nat}(h:i<s.length):sat s (i:Int)=(s[i].toNat:Int):=by unfold sat;simp[h]
theorem ja (s t:qxA):(seq s t=true)=(s=t):=by simp[seq]
theorem qwL {x:Int}(h:0<=x/\x<=255):qpx .u8 x=x:=by unfold qpx IntKind.wrap;simp[IntKind.signed,IntKind.bits];omega
theorem qtR (a b:Nat):qp2 (a:Int) (b:Int)=((a%b:Nat):Int):=by unfold qp2;rw[Int.tmod_eq_emod_of_nonneg (by omega)];rfl
theorem q50 {S:List PV->TR}(I Q:Nat->List PV->Prop)(hn:n<9223372036854775808)(h:∀k ps,k<=n->I k ps->(∃k' qs,k'<k/\(S ps).run=some (0,qs)/\I k' qs)\/∃j qs,(S ps).run=some (j+1,qs)/\Q j qs) {ps:List PV} (h0:I n ps):∃j qs,(qm S ps).run=some (j,qs)/\Q j qs:=by
 have key:∀m k ps,k<=n->k<m->I k ps->∃j qs,(qdC S m ps).run=some (j,qs)/\Q j qs:=by
  intro m;induction m with
  | zero=>intro k ps _ h;omega
  | succ m ih=>
   intro k ps hk hm hI;rcases h k ps hk hI with⟨k',qs,h1,h2,h3⟩|⟨j,qs,h1,h2⟩
   ·obtain⟨j,rs,g1,g2⟩:=ih k' qs (by omega) (by omega) h3;exact⟨j,rs,by rw[qbv h2];exact g1,g2⟩
   ·exact⟨j,qs,q46 h1,h2⟩
 exact key q9T n ps (qxC _) (Nat.lt_trans hn (by unfold q9T;decide)) h0
end Go.Eng

namespace Go.Eng
theorem q9y{m:Int}(h:m<0):tI m=45::tN m.natAbs:=by unfold tI;rw[if_pos h]
theorem qd8{m:Int}(h:¬m<0):tI m=tN m.natAbs:=by unfold tI;rw[if_neg h]
theorem q9V(n:Nat):tI (n:Int)=tN n:=by rw[qd8 (by omega)];rfl
theorem qba{s:qxA}(hd:q9r s)(hn:s≠[]):∃c t,s=c::t/\48<=c.toNat/\c.toNat<=57:=by
 cases s with
 | nil=>exact absurd rfl hn
 | cons c t=>exact⟨c,t,rfl,(q17.1 hd).1⟩
theorem quk(m:Int):(tI m).length<=(tN m.natAbs).length+1:=by unfold tI;split<;>simp
theorem qmd(m:Int):0<(tI m).length:=by have:=qh2 m.natAbs;unfold tI;split<;>simp<;>omega
theorem qoM{m n:Int}(h:tI m=tI n):m=n:=by
 have key:∀{m n:Int},m<0->¬n<0->tI m≠tI n:=by intro m n h1 h2 e;rw[q9y h1,qd8 h2] at e;obtain⟨c,t,hc,h3,h4⟩:=qba (jh n.natAbs) (qgy _);rw[hc] at e;have:=(List.cons.inj e).1;rw[<-this] at h3;exact absurd h3 (by decide)
 by_cases h1:m<0<;>by_cases h2:n<0
 ·rw[q9y h1,q9y h2] at h;have:=qog (List.cons.inj h).2;omega
 ·exact absurd h (key h1 h2)
 ·exact absurd h.symm (key h2 h1)
 ·rw[qd8 h1,qd8 h2] at h;have:=qog h;omega
theorem quh(m:Int):(sat (tI m) 0=45)=(m<0):=by
 by_cases h:m<0
 ·rw[q9y h];simp[sat,h]
 ·rw[qd8 h];obtain⟨c,t,hc,h3,h4⟩:=qba (jh m.natAbs) (qgy _);rw[hc];simp[sat,h];omega
theorem qs0{s:qxA}(h:q9r s)(i:Nat):q9r (s.take i):=fun c hc=>h c (qzg hc)
theorem qrO{s:qxA}(h:q9r s)(i:Nat):q9r (s.drop i):=fun c hc=>h c (qzh hc)
theorem qtd{d:Int}(h0:0<=d)(h:d<10):qvP [[.i (qpx .u8 (wT .i64 48 d))]]=[dch d.toNat]:=by rw[vZ (by omega),qwL (by omega)];show [UInt8.ofNat (48+d).toNat]=[UInt8.ofNat (48+d.toNat)];rw[show (48+d).toNat=48+d.toNat by omega]
theorem of_le{a:Nat}{r:qxA}(ha:a<10)(hr:r.length<=1000):zG (qvP [[(.i (qpx .u8 (wT .i64 48 (a:Int))))]])+zG r<=140737488355328:=by rw[qtd (by omega) (by omega)];show (1:Int)+(r.length:Int)<=_;omega
theorem qoj(a b:Nat):qlt (a:Int) (b:Int)=((max a b:Nat):Int):=by unfold qlt;split<;>omega
theorem quT(m n:Nat):(tN (m+n)).length<=max (tN m).length (tN n).length+1:=by have h1:=qa5 (jh m);have h2:=qa5 (jh n);rw[q2R] at h1 h2;have p1:10^(tN m).length<=10^(max (tN m).length (tN n).length):=qzc (by omega) (by omega);have p2:10^(tN n).length<=10^(max (tN m).length (tN n).length):=qzc (by omega) (by omega);exact q8c _ _ (by rw[qz1];omega)
theorem qnU(m n:Nat):(tN (m*n)).length<=(tN m).length+(tN n).length:=by
 have h1:=qa5 (jh m);have h2:=qa5 (jh n);rw[q2R] at h1 h2;have h3:=qh2 m;have h4:=qh2 n;have:m*n<10^((tN m).length+(tN n).length):=by rw[Nat.pow_add];exact Nat.mul_lt_mul'' h1 h2
 have:=q8c ((tN m).length+(tN n).length-1) (m*n) (by rwa [show (tN m).length+(tN n).length-1+1=(tN m).length+(tN n).length by omega]);omega
def nl(m:Int):Nat:=(tN m.natAbs).length
theorem qh6(m:Int):0<nl m:=qh2 _
theorem qrz(m:Int):nl (-m)=nl m:=by unfold nl;rw[Int.natAbs_neg]
theorem qoR(m n:Int):nl (m+n)<=max (nl m) (nl n)+1:=by unfold nl;exact qxJ (q95 (Int.natAbs_add_le m n)) (quT _ _)
theorem q1N(m n:Int):nl (m*n)<=nl m+nl n:=by unfold nl;rw[qyH];exact qnU _ _
theorem qwI{m:Int}{k:Nat}(h:nl m<=k):m.natAbs<10^k:=qdY h
def sgn(n:Int):Int:=if n<0 then -1 else if n=0 then 0 else 1
theorem jj{l:List Int}{j:Nat}(h:j<l.length):l.getD j 0=l[j]:=by simp[h]
theorem qpR(m:Int){n:Int}(hn:n≠0):n*m.tdiv n+qp2 m n=m/\(qp2 m n).natAbs<n.natAbs/\(0<=m->0<=qp2 m n)/\(m<=0->qp2 m n<=0):=by
 unfold qp2;refine⟨Int.mul_tdiv_add_tmod m n,?_,fun h=>Int.tmod_nonneg n h,fun h=>?_⟩
 ·rw[Int.natAbs_tmod];exact Nat.mod_lt _ (by omega)
 ·have:=Int.tmod_nonneg n (show 0<=-m by omega);rw[Int.neg_tmod] at this;omega
theorem qq6{n t:Int}(hn:n≠0)(h:-9223372036854775808<=t/\t<=9223372036854775807):qbh .i64 (n*t) n=t:=by unfold qbh;rw[Int.mul_tdiv_cancel_left _ hn];unfold IntKind.wrap;simp[IntKind.signed,IntKind.bits];omega
theorem qwM:tI 1=[49]:=rfl
def eM(a b:Nat):Nat:=if b=0 then 0 else Nat.log2 (a*b)+1+if a<b then 1 else 0
theorem qrd{m n:Nat}(h:m<=n):Nat.log2 m<=Nat.log2 n:=by
 by_cases hm:m=0
 ·subst hm;simp
 ·rcases qxG (Nat.log2 n) (Nat.log2 m) with h1|h1
  ·have:=(Nat.log2_lt (show n≠0 by omega)).1 h1;have h2:=Nat.log2_self_le hm;omega
  ·exact h1
theorem quV{a b:Nat}(hb:b≠0):eM b (a%b)<eM a b:=by
 have hlt:=Nat.mod_lt a (show 0<b by omega);unfold eM;rw[if_neg hb];by_cases hr:a%b=0
 ·rw[if_pos hr];omega
 ·rw[if_neg hr,if_neg (show ¬b<a%b by omega)];by_cases hab:a<b
  ·rw[if_pos hab,Nat.mod_eq_of_lt hab,Nat.mul_comm b a];omega
  ·rw[if_neg hab];have hd:=Nat.div_add_mod a b;have hq:1<=a/b:=(Nat.le_div_iff_mul_le (by omega)).2 (by omega);have h1:b*1<=b*(a/b):=Nat.mul_le_mul_left _ hq;have h2:2*(b*(a%b))<=a*b:=by
    have:2*(a%b)<=a:=by omega
    have:=qy8 b this;rw[Nat.mul_assoc,Nat.mul_comm (a%b) b] at this;exact this
   have h3:=qrd h2;have h4:Nat.log2 (2*(b*(a%b)))=Nat.log2 (b*(a%b))+1:=by apply Nat.log2_two_mul;exact Nat.mul_ne_zero hb hr
   omega
theorem qqT{x k j:Nat}(h:(tN x).length<=k)(hj:4*k=j):x<2^j:=by
 have h3:x<10^k:=qdY h;have h4:(10:Nat)^k<=16^k:=Nat.pow_le_pow_left (by omega) _;have h5:(16:Nat)^k=2^j:=by rw[show (16:Nat)=2^4 from rfl,<-Nat.pow_mul,hj]
 rw[h5] at h4;exact qyG h3 h4
theorem qtq{a b:Nat}(ha:(tN a).length<=400000)(hb:(tN b).length<=400000):eM a b<9223372036854775808:=by
 unfold eM;have h1:=qnU a b;by_cases h0:a*b=0
 ·rw[h0];simp;split<;>(try split)<;>omega
 ·obtain⟨j,hj⟩:∃j,j=3200000:=⟨_,rfl⟩;have h2:a*b<2^j:=qqT (k:=800000) (by omega) (by omega);have:=(Nat.log2_lt h0).2 h2;split<;>(try split)<;>omega
def mag(s:qxA):List UInt8:=if s.getD 0 0=45 then s.drop 1 else s
theorem qmc(m:Int):mag (tI m)=tN m.natAbs:=by
 unfold mag;by_cases h:m<0
 ·rw[q9y h];simp
 ·rw[qd8 h];obtain⟨c,t,e,h1,h2⟩:=qba (jh m.natAbs) (qgy _);rw[e];simp only[qyT];rw[if_neg];intro hc;subst hc;revert h1;decide
theorem qsP(s:qxA):(∃m:Int,s=tI m)↔mag s≠[]/\q9r (mag s)/\((mag s).getD 0 0=48->s.length=1):=by
 constructor
 ·rintro ⟨m,rfl⟩;rw[qmc];refine⟨qgy _,jh _,fun h=>?_⟩;rcases qqy m.natAbs with h1|h1
  ·have h2:=ql0 m.natAbs;have hv:m.natAbs=0:=by obtain⟨c,e⟩:∃c,tN m.natAbs=[c]:=List.length_eq_one_iff.1 h1;rw[e] at h;simp at h;have:=q2R m.natAbs;rw[e,h] at this;simpa[val,dv] using this.symm
   have hm0:m=0:=by omega
   rw[hm0];rfl
  ·exact absurd h h1
 ·rintro ⟨h1,h2,h3⟩;by_cases h45:s.getD 0 0=45
  ·have hm:mag s=s.drop 1:=by unfold mag;rw[if_pos h45]
   obtain⟨c,t,rfl⟩:∃c t,s=c::t:=by
    cases s with
    | nil=>simp at h45
    | cons c t=>exact⟨c,t,rfl⟩
   simp at h45;subst h45;rw[hm] at h1 h2 h3;simp only[List.drop_succ_cons,List.drop_zero] at h1 h2 h3;have h4:t.getD 0 0≠48:=fun h=>by have:=h3 h;simp at this;exact h1 this
   have hv:=qow h2 h1 h4;have hp:0<10^(t.length-1):=Nat.pow_pos (by omega);refine⟨-((val t:Nat):Int),?_⟩;rw[q9y (by omega)];simp only[Int.natAbs_neg,Int.natAbs_natCast];rw[<-qn6 h2 h1 (.inr h4)]
  ·have hm:mag s=s:=by unfold mag;rw[if_neg h45]
   rw[hm] at h1 h2 h3;refine⟨((val s:Nat):Int),?_⟩;rw[q9V];refine qn6 h2 h1 ?_;by_cases h4:s.getD 0 0=48
   ·exact .inl (h3 h4)
   ·exact .inr h4
open Classical in
noncomputable def qp5(s:qxA):Int:=if ∃m:Int,s=tI m then (if (mag s).length<=1024 then 0 else 11) else 3
end Go.Eng

namespace Go.Eng
variable {q:Rat}
def tQ(q:Rat):List UInt8:=if q.den=1 then tI q.num else tI q.num++47::tN q.den
def dl(n:Nat):Nat:=(tN n).length
def qn(q:Rat):Nat:=nl q.num
def qd(q:Rat):Nat:=dl q.den
theorem qqx {s:qxA}(h:q9r s):∀c,c∈s->c≠47:=fun c hc e=>by have:=h c hc;rw[e] at this;revert this;decide
theorem qiu (m:Int):∀c,c∈tI m->c≠47:=by
 intro c hc;unfold tI at hc;split at hc
 ·rcases qxP.1 hc with rfl|hc
  ·decide
  ·exact qqx (jh _) c hc
 ·exact qqx (jh _) c hc
theorem qp0:∀{s s' t t':qxA},(∀c,c∈s->c≠47)->(∀c,c∈s'->c≠47)->s++47::t=s'++47::t'->s=s'/\t=t'
 | [],[],t,t',_,_,h=>⟨rfl,by simpa using h⟩
 | [],c::s',t,t',_,h2,h=>by
  simp only[qyN,qyn,qyF] at h;exact absurd h.1.symm (h2 c qxM)
 | c::s,[],t,t',h1,_,h=>by
  simp only[qyN,qyn,qyF] at h;exact absurd h.1 (h1 c qxM)
 | c::s,c'::s',t,t',h1,h2,h=>by
  simp only[qyn,qyF] at h;obtain⟨e1,e2⟩:=qp0 (fun c hc=>h1 c (qxQ _ hc)) (fun c hc=>h2 c (qxQ _ hc)) h.2;exact⟨by rw[h.1,e1],e2⟩
theorem q6r (h:q.den=1):tQ q=tI q.num:=by unfold tQ;rw[if_pos h]
theorem q2X (h:q.den≠1):tQ q=tI q.num++47::tN q.den:=by unfold tQ;rw[if_neg h]
theorem qwH {a b:Rat}(h:tQ a=tQ b):a=b:=by
 by_cases ha:a.den=1<;>by_cases hb:b.den=1
 ·rw[q6r ha,q6r hb] at h;exact Rat.ext (qoM h) (ha.trans hb.symm)
 ·rw[q6r ha,q2X hb] at h;exact absurd rfl (qiu a.num 47 (by rw[h];simp))
 ·rw[q2X ha,q6r hb] at h;exact absurd rfl (qiu b.num 47 (by rw[<-h];simp))
 ·rw[q2X ha,q2X hb] at h;obtain⟨e1,e2⟩:=qp0 (qiu _) (qiu _) h;exact Rat.ext (qoM e1) (qog e2)
theorem qpe (a b:Rat):(tQ a=tQ b)=(a=b):=propext ⟨qwH,fun h=>by rw[h]⟩
theorem qrB (m:Int):tQ (m:Rat)=tI m:=q6r (by simp)
theorem qtX (n:Nat):tQ (OfNat.ofNat n:Rat)=tN n:=by rw[q6r (by simp)];simp only[Rat.num_ofNat];exact q9V n
theorem qas {m n:Int}(h:m.natAbs<=n.natAbs):nl m<=nl n:=q95 h
theorem qqR {m n:Nat}(h:m<=n):dl m<=dl n:=q95 h
theorem qrF (n:Nat):nl (n:Int)=dl n:=rfl
theorem qrW (m n:Nat):dl (m*n)<=dl m+dl n:=qnU m n
theorem qsj (m n:Int):nl (m-n)<=max (nl m) (nl n)+1:=by
 rw[Int.sub_eq_add_neg];have:=qoR m (-n)
 rwa [qrz] at this
theorem q6C (N:Int)(D:Nat):nl (mkRat N D).num<=nl N/\dl (mkRat N D).den<=dl D:=by
 rw[Rat.num_mkRat,Rat.den_mkRat];by_cases h:D=0
 ·rw[if_pos h,if_pos h,h];exact⟨qas (by simp),by decide⟩
 ·rw[if_neg h,if_neg h];exact⟨qas (Int.natAbs_ediv_le_natAbs _ _),qqR (Nat.div_le_self _ _)⟩
theorem quu (a b:Rat):qn (a*b)<=qn a+qn b:=by unfold qn;rw[Rat.mul_def'];exact qxJ (q6C _ _).1 (q1N _ _)
theorem qus (a b:Rat):qd (a*b)<=qd a+qd b:=by unfold qd;rw[Rat.mul_def'];exact qxJ (q6C _ _).2 (qrW _ _)
theorem qwk (a b:Rat):qn (a+b)<=max (qn a+qd b) (qn b+qd a)+1:=by unfold qn qd;rw[Rat.add_def'];have h1:=(q6C (a.num*b.den+b.num*a.den) (a.den*b.den)).1;have h2:=qoR (a.num*b.den) (b.num*a.den);have h3:=q1N a.num b.den;have h4:=q1N b.num a.den;rw[qrF] at h3 h4;omega
theorem qw7 (a b:Rat):qd (a+b)<=qd a+qd b:=by unfold qd;rw[Rat.add_def'];exact qxJ (q6C _ _).2 (qrW _ _)
theorem qwy (a b:Rat):qn (a-b)<=max (qn a+qd b) (qn b+qd a)+1:=by unfold qn qd;rw[Rat.sub_def'];have h1:=(q6C (a.num*b.den-b.num*a.den) (a.den*b.den)).1;have h2:=qsj (a.num*b.den) (b.num*a.den);have h3:=q1N a.num b.den;have h4:=q1N b.num a.den;rw[qrF] at h3 h4;omega
theorem qwE (a b:Rat):qd (a-b)<=qd a+qd b:=by unfold qd;rw[Rat.sub_def'];exact qxJ (q6C _ _).2 (qrW _ _)
theorem qw9 (a:Rat):qn (-a)=qn a:=by unfold qn;rw[Rat.neg_num,qrz]
theorem qhR (a:Rat):0<qn a:=qh6 _
theorem qoG (a:Rat):0<qd a:=qh2 _
theorem qw4 {a:Rat}(h:a≠0):qn a⁻¹<=qd a:=by unfold qn qd;rw[Rat.num_inv,<-qrF];apply qas;rw[qyH,Int.natAbs_sign_of_ne_zero (by rwa [Ne,Rat.num_eq_zero])];simp
theorem qwg {a:Rat}(h:a≠0):qd a⁻¹<=qn a:=by unfold qn qd;rw[Rat.den_inv,if_neg (by rwa [Rat.num_eq_zero])];exact qxC _
theorem qw8 (a:Rat){b:Rat}(h:b≠0):qn (a/b)<=qn a+qd b:=by rw[Rat.div_def];exact qxJ (quu _ _) (Nat.add_le_add_left (qw4 h) _)
theorem qwj (a:Rat){b:Rat}(h:b≠0):qd (a/b)<=qd a+qn b:=by rw[Rat.div_def];exact qxJ (qus _ _) (Nat.add_le_add_left (qwg h) _)
def sgq(q:Rat):Int:=sgn q.num
theorem q8o {m k:Int}(hk:0<k):sgn (m*k)=sgn m:=by
 unfold sgn;rcases qyI m 0 with h|h|h
 ·have:=qzo h hk;rw[if_pos h,if_pos this]
 ·subst h;simp
 ·have:=Int.mul_pos h hk;rw[if_neg (by omega),if_neg (by omega),if_neg (by omega),if_neg (by omega)]
theorem qvh (m:Int):sgn (-m)=-sgn m:=by
 unfold sgn;rcases qyI m 0 with h|h|h
 ·rw[if_pos h,if_neg (by omega),if_neg (by omega)];rfl
 ·subst h;rfl
 ·rw[if_pos (by omega),if_neg (by omega),if_neg (by omega)]
theorem qnO (h:0<q):sgq q=1:=by
 unfold sgq sgn;have h1:0<=q.num:=Rat.num_nonneg.2 (Rat.le_of_lt h);have h2:q.num≠0:=fun e=>by rw[Rat.num_eq_zero] at e;rw[e] at h;exact Rat.lt_irrefl h
 rw[if_neg (by omega),if_neg h2]
theorem qv2 (q:Rat):sgq (-q)=-sgq q:=by unfold sgq;rw[Rat.neg_num,qvh]
theorem quq (h:q<0):sgq q=-1:=by
 have h1:0 < -q:=by grind
 have:=qnO h1;rw[qv2] at this;omega
theorem qsd (q:Rat):(q<0/\sgq q=-1)\/(q=0/\sgq q=0)\/(0<q/\sgq q=1):=by
 by_cases h1:q<0
 ·exact .inl ⟨h1,quq h1⟩
 ·by_cases h2:q=0
  ·exact .inr (.inl ⟨h2,by rw[h2];rfl⟩)
  ·exact .inr (.inr ⟨by grind,qnO (by grind)⟩)
end Go.Eng

namespace Go.Eng
def sP(s:qxA):Nat:=s.findIdx (·==47)
def spn(s:qxA):List UInt8:=s.take (sP s)
def spd(s:qxA):List UInt8:=if sP s<s.length then s.drop (sP s+1) else [49]
theorem qve(s:qxA):sP s<=s.length:=List.findIdx_le_length
theorem qwz{s:qxA}{i:Nat}(h:i<s.length)(h1:s[i]=47)(h2:∀j (hj:j<i),s[j]≠47):sP s=i:=by unfold sP;rw[List.findIdx_eq h];exact⟨by simp[h1],fun j hj=>by simp[h2 j hj]⟩
theorem qnC{s:qxA}(h:∀c,c∈s->c≠47):sP s=s.length:=by unfold sP;rw[List.findIdx_eq_length];intro x hx;simpa using h x hx
theorem qsS{s t:qxA}(h:∀c,c∈s->c≠47):sP (s++47::t)=s.length:=by
 apply qwz (by simp)
 ·simp
 ·intro j hj;rw[List.getElem_append_left hj];exact h _ (qyu hj)
theorem qup(q:Rat):spn (tQ q)=tI q.num:=by
 unfold spn;by_cases h:q.den=1
 ·rw[q6r h,qnC (qiu _),qzd]
 ·rw[q2X h,qsS (qiu _)];simp
theorem quw(q:Rat):spd (tQ q)=tN q.den:=by
 unfold spd;by_cases h:q.den=1
 ·rw[q6r h,qnC (qiu _),if_neg (Nat.lt_irrefl _),h];rfl
 ·rw[q2X h,qsS (qiu _),if_pos (by simp)];simp
theorem qwt(q:Rat):(tQ q).length<=qn q+qd q+2:=by
 have h1:=quk q.num;unfold qn qd nl dl;by_cases h:q.den=1
 ·rw[q6r h];omega
 ·rw[q2X h];simp;omega
theorem qbu(n:Nat):(tN n=[49])=(n=1):=by have:tN 1=[49]:=rfl;rw[<-this];exact propext ⟨fun h=>qog h,fun h=>by rw[h]⟩
theorem qtY(a:Rat):(0:Int)<(a.den:Int):=by have:=a.den_nz;omega
def qiY(a b c:Rat):Int:=if 0<=sgq a*(sgq b*sgq c) then (if sgq a=0 then sgq b*sgq c else sgq a) else sgq a*sgq (a*a-b*b*c)
theorem qx6{x y:Int}(hx:-1<=x/\x<=1)(hy:-1<=y/\y<=1):-1<=x*y/\x*y<=1:=by have:=qvr (A:=1) (B:=1) hx.1 hx.2 hy.1 hy.2;omega
theorem qf8{x y:Int}(hx:-1<=x/\x<=1)(hy:-1<=y/\y<=1):q8T .i64 x y=x*y:=q3i (by have:=qx6 hx hy;omega)
variable {n:Nat}
def mv:List Int->Int
 | []=>0
 | x::l=>x+1000000000*mv l
def pB(n:Nat):Int:=1000000000^n
theorem q2j:pB 0=1:=rfl
theorem q5u (n:Nat):pB (n+1)=pB n*1000000000:=Int.pow_succ _ _
theorem q6s:∀n,0<pB n
 | 0=>by decide
 | n+1=>by rw[q5u];have:=q6s n;omega
theorem qwS (m n:Nat):pB (m+n)=pB m*pB n:=Int.pow_add _ _ _
theorem q7n {m n:Nat}(h:m<=n):pB m<=pB n:=by
 obtain⟨k,rfl⟩:∃k,n=m+k:=⟨n-m,by omega⟩;induction k with
 | zero=>simp
 | succ k ih=>
  have h1:=ih (by omega);rw[show m+(k+1)=(m+k)+1 by omega,q5u];have:=q6s (m+k);omega
def dgs(l:List Int):Prop:=∀x,x∈l->0<=x/\x<1000000000
theorem qou:∀(l:List Int) (j:Nat) (h:j<l.length) (y:Int),mv (l.set j y)=mv l+(y-l[j])*pB j
 | [],j,h,_=>by simp at h
 | x::l,0,_,y=>by simp only[List.set_cons_zero,mv,List.getElem_cons_zero,q2j];omega
 | x::l,j+1,h,y=>by
  have ih:=qou l j (by simpa using h) y;simp only[List.set_cons_succ,mv,List.getElem_cons_succ,q5u];rw[ih];grind
theorem qpk:∀(l:List Int) (n:Nat),dgs l->(∀i,n<=i->l.getD i 0=0)->0<=mv l/\mv l<pB n
 | [],n,_,_=>⟨qxT _,q6s n⟩
 | x::l,0,hd,hz=>by
  have ih:=qpk l 0 (fun y hy=>hd y (qxQ _ hy)) (fun i _=>by have:=hz (i+1) (by omega);simpa using this);have hx:x=0:=by simpa using hz 0 (by omega)
  rw[q2j] at ih ⊢;simp only[mv];omega
 | x::l,n+1,hd,hz=>by
  have ih:=qpk l n (fun y hy=>hd y (qxQ _ hy)) (fun i hi=>by have:=hz (i+1) (by omega);simpa using this);have hx:=hd x qxM;rw[q5u];simp only[mv];generalize pB n=p at *;omega
theorem qw5:∀(l:List Int) (j:Nat) (h:j<l.length),dgs l->l[j]≠0->pB j<=mv l
 | [],j,h,_,_=>by simp at h
 | x::l,0,_,hd,hx=>by
  have h1:=hd x qxM;have h2:=(qpk l l.length (fun y hy=>hd y (qxQ _ hy)) (fun i hi=>by simp[hi])).1;simp only[List.getElem_cons_zero] at hx;simp only[mv,q2j];omega
 | x::l,j+1,h,hd,hx=>by
  have ih:=qw5 l j (by simpa using h) (fun y hy=>hd y (qxQ _ hy)) (by simpa using hx);have h1:=hd x qxM;rw[q5u];simp only[mv];omega
theorem qoL:∀(s t:List Int),mv (s++t)=mv s+pB s.length*mv t
 | [],t=>by simp[mv,q2j]
 | x::s,t=>by
  simp only[qyn,mv,qy9,q5u];rw[qoL s t];grind
theorem q9a (n:Nat):mv (List.replicate n 0)=0:=by
 induction n with
 | zero=>rfl
 | succ n ih=>simp[qyQ,mv,ih]
theorem q7A {l:List Int}{i:Nat}(h:i<l.length):mv (l.drop i)=l[i]+1000000000*mv (l.drop (i+1)):=by rw[List.drop_eq_getElem_cons h];rfl
theorem w8 {l:List Int}{n i:Nat}(hd:dgs l)(hz:∀i,n<=i->l.getD i 0=0)(hi:n<=i):mv (l.drop i)=0:=by have:=qpk (l.drop i) 0 (fun x hx=>hd x (qzh hx)) (fun j _=>by have:=hz (i+j) (by omega);simpa[qxE] using this);rw[q2j] at this;omega
structure WOK (n:Nat) (l:List Int):Prop where
 len:l.length=232
 le:n<=232
 dig:dgs l
 z:∀i,n<=i->l.getD i 0=0
def nrm(n:Nat)(l:List Int):Prop:=n=0\/l.getD (n-1) 0≠0
theorem WOK.bd {l:List Int}(h:WOK n l):0<=mv l/\mv l<pB n:=qpk l n h.dig h.z
theorem WOK.lo {l:List Int}(h:WOK n l)(hn:nrm n l)(h0:n≠0):pB (n-1)<=mv l:=by
 have h1:=h.le;have h2:=h.len;rcases hn with hn|hn
 ·exact absurd hn h0
 ·refine qw5 l (n-1) (by omega) h.dig ?_
  rwa [jj (by omega)] at hn
theorem qlX (N i:Nat):(List.replicate N (0:Int)).getD i 0=0:=by rw[qxE,List.getElem?_replicate];split<;>rfl
theorem qr5 (N:Nat):dgs (List.replicate N 0):=fun x hx=>by have:=(List.mem_replicate.1 hx).2;omega
theorem WOK.zero:WOK 0 (List.replicate 232 0):=⟨List.length_replicate,by omega,qr5 232,fun i _=>qlX 232 i⟩
theorem WOK.get {l:List Int}(h:WOK n l)(i:Nat):0<=l.getD i 0/\l.getD i 0<1000000000:=by
 rcases qxG i l.length with hi|hi
 ·rw[jj hi];exact h.dig _ (qyu hi)
 ·simp[hi]
theorem WOK.setW {l:List Int}(h:WOK n l){j:Nat}{y:Int}(hj:j<232)(hy:0<=y/\y<1000000000):WOK (max n (j+1)) (l.set j y):=by
 have h1:=h.le;refine⟨by simp[h.len],by omega,fun x hx=>?_,fun i hi=>?_⟩
 ·rcases qzn hx with hx|rfl
  ·exact h.dig x hx
  ·exact hy
 ·have:=h.z i (by omega);rw[qxE,qxD (by omega),<-qxE];exact this
theorem q1R (l:List Int)(i:Nat):cI (rI l) (i:Int) 0=l.getD i 0:=by rw[qx4,qy1]
theorem qcv (l:List Int)(i:Nat)(v:Int):q9e (rI l) (i:Int) 0 [.i v]=rI (l.set i v):=by rw[qvX,qy1]
theorem qdT {l:List Int}(h:WOK n l)(b:Bool):∃m,(qB [.b b,.i (n:Int),.r (rI l)]).run=some (0,[.b b,.i ((m:Nat):Int),.r (rI l)])/\WOK m l/\nrm m l:=by
 rw[qaD];have h232:=h.le;obtain⟨j,qs,h1,rfl,m,rfl,h3,h4⟩:=q50 (S:=wX) (fun k ps=>ps=[.b b,.i (k:Int),.r (rI l)]/\WOK k l)
  (fun j qs=>j=0/\∃m:Nat,qs=[.b b,.i (m:Int),.r (rI l)]/\WOK m l/\nrm m l) (n:=n) (by omega) (fun k ps hk ⟨hps,hw⟩=>by
  subst hps;rw[q93];have hk2:=hw.le;by_cases h0:k=0
  ·right;refine⟨0,_,?_,rfl,k,rfl,hw,.inl h0⟩;simp only[STD,h0];rfl
  ·have hs:q3e .i64 (k:Int) 1=((k-1:Nat):Int):=by rw[yN (by omega)];omega
   have a1:(0:Int)<(k:Int):=by omega
   have a2:(0:Int)<=((k-1:Nat):Int)/\((k-1:Nat):Int)<232:=by omega
   by_cases hz:l.getD (k-1) 0=0
   ·left;refine⟨k-1,[.b b,.i ((k-1:Nat):Int),.r (rI l)],by omega,?_,rfl,hw.len,by omega,hw.dig,fun i hi=>?_⟩
    ·simp only[STD,a1,hs,a2,q1R,hz,and_self]
    ·rcases qyJ hi with e|e
     ·rw[<-e];exact hz
     ·exact hw.z i (by omega)
   ·right;refine⟨0,[.b b,.i (k:Int),.r (rI l)],?_,rfl,k,rfl,hw,.inr hz⟩;simp only[STD,a1,hs,a2,q1R,hz,and_self]) (ps:=[.b b,.i (n:Int),.r (rI l)]) ⟨rfl,h⟩
 exact⟨m,by simp only[STD,h1],h3,h4⟩
theorem qwd (s:Int):∃q r:Int,s.tdiv 1000000000=q/\s=q*1000000000+r/\(0<=s->0<=r)/\(s<=0->r<=0)/\-1000000000<r/\r<1000000000:=by obtain⟨h1,h2,h3,h4⟩:=qpR s (show (1000000000:Int)≠0 by decide);refine⟨_,qp2 s 1000000000,rfl,by omega,h3,h4,by omega,by omega⟩
theorem qpB {f up rest:Int}{i n j:Nat}{l ly:List Int}{bx b2:Bool}{ny:Nat}{S:Int}(hj:((j:Nat):Int)=wT .i64 (i:Int) up)(hj2:j<232)(hw:WOK n l)(hin:i<233)(hS:S=if i<ny then l.getD j 0+rest+f*ly.getD i 0 else l.getD j 0+rest) (hr:-1000000000<=rest/\rest<=1000000000) (hfy:-999999999999999999<=f*ly.getD i 0/\f*ly.getD i 0<=999999999999999999) (hny:ny<=232)(hgo:i<ny\/rest≠0) :∃q s:Int,S=q*1000000000+s/\0<=s/\s<1000000000 /\(wI [.i f,.i up,.i rest,.i (i:Int),.b bx,.i (n:Int),.r (rI l),.b b2,.i (ny:Int),.r (rI ly)]).run=some (0,[.i f,.i up,.i q,.i ((i+1:Nat):Int),.b bx,.i ((max n (j+1):Nat):Int),.r (rI (l.set j s)),.b b2,.i (ny:Int),.r (rI ly)]):=by
 have hg:=hw.get j;obtain⟨q,r,e1,e2,e3,e4,e5,e6⟩:=qwd S;have hSb:-1000000000999999999<=S/\S<=1000000001999999998:=by rw[hS];split<;>omega
 have w1:qbh .i64 S 1000000000=q:=by unfold qbh;rw[e1];unfold IntKind.wrap;simp[IntKind.signed,IntKind.bits];omega
 have w2:q8T .i64 q 1000000000=q*1000000000:=q3i (by omega);have w3:q3e .i64 S (q*1000000000)=r:=by rw[yN (by omega)];omega
 have w4:wT .i64 (l.getD j 0) rest=l.getD j 0+rest:=vZ (by omega);have w5:wT .i64 (i:Int) 1=((i+1:Nat):Int):=by rw[vZ (by omega)];omega
 have w6:wT .i64 (j:Int) 1=((j+1:Nat):Int):=by rw[vZ (by omega)];omega
 have w7:qlt (n:Int) ((j+1:Nat):Int)=((max n (j+1):Nat):Int):=qoj _ _;have a1:(0:Int)<=(j:Int)/\(j:Int)<232:=by omega
 have hw8:r<0->wT .i64 r 1000000000=r+1000000000:=fun _=>vZ (by omega);have hw9:r<0->q3e .i64 q 1=q-1:=fun _=>yN (by omega);rw[q3V];by_cases hi:i<ny
 ·rw[if_pos hi] at hS;have a2:(i:Int)<(ny:Int):=by omega
  have a3:(0:Int)<=(i:Int)/\(i:Int)<232:=by omega
  have w10:q8T .i64 f (ly.getD i 0)=f*ly.getD i 0:=q3i (by omega);have w11:wT .i64 (l.getD j 0+rest) (f*ly.getD i 0)=S:=by rw[vZ (by omega),hS]
  by_cases hneg:r<0
  ·refine⟨q-1,r+1000000000,by omega,by omega,by omega,?_⟩;simp only[STD,a2,<-hj,a1,a3,q1R,w4,w10,w11,w1,w2,w3,hneg,hw8 hneg,hw9 hneg,w5,w6,w7,qcv,and_self]
  ·refine⟨q,r,by omega,by omega,by omega,?_⟩;simp only[STD,a2,<-hj,a1,a3,q1R,w4,w10,w11,w1,w2,w3,hneg,w5,w6,w7,qcv,and_self]
 ·rw[if_neg hi] at hS;have hr0:rest≠0:=hgo.resolve_left hi;have a2:¬(i:Int)<(ny:Int):=by omega
  rw[<-hS] at w4;by_cases hneg:r<0
  ·refine⟨q-1,r+1000000000,by omega,by omega,by omega,?_⟩;simp only[STD,a2,hr0,<-hj,a1,q1R,w4,w1,w2,w3,hneg,hw8 hneg,hw9 hneg,w5,w6,w7,qcv,and_self]
  ·refine⟨q,r,by omega,by omega,by omega,?_⟩;simp only[STD,a2,hr0,<-hj,a1,q1R,w4,w1,w2,w3,hneg,w5,w6,w7,qcv,and_self]
theorem qhf {f:Int}{up nx ny:Nat}{lx ly:List Int}(hx:WOK nx lx)(hy:WOK ny ly)(hf:-999999999<=f/\f<=999999999)(hup:ny+up<=232){T:Int}(hT:T=mv lx+f*mv ly*pB up)(h0:0<=T)(h1:T<pB 232)(bx b2:Bool) :∃(n:Nat) (l:List Int),(qH [.i f,.i (up:Int),.b bx,.i (nx:Int),.r (rI lx),.b b2,.i (ny:Int),.r (rI ly)]).run=some (0,[.b bx,.i (n:Int),.r (rI l),.b b2,.i (ny:Int),.r (rI ly)])/\WOK n l/\nrm n l/\mv l=T:=by
 rw[qco];have hny:=hy.le;obtain⟨j,qs,g1,rfl,n,l,rfl,g3,g4⟩:=q50 (S:=wI) (fun k ps=>∃(i n:Nat) (rest:Int) (l:List Int),ps=[.i f,.i (up:Int),.i rest,.i (i:Int),.b bx,.i (n:Int),.r (rI l),.b b2,.i (ny:Int),.r (rI ly)] /\
   i+k=300/\i<=232/\WOK n l/\-1000000000<=rest/\rest<=1000000000/\mv l+rest*pB (i+up)+f*mv (ly.drop i)*pB (i+up)=T)
  (fun j qs=>j=0/\∃(n:Nat) (l:List Int),qs=[.b bx,.i (n:Int),.r (rI l),.b b2,.i (ny:Int),.r (rI ly)]/\WOK n l/\mv l=T) (n:=300) (by omega) (fun k ps hk ⟨i,n,rest,l,hps,hik,hi,hw,hr1,hr2,hv⟩=>by
  subst hps;have hg:=hy.get i;have hfy:=qvr (A:=999999999) (B:=999999999) hf.1 hf.2 (show -(999999999:Int)<=ly.getD i 0 by omega) (show ly.getD i 0<=999999999 by omega);have hbd:=hw.bd;have hn232:=hw.le;by_cases hgo:i<ny\/rest≠0
  ·left;have hj:i+up<232:=by
    rcases qxG i ny with h|h
    ·omega
    ·rcases qxG (i+up) 232 with h2|h2
     ·exact h2
     ·exfalso;have hr0:=hgo.resolve_left (by omega);rw[w8 hy.dig hy.z h] at hv;have hP:=q7n h2;have hlt:=q7n hn232;simp only[qys,Int.zero_mul,Int.add_zero] at hv;generalize pB (i+up)=P at *;rcases Int.lt_or_lt_of_ne hr0 with h3|h3
      ·have:rest*P<=-1*P:=qz3 (by omega) (by have:=q6s 232;omega);omega
      ·have:1*P<=rest*P:=qz3 (by omega) (by have:=q6s 232;omega);omega
   have hjw:(((i+up:Nat)):Int)=wT .i64 (i:Int) (up:Int):=by rw[vZ (by omega)];omega
   obtain⟨q,s,s1,s2,s3,s4⟩:=qpB (bx:=bx) (b2:=b2) (f:=f) (ly:=ly) hjw hj hw (by omega) rfl ⟨hr1,hr2⟩ (by omega) hny hgo;refine⟨k-1,_,by omega,s4,i+1,_,q,_,rfl,by omega,by omega,hw.setW hj ⟨s2,s3⟩,?_,?_,?_⟩
   ·have hgl:=hw.get (i+up);split at s1<;>omega
   ·have hgl:=hw.get (i+up);split at s1<;>omega
   ·have hjl:i+up<l.length:=by rw[hw.len];exact hj
    rw[qou l (i+up) hjl,<-hv,show i+1+up=(i+up)+1 by omega,q5u];rw[jj hjl] at s1;have hil:i<ly.length:=by rw[hy.len];omega
    rw[q7A hil];rw[jj hil] at s1;generalize pB (i+up)=P at *;generalize l[i+up]=d at *;by_cases hiny:i<ny
    ·rw[if_pos hiny] at s1;generalize ly[i]=y at *;generalize mv (ly.drop (i+1))=m at *;grind
    ·rw[if_neg hiny] at s1;have z1:ly[i]=0:=by rw[<-jj hil];exact hy.z i (by omega)
     rw[z1,w8 hy.dig hy.z (show ny<=i+1 by omega)];grind
  ·right;have c1:¬i<ny:=fun h=>hgo (.inl h);have c2:rest=0:=Decidable.byContradiction fun h=>hgo (.inr h);refine⟨0,[.b bx,.i (n:Int),.r (rI l),.b b2,.i (ny:Int),.r (rI ly)],?_,rfl,n,l,rfl,hw,?_⟩
   ·rw[q3V];have a2:¬(i:Int)<(ny:Int):=by omega
    simp only[STD,a2,c2]
   ·rw[w8 hy.dig hy.z (by omega),c2] at hv;simp only[qys,Int.zero_mul,Int.add_zero] at hv;exact hv) (ps:=[.i f,.i (up:Int),.i 0,.i 0,.b bx,.i (nx:Int),.r (rI lx),.b b2,.i (ny:Int),.r (rI ly)])
  ⟨0,nx,0,lx,rfl,by omega,by omega,hx,by omega,by omega,by simp[hT]⟩
 obtain⟨m,t1,t2,t3⟩:=qdT g3 bx;exact⟨m,l,by simp only[STD,g1,t1],t2,t3,g4⟩
end Go.Eng

namespace Go.Eng
theorem q6T(l:List Int)(j:Nat)(h:j<=l.length):mv l=mv (l.take j)+pB j*mv (l.drop j):=by have:=qoL (l.take j) (l.drop j);rw[qza,qyA,qyB h] at this;exact this
theorem qte{l:List Int}(h:dgs l)(j:Nat):dgs (l.take j):=fun x hx=>h x (qzg hx)
theorem q5f{l:List Int}(h:dgs l)(j:Nat):0<=mv (l.take j)/\mv (l.take j)<pB j:=
 qpk (l.take j) j (qte h j) fun i hi=>by rw[qxE,qxR (by simp;omega)];rfl
theorem qfO{l:List Int}{i:Nat}(h:i<l.length):mv (l.take (i+1))=mv (l.take i)+l[i]*pB i:=by rw[List.take_succ_eq_append_getElem h,qoL,qyA,qyB (by omega)];simp only[mv];grind
theorem WOK.mono{n m:Nat}{l:List Int}(h:WOK n l)(hm:n<=m)(h2:m<=232):WOK m l:=⟨h.len,h2,h.dig,fun i hi=>h.z i (by omega)⟩
theorem qdf{n:Nat}{l:List Int}(h:WOK n l)(hn:nrm n l):(n=0)=(mv l=0):=by
 apply propext;constructor
 ·intro h0;have:=h.bd;rw[h0,q2j] at this;omega
 ·intro h0;rcases qyx n with h1|h1
  ·exact h1
  ·have:=h.lo hn (by omega);have:=q6s (n-1);omega
theorem qxm{n m:Nat}{l k:List Int}(h:WOK n l)(hn:nrm n l)(h2:WOK m k)(hle:mv l<=mv k):n<=m:=by
 rcases qxG m n with h3|h3
 ·exfalso;have h4:=h.lo hn (by omega);have h5:=h2.bd.2;have h6:=q7n (show m<=n-1 by omega);omega
 ·exact h3
theorem qop{nx ny:Nat}{lx ly:List Int}(hx:WOK nx lx)(hnx:nrm nx lx)(hy:WOK ny ly)(hny:nrm ny ly)(bx b2:Bool) :∃r:Int,(zT [.b bx,.i (nx:Int),.r (rI lx),.b b2,.i (ny:Int),.r (rI ly)]).run=some (0,[.i r,.b bx,.i (nx:Int),.r (rI lx),.b b2,.i (ny:Int),.r (rI ly)])/\((0<=r)=(mv ly<=mv lx)):=by
 rw[qbD];have h1:=hx.le;have h2:=hy.le;by_cases hne:nx=ny
 ·subst hne;have hs:q3e .i64 (nx:Int) 1=(nx:Int)-1:=yN (by omega);obtain⟨j,qs,g1,g2⟩:=q50 (S:=vB) (fun k ps=>ps=[.i ((k:Int)-1),.b bx,.i (nx:Int),.r (rI lx),.b b2,.i (nx:Int),.r (rI ly)]/\k<=nx/\mv (lx.drop k)=mv (ly.drop k))
   (fun j qs=>(j=0/\qs=[.b bx,.i (nx:Int),.r (rI lx),.b b2,.i (nx:Int),.r (rI ly)]/\mv lx=mv ly)\/(j=1/\∃r:Int,qs=[.i r,.b bx,.i (nx:Int),.r (rI lx),.b b2,.i (nx:Int),.r (rI ly)]/\((0<=r)=(mv ly<=mv lx)))) (n:=nx) (by omega) (fun k ps hk ⟨hps,hkn,hd⟩=>by
   subst hps;rw[q9J];by_cases h0:k=0
   ·right;refine⟨0,_,?_,.inl ⟨rfl,rfl,?_⟩⟩
    ·have a:¬(0:Int)<=(k:Int)-1:=by omega
     simp only[STD,a]
    ·rw[h0] at hd;simpa using hd
   ·obtain⟨i,rfl⟩:∃i,k=i+1:=⟨k-1,by omega⟩;have e:(((i+1:Nat):Int)-1)=(i:Int):=by omega
    rw[e];have a1:(0:Int)<=(i:Int):=by omega
    have a2:(i:Int)<232:=by omega
    have gx:=hx.get i;have gy:=hy.get i;have hxl:i<lx.length:=by rw[hx.len];omega
    have hyl:i<ly.length:=by rw[hy.len];omega
    by_cases hc:lx.getD i 0=ly.getD i 0
    ·left;refine⟨i,[.i ((i:Int)-1),.b bx,.i (nx:Int),.r (rI lx),.b b2,.i (nx:Int),.r (rI ly)],by omega,?_,rfl,by omega,?_⟩
     ·have w:q3e .i64 (i:Int) 1=(i:Int)-1:=yN (by omega);simp only[STD,a1,a2,and_self,q1R,hc,w]
     ·rw[q7A hxl,q7A hyl,hd];rw[jj hxl,jj hyl] at hc;rw[hc]
    ·right;have w:q3e .i64 (lx.getD i 0) (ly.getD i 0)=lx.getD i 0-ly.getD i 0:=yN (by omega);refine⟨1,[.i (lx.getD i 0-ly.getD i 0),.b bx,.i (nx:Int),.r (rI lx),.b b2,.i (nx:Int),.r (rI ly)],?_,.inr ⟨rfl,_,rfl,?_⟩⟩
     ·simp only[STD,a1,a2,and_self,q1R,hc,w]
     ·have sx:=q6T lx i (by omega);have sy:=q6T ly i (by omega);rw[q7A hxl] at sx;rw[q7A hyl] at sy;have tx:=q5f hx.dig i;have ty:=q5f hy.dig i;rw[jj hxl,jj hyl] at hc ⊢;rw[hd] at sx;have hp:=q6s i;generalize pB i=P at *;generalize lx[i]=u at *;generalize ly[i]=v at *;generalize mv (ly.drop (i+1))=w at *;have e1:P*(u+1000000000*w)=P*u+P*(1000000000*w):=Int.mul_add _ _ _;have e2:P*(v+1000000000*w)=P*v+P*(1000000000*w):=Int.mul_add _ _ _;have e3:P*(u-v)=P*u-P*v:=Int.mul_sub _ _ _;apply propext;rcases Int.lt_or_lt_of_ne (show u-v≠0 by omega) with h|h
      ·have:P*(u-v)<=P*(-1):=qzp (by omega) (by omega);constructor
       ·intro;omega
       ·intro;omega
      ·have:P*1<=P*(u-v):=qzp (by omega) (by omega);constructor
       ·intro;omega
       ·intro;omega) (ps:=[.i ((nx:Int)-1),.b bx,.i (nx:Int),.r (rI lx),.b b2,.i (nx:Int),.r (rI ly)])
   ⟨rfl,qxC _,by rw[w8 hx.dig hx.z (qxC _),w8 hy.dig hy.z (qxC _)]⟩
  rcases g2 with⟨rfl,rfl,g2⟩|⟨rfl,r,rfl,g2⟩
  ·refine⟨0,?_,?_⟩
   ·simp only[STD,hs,g1,wY g1]
   ·apply propext;simp;omega
  ·refine⟨r,?_,g2⟩;simp only[STD,hs,g1,wY g1,show ¬(1=0) by omega]
 ·have hs:q3e .i64 (nx:Int) (ny:Int)=(nx:Int)-(ny:Int):=yN (by omega);refine⟨(nx:Int)-(ny:Int),?_,?_⟩
  ·have a:¬(nx:Int)=(ny:Int):=by omega
   simp only[STD,a,hs]
  ·apply propext;have b1:=hx.bd;have b2:=hy.bd;rcases Nat.lt_or_gt_of_ne hne with h|h
   ·have:=hy.lo hny (by omega);have:=q7n (show nx<=ny-1 by omega);constructor
    ·intro;omega
    ·intro;omega
   ·have:=hx.lo hnx (by omega);have:=q7n (show ny<=nx-1 by omega);constructor
    ·intro;omega
    ·intro;omega
def sv(b:Bool)(l:List Int):Int:=if b then -mv l else mv l
theorem quj{nx ny:Nat}{lx ly:List Int}(hx:WOK nx lx)(hnx:nrm nx lx)(hy:WOK ny ly)(hny:nrm ny ly)(hb:mv lx+mv ly<pB 232)(bx b2:Bool) :∃(b:Bool) (n:Nat) (l:List Int),(wg [.b bx,.i (nx:Int),.r (rI lx),.b b2,.i (ny:Int),.r (rI ly)]).run=some (0,[.b b,.i (n:Int),.r (rI l),.b b2,.i (ny:Int),.r (rI ly)])/\WOK n l/\nrm n l/\sv b l=sv bx lx+sv b2 ly:=by
 rw[qea];have h1:=hx.bd;have h2:=hy.bd;have l1:=hx.le;have l2:=hy.le;by_cases hs:bx=b2
 ·subst hs;obtain⟨n,l,g1,g2,g3,g4⟩:=qhf (f:=1) (up:=0) hx hy (by omega) (by omega) (T:=mv lx+mv ly) (by rw[q2j];omega) (by omega) hb bx bx;refine⟨bx,n,l,?_,g2,g3,?_⟩
  ·simp only[STD,show ((0:Nat):Int)=0 from rfl] at g1 ⊢;simp only[STD,g1]
  ·unfold sv;rw[g4];cases bx<;>simp<;>omega
 ·obtain⟨r,r1,r2⟩:=qop hx hnx hy hny bx b2;by_cases hr:mv ly<=mv lx
  ·have hr':0<=r:=by rw[r2];exact hr
   obtain⟨n,l,g1,g2,g3,g4⟩:=qhf (f:=-1) (up:=0) hx hy (by omega) (by omega) (T:=mv lx-mv ly) (by rw[q2j];omega) (by omega) (by omega) bx b2;refine⟨bx,n,l,?_,g2,g3,?_⟩
   ·simp only[show ((0:Nat):Int)=0 from rfl] at g1;simp only[STD,hs,r1,hr',g1]
   ·unfold sv;rw[g4];cases bx<;>cases b2<;>simp_all<;>omega
  ·have hr':¬0<=r:=by rw[r2];exact hr
   obtain⟨n,l,g1,g2,g3,g4⟩:=qhf (f:=-1) (up:=0) hy hx (by omega) (by omega) (T:=mv ly-mv lx) (by rw[q2j];omega) (by omega) (by omega) b2 bx;refine⟨b2,n,l,?_,g2,g3,?_⟩
   ·simp only[show ((0:Nat):Int)=0 from rfl] at g1;simp only[STD,hs,r1,hr',g1]
   ·unfold sv;rw[g4];cases bx<;>cases b2<;>simp_all<;>omega
theorem qrt{x y:Int}{m n:Nat}(h0:0<=x)(h1:x<pB m)(h2:0<=y)(h3:y<=pB n):x*y<pB (m+n)\/y=0:=by
 rcases Int.lt_or_eq_of_le h2 with h|h
 ·left;rw[qwS];have e1:x*y<pB m*y:=Int.mul_lt_mul_of_pos_right h1 h;have e2:pB m*y<=pB m*pB n:=qzp h3 (by omega);omega
 ·exact .inr h.symm
theorem quZ{nx ny:Nat}{lx ly:List Int}(hx:WOK nx lx)(hy:WOK ny ly)(hb:nx+ny<=232)(bx b2:Bool) :∃(n:Nat) (l:List Int),(jP [.b bx,.i (nx:Int),.r (rI lx),.b b2,.i (ny:Int),.r (rI ly)]).run=some (0,[.b bx,.i (nx:Int),.r (rI lx),.b b2,.i (ny:Int),.r (rI ly),.b (!(Go.Eng.beq bx b2)),.i (n:Int),.r (rI l)])/\WOK n l/\nrm n l/\mv l=mv lx*mv ly:=by
 rw[qcM];have hbx:=hx.bd;have e0:q31 232 [.i 0]=rI (List.replicate 232 0):=qkd 232 0;obtain⟨j,qs,g1,rfl,n,l,rfl,g2,g3,g4⟩:=q50 (S:=j2) (fun k ps=>∃(i n:Nat) (l:List Int),ps=[.i (ny:Int),.i (i:Int),.b bx,.i (nx:Int),.r (rI lx),.b b2,.i (ny:Int),.r (rI ly),.b (!(Go.Eng.beq bx b2)),.i (n:Int),.r (rI l)] /\
   i+k=ny/\WOK n l/\nrm n l/\mv l=mv lx*mv (ly.take i))
  (fun j qs=>j=0/\∃(n:Nat) (l:List Int),qs=[.b bx,.i (nx:Int),.r (rI lx),.b b2,.i (ny:Int),.r (rI ly),.b (!(Go.Eng.beq bx b2)),.i (n:Int),.r (rI l)]/\WOK n l/\nrm n l/\mv l=mv lx*mv ly) (n:=ny) (by omega) (fun k ps hk ⟨i,n,l,hps,hik,hw,hn,hv⟩=>by
  subst hps;rw[qak];by_cases hi:i<ny
  ·left;have hil:i<ly.length:=by rw[hy.len];omega
   have gy:=hy.get i;have tb:=q5f hy.dig i;have tb2:=q5f hy.dig (i+1);have hT:mv lx*mv (ly.take (i+1))=mv l+ly.getD i 0*mv lx*pB i:=by rw[qfO hil,hv,jj hil];grind
   have hlt:mv lx*mv (ly.take (i+1))<pB 232:=by
    rcases qrt (n:=i+1) hbx.1 hbx.2 tb2.1 (by omega) with h|h
    ·exact Int.lt_of_lt_of_le h (q7n (by omega))
    ·rw[h,qys];exact q6s _
   obtain⟨n',l',c1,c2,c3,c4⟩:=qhf (f:=ly.getD i 0) (up:=i) hw hx (by omega) (by omega) hT (qyU hbx.1 tb2.1) hlt (!(Go.Eng.beq bx b2)) bx;have w:wT .i64 (i:Int) 1=((i+1:Nat):Int):=by rw[vZ (by omega)];omega
   refine⟨k-1,_,by omega,?_,i+1,n',l',rfl,by omega,c2,c3,c4⟩;have a1:(i:Int)<(ny:Int):=by omega
   have a2:(0:Int)<=(i:Int)/\(i:Int)<232:=by omega
   simp only[STD,a1,a2,and_self,q1R,c1,w]
  ·right;have hi2:i=ny:=by omega
   have a1:¬(i:Int)<(ny:Int):=by omega
   refine⟨0,[.b bx,.i (nx:Int),.r (rI lx),.b b2,.i (ny:Int),.r (rI ly),.b (!(Go.Eng.beq bx b2)),.i (n:Int),.r (rI l)],?_,rfl,n,l,rfl,hw,hn,?_⟩
   ·simp only[STD,a1]
   ·have:=q6T ly ny (by rw[hy.len];exact hy.le);rw[w8 hy.dig hy.z (qxC _),qys,Int.add_zero] at this;rw[hv,hi2,<-this])
  (ps:=[.i (ny:Int),.i 0,.b bx,.i (nx:Int),.r (rI lx),.b b2,.i (ny:Int),.r (rI ly),.b (!(Go.Eng.beq bx b2)),.i 0,.r (rI (List.replicate 232 0))])
  ⟨0,0,_,rfl,by omega,WOK.zero,.inl rfl,by rw[q9a];simp[mv]⟩
 refine⟨n,l,?_,g2,g3,g4⟩;simp only[e0];simp only[STD,g1]
theorem qpT{nx ny:Nat}{lx ly:List Int}(hx:WOK nx lx)(hnx:nrm nx lx)(hy:WOK ny ly)(hny:nrm ny ly)(h0:ny≠0)(hle:mv ly<=mv lx)(hlt:mv lx<pB (ny+1))(hn231:ny<=231)(bx b2:Bool) :∃k:Int,(uQ [.b bx,.i (nx:Int),.r (rI lx),.b b2,.i (ny:Int),.r (rI ly)]).run=some (0,[.i k,.b bx,.i (nx:Int),.r (rI lx),.b b2,.i (ny:Int),.r (rI ly)])/\1<=k/\k<=999999999/\k*mv ly<=mv lx:=by
 rw[qeV];obtain⟨m,rfl⟩:∃m,ny=m+1:=⟨ny-1,by omega⟩;have hxl:=hx.len;have hyl:=hy.len;have hnx1:m+1<=nx:=qxm hy hny hx hle;have hnx2:nx<=m+2:=by
  rcases qxG (m+2) nx with h|h
  ·exfalso;have h1:=hx.lo hnx (by omega);have h2:=q7n (show m+1+1<=nx-1 by omega);omega
  ·exact h
 have gx1:=hx.get m;have gx2:=hx.get (m+1);have gy:=hy.get m;have sx:=q6T lx m (by omega);have sy:=q6T ly m (by omega);rw[q7A (show m<lx.length by omega),q7A (show m+1<lx.length by omega),w8 hx.dig hx.z (show nx<=m+1+1 by omega)] at sx;rw[q7A (show m<ly.length by omega),w8 hy.dig hy.z (qxC _)] at sy;have tx:=q5f hx.dig m;have ty:=q5f hy.dig m;have hyn:ly.getD m 0≠0:=by
  rcases hny with h|h
  ·omega
  ·simpa using h
 have w1:q3e .i64 ((m+1:Nat):Int) 1=(m:Int):=by rw[yN (by omega)];omega
 have c1:¬((m+1:Nat):Int)<0:=by omega
 have c2:¬(nx:Int)<=(m:Int):=by omega
 have c3:¬(m:Int)<0:=by omega
 have c4:¬((m+1:Nat):Int)<=(m:Int):=by omega
 have c5:(0:Int)<=(m:Int)/\(m:Int)<232:=by omega
 have c6:(0:Int)<=((m+1:Nat):Int)/\((m+1:Nat):Int)<232:=by omega
 have gex:lx[m]'(by omega)=lx.getD m 0:=(jj (by omega)).symm;have gex1:lx[m+1]'(by omega)=lx.getD (m+1) 0:=(jj (by omega)).symm;have gey:ly[m]'(by omega)=ly.getD m 0:=(jj (by omega)).symm;rw[gex,gex1] at sx;rw[gey] at sy;have hp:=q6s m;have key:∀a b:Int,a=lx.getD m 0+1000000000*lx.getD (m+1) 0->0<b->mv ly<=b*pB m->∀k,k=a/b->k*mv ly<=mv lx/\qd7 k 999999999*mv ly<=mv lx:=by
  intro a b ha hb hbY k hk;have hk0:0<=k:=by rw[hk];exact Int.ediv_nonneg (by omega) (by omega)
  have hkb:k*b<=a:=by rw[hk];exact Int.ediv_mul_le a (by omega)
  have hY:=(hy.bd).1;have f1:k*mv ly<=k*(b*pB m):=qzp hbY hk0;have f2:k*b*pB m<=a*pB m:=qz3 hkb (by omega);have f3:k*(b*pB m)=k*b*pB m:=(Int.mul_assoc _ _ _).symm;have f4:a*pB m=pB m*(lx.getD m 0+1000000000*(lx.getD (m+1) 0+1000000000*0)):=by rw[ha];grind
  have f5:k*mv ly<=mv lx:=by omega
  refine⟨f5,?_⟩;have:qd7 k 999999999<=k:=by unfold qd7;split<;>omega
  have:=qz3 this hY;omega
 have wq:∀a b:Int,0<=a->a<1000000000000000000->0<b->qbh .i64 a b=a/b:=by intro a b h1 h2 h3;unfold qbh;rw[Int.tdiv_eq_ediv_of_nonneg h1];have q1:0<=a/b:=Int.ediv_nonneg h1 (by omega);have q2:a/b<=a:=Int.ediv_le_self _ h1;generalize a/b=q at *;unfold IntKind.wrap;simp[IntKind.signed,IntKind.bits];omega
 have fin:∀k:Int,(0<k->k*mv ly<=mv lx/\qd7 k 999999999*mv ly<=mv lx)->∃k':Int,(if 0<k then qd7 k 999999999 else 1)=k'/\1<=k'/\k'<=999999999/\k'*mv ly<=mv lx:=by
  intro k hk;by_cases h:0<k
  ·rw[if_pos h];refine⟨_,rfl,?_,?_,(hk h).2⟩
   ·unfold qd7;split<;>omega
   ·unfold qd7;split<;>omega
  ·rw[if_neg h];exact⟨1,rfl,by omega,by omega,by omega⟩
 by_cases hcase:nx<=m+1
 ·have c7:(nx:Int)<=((m+1:Nat):Int):=by omega
  have z1:lx.getD (m+1) 0=0:=hx.z _ (by omega);have wa:wT .i64 0 (lx.getD m 0)=lx.getD m 0:=by rw[vZ (by omega)];omega
  by_cases hm:m=0
  ·subst hm;have c8:¬(1:Int)<((0+1:Nat):Int):=by omega
   have hq:=wq (lx.getD 0 0) (ly.getD 0 0) (by omega) (by omega) (by omega);have hbY:mv ly<=ly.getD 0 0*pB 0:=by rw[q2j] at sy ty ⊢;omega
   obtain⟨k',f1,f2,f3,f4⟩:=fin (lx.getD 0 0/ly.getD 0 0) (fun _=>key _ _ (by rw[z1];omega) (by omega) hbY _ rfl);refine⟨k',?_,f2,f3,f4⟩;rw[<-f1];simp only[STD,c1,w1,c2,c3,c4,c5,c6,c7,c8,and_self,q1R,wa,hyn,hq];split<;>rfl
  ·have c8:(1:Int)<((m+1:Nat):Int):=by omega
   have wb:wT .i64 (ly.getD m 0) 1=ly.getD m 0+1:=vZ (by omega);have hq:=wq (lx.getD m 0) (ly.getD m 0+1) (by omega) (by omega) (by omega);have hbY:mv ly<=(ly.getD m 0+1)*pB m:=by
    have:(ly.getD m 0+1)*pB m=pB m*(ly.getD m 0+1000000000*0)+pB m:=by grind
    omega
   obtain⟨k',f1,f2,f3,f4⟩:=fin (lx.getD m 0/(ly.getD m 0+1)) (fun _=>key _ _ (by rw[z1];omega) (by omega) hbY _ rfl);refine⟨k',?_,f2,f3,f4⟩;rw[<-f1];have hne:¬ly.getD m 0+1=0:=by omega
   simp only[STD,c1,w1,c2,c3,c4,c5,c6,c7,c8,and_self,q1R,wa,wb,hne,hq];split<;>rfl
 ·have c7:¬(nx:Int)<=((m+1:Nat):Int):=by omega
  have wm:q8T .i64 (lx.getD (m+1) 0) 1000000000=lx.getD (m+1) 0*1000000000:=q3i (by omega);have wa:wT .i64 (lx.getD (m+1) 0*1000000000) (lx.getD m 0)=lx.getD (m+1) 0*1000000000+lx.getD m 0:=vZ (by omega);by_cases hm:m=0
  ·subst hm;have c8:¬(1:Int)<((0+1:Nat):Int):=by omega
   have hq:=wq (lx.getD (0+1) 0*1000000000+lx.getD 0 0) (ly.getD 0 0) (by omega) (by omega) (by omega);have hbY:mv ly<=ly.getD 0 0*pB 0:=by rw[q2j] at sy ty ⊢;omega
   obtain⟨k',f1,f2,f3,f4⟩:=fin ((lx.getD (0+1) 0*1000000000+lx.getD 0 0)/ly.getD 0 0) (fun _=>key _ _ (by omega) (by omega) hbY _ rfl);refine⟨k',?_,f2,f3,f4⟩;rw[<-f1];simp only[STD,c1,w1,c2,c3,c4,c5,c6,c7,c8,and_self,q1R,wm,wa,hyn,hq];split<;>rfl
  ·have c8:(1:Int)<((m+1:Nat):Int):=by omega
   have wb:wT .i64 (ly.getD m 0) 1=ly.getD m 0+1:=vZ (by omega);have hq:=wq (lx.getD (m+1) 0*1000000000+lx.getD m 0) (ly.getD m 0+1) (by omega) (by omega) (by omega);have hbY:mv ly<=(ly.getD m 0+1)*pB m:=by
    have:(ly.getD m 0+1)*pB m=pB m*(ly.getD m 0+1000000000*0)+pB m:=by grind
    omega
   obtain⟨k',f1,f2,f3,f4⟩:=fin ((lx.getD (m+1) 0*1000000000+lx.getD m 0)/(ly.getD m 0+1)) (fun _=>key _ _ (by omega) (by omega) hbY _ rfl);refine⟨k',?_,f2,f3,f4⟩;rw[<-f1];have hne:¬ly.getD m 0+1=0:=by omega
   simp only[STD,c1,w1,c2,c3,c4,c5,c6,c7,c8,and_self,q1R,wm,wa,wb,hne,hq];split<;>rfl
theorem qub(u:Nat):Lib.decDigits u=tN u:=by
 induction u using Nat.strongRecOn with
 | _ u ih=>
  rw[Lib.decDigits];split
  ·rename_i h;rw[qnp h];rfl
  ·rename_i h;rw[ih (u/10) (by omega)];exact(qpo (n:=u) (by omega)).symm
theorem qo8(n:Int):Lib.itoa n=tI n:=by
 unfold Lib.itoa;by_cases h:n<0
 ·rw[if_pos h,qub,q9y h]
 ·rw[if_neg h,qub,qd8 h];congr 1;omega
theorem qwq(n:Int)(h:-9223372036854775808<=n/\n<=9223372036854775807):(q13 [.i n]).run=some (0,[.s (tI n)]):=by show (qst [.i n]).run=_;unfold qst;simp only;rw[if_pos h,qo8];rfl
theorem qma{c:UInt8}(h:48<=c.toNat/\c.toNat<=57):Lib.digitVal c=some (dv c):=by
 unfold Lib.digitVal dv
 simp_all
theorem qgY:∀{s:qxA} (a:Nat),q9r s->Lib.decFrom a s=some (a*10^s.length+val s)
 | [],a,_=>by simp[Lib.decFrom,val]
 | c::s,a,h=>by
  obtain⟨h1,h2⟩:=q17.1 h;rw[Lib.decFrom,qma h1];simp only;rw[qgY _ h2,q6q,qy9,qz1];congr 1;grind
theorem qj4{s:qxA}(h:q9r s)(hn:s≠[]):Lib.decNat s=some (val s):=by unfold Lib.decNat;rw[if_neg (by simpa using hn),qgY 0 h];simp
theorem qlz{s:qxA}(h:q9r s)(hn:s≠[]):Lib.atoi s=some (val s:Int):=by
 obtain⟨c,t,e,h1,h2⟩:=qba h hn;rw[e] at h ⊢;have n1:(c==45)=false:=by rw[beq_eq_false_iff_ne];intro hc;subst hc;revert h1;decide
 have n2:(c==43)=false:=by rw[beq_eq_false_iff_ne];intro hc;subst hc;revert h1;decide
 unfold Lib.atoi;simp only[n1,n2,qy5,if_false];rw[qj4 h (by simp)];rfl
theorem qrM(m:Int):Lib.atoi (tI m)=some m:=by
 by_cases h:m<0
 ·rw[q9y h];unfold Lib.atoi;simp only[beq_self_eq_true,if_true];rw[qj4 (jh _) (qgy _),q2R];simp;omega
 ·rw[qd8 h,qlz (jh _) (qgy _),q2R];congr 1;omega
theorem qrj{s:qxA}{n:Int}(hl:s.length<=18)(h:Lib.atoi s=some n):(vo [.s s]).run=some (0,[.i n]):=by show (qse [.s s]).run=_;unfold qse;simp only;rw[if_pos hl,h];rfl
theorem qp9:∀s:List UInt8,Lib.indexByte s 47=if sP s<s.length then (sP s:Int) else -1
 | []=>by simp[Lib.indexByte,sP]
 | c::s=>by
  have ih:=qp9 s;have hle:=qve s;unfold Lib.indexByte;by_cases h:c=47
  ·subst h;have:sP (47::s)=0:=qwz (by simp) (by simp) (fun j hj=>by omega);rw[this];simp
  ·have hc:(c==47)=false:=by simpa using h
   have e:sP (c::s)=sP s+1:=by unfold sP;rw[List.findIdx_cons,hc];rfl
   rw[e];generalize sP s=k at *;have el:(c::s).length=s.length+1:=rfl;simp only[hc,el,ih,qy5,if_false];grind
theorem qv5(s:qxA):(wi [.s s,.s [47]]).run=some (0,[.i (if sP s<s.length then (sP s:Int) else -1)]):=by show (qm1 [.s s,.s [47]]).run=_;unfold qm1;simp only;rw[<-qp9];rfl
theorem qoz:∀{s t:qxA},q9r s->q9r t->s.length=t.length->Lib.compareBytes s t=sgn ((val s:Int)-(val t:Int))
 | [],[],_,_,_=>by simp[Lib.compareBytes,val,sgn]
 | [],_::_,_,_,h=>by simp at h
 | _::_,[],_,_,h=>by simp at h
 | a::s,b::t,hs,ht,h=>by
  obtain⟨h1,h2⟩:=q17.1 hs;obtain⟨h3,h4⟩:=q17.1 ht;have hl:s.length=t.length:=by simpa using h
  have ih:=qoz h2 h4 hl;have v1:=qa5 h2;have v2:=qa5 h4;unfold Lib.compareBytes;rw[q6q,q6q,hl];rw[hl] at v1;have hp:0<10^t.length:=Nat.pow_pos (by omega);generalize 10^t.length=P at *;unfold dv;by_cases c1:a.toNat<b.toNat
  ·rw[if_pos (show a<b from c1)];have:(a.toNat-48+1)*P<=(b.toNat-48)*P:=qy8 _ (by omega);rw[qy2,Nat.one_mul] at this;unfold sgn;rw[if_pos (by omega)]
  ·rw[if_neg (show ¬a<b from c1)];by_cases c2:b.toNat<a.toNat
   ·rw[if_pos (show b<a from c2)];have:(b.toNat-48+1)*P<=(a.toNat-48)*P:=qy8 _ (by omega);rw[qy2,Nat.one_mul] at this;unfold sgn;rw[if_neg (by omega),if_neg (by omega)]
   ·rw[if_neg (show ¬b<a from c2),ih];have:a.toNat=b.toNat:=by omega
    rw[this];congr 1;omega
theorem qpG{s t:qxA}(hs:q9r s)(ht:q9r t)(h:s.length=t.length):(q0o [.s s,.s t]).run=some (0,[.i (sgn ((val s:Int)-(val t:Int)))]):=by show (qgm [.s s,.s t]).run=_;unfold qgm;simp only;rw[qoz hs ht h];rfl
def qra:List UInt8:=[48,49,50,51,52,53,54,55,56,57]
theorem qoP(c:UInt8):(qra.contains c=true)↔(48<=c.toNat/\c.toNat<=57):=by
 constructor
 ·intro h;simp only[qra,List.contains_eq_mem,qxP,List.not_mem_nil,or_false,decide_eq_true_eq] at h;rcases h with rfl|rfl|rfl|rfl|rfl|rfl|rfl|rfl|rfl|rfl<;>decide
 ·rintro ⟨h1,h2⟩;have hk:∃k,c=UInt8.ofNat k/\48<=k/\k<=57:=⟨c.toNat,by simp,h1,h2⟩;obtain⟨k,rfl,k1,k2⟩:=hk;have:k=48\/k=49\/k=50\/k=51\/k=52\/k=53\/k=54\/k=55\/k=56\/k=57:=by omega
  rcases this with rfl|rfl|rfl|rfl|rfl|rfl|rfl|rfl|rfl|rfl<;>decide
theorem q4Q{p:UInt8->Bool}:∀{l:qxA},l.dropWhile p=[]↔∀x,x∈l->p x=true
 | []=>by simp
 | a::l=>by
  rw[List.dropWhile_cons];by_cases h:p a=true
  ·rw[if_pos h,q4Q];simp[h]
  ·rw[if_neg h];simp[h]
theorem qbe(s:qxA):(Lib.trimS s qra=[])=q9r s:=by
 apply propext;unfold Lib.trimS Lib.trimLeftS Lib.trimRightS;constructor
 ·intro h;have h1:∀c,c∈(s.reverse.dropWhile (qra.contains ·)).reverse->qra.contains c=true:=by intro c hc;have:=q4Q.1 h c hc;simpa using this
  have h2:s.reverse.dropWhile (qra.contains ·)=[]:=by
   cases hd:s.reverse.dropWhile (qra.contains ·) with
   | nil=>rfl
   | cons c t=>
    exfalso;have h3:=List.head_dropWhile_not (p:=(qra.contains ·)) (l:=s.reverse) (by rw[hd];simp);simp only[hd,List.head_cons] at h3;have:=h1 c (by rw[hd];simp);rw[this] at h3;cases h3
  intro c hc;have:=q4Q.1 h2 c (by simpa using hc);exact(qoP c).1 (by simpa using this)
 ·intro h;have h2:s.reverse.dropWhile (qra.contains ·)=[]:=by rw[q4Q];intro c hc;exact(qoP c).2 (h c (by simpa using hc))
  rw[h2];rfl
theorem qwF(s:qxA)(hl:s.length<=9223372036854775807):(q3F [.s s,.s [48,49,50,51,52,53,54,55,56,57]]).run=some (0,[.s (Lib.trimS s qra)]):=by show (qr3 [.s s,.s qra]).run=_;unfold qr3;simp only;rw[if_pos ⟨hl,by decide,by decide⟩];rfl
variable {n:Nat}
theorem qs7 (n:Nat):pB n=((10^(9*n):Nat):Int):=by unfold pB;rw[Nat.pow_mul];simp
theorem qq8:∀k:Nat,k<=9->qbE [48,48,48,48,48,48,48,48,48] (k:Int) 9=List.replicate (9-k) 48
 | 0,_=>rfl
 | 1,_=>rfl
 | 2,_=>rfl
 | 3,_=>rfl
 | 4,_=>rfl
 | 5,_=>rfl
 | 6,_=>rfl
 | 7,_=>rfl
 | 8,_=>rfl
 | 9,_=>rfl
 | n+10,h=>by omega
theorem qvk {v:Nat}(h:v<1000000000):q9r (qsz (tN v))/\(qsz (tN v)).length=9/\val (qsz (tN v))=v:=by
 have hl:(tN v).length<=9:=q8c 8 v (by omega);have e:qsz (tN v)=List.replicate (9-(tN v).length) 48++tN v:=by unfold qsz qmH;rw[show zG (tN v)=((tN v).length:Int) from rfl,qq8 _ hl]
 rw[e];refine⟨qdg.2 ⟨qq2 _,jh v⟩,by simp;omega,by rw[qqP,q2R]⟩
theorem qjf{l:List Int}(hl:l.length=232)(hd:dgs l):∀i:Nat,i<=232->q9r (qdh (rI l) i)/\(qdh (rI l) i).length=9*i/\((val (qdh (rI l) i):Nat):Int)=mv (l.take i)
 | 0,_=>⟨qti,rfl,by simp[qdh,qkA,mv]⟩
 | i+1,h=>by
  obtain⟨h1,h2,h3⟩:=qjf hl hd i (by omega);have hil:i<l.length:=by omega
  have hg:=hd _ (qyu hil);have e:cI (rI l) (i:Int) 0=l[i]:=by rw[q1R,jj hil]
  have e2:Lib.itoa l[i]=tN l[i].toNat:=by rw[qo8,qd8 (by omega)];congr 1;omega
  obtain⟨p1,p2,p3⟩:=qvk (v:=l[i].toNat) (by omega);unfold qdh;rw[e,e2];refine⟨qdg.2 ⟨p1,h1⟩,by rw[qyL,p2,h2];omega,?_⟩;rw[qlb,p3,h2,qfO hil,qs7];simp only[Int.natCast_add,Int.natCast_mul,h3];rw[qyX hg.1];omega
theorem qtP {l:List Int}(h:WOK n l)(hn:nrm n l)(b:Bool):qsH b (n:Int) (rI l)=tI (sv b l):=by
 unfold qsH;by_cases h0:n=0
 ·have h1:mv l=0:=by rw[<-qdf h hn];exact h0
  rw[if_pos (by omega)];unfold sv;rw[h1];cases b<;>rfl
 ·rw[if_neg (by omega)];obtain⟨m,rfl⟩:∃m,n=m+1:=⟨n-1,by omega⟩;have hle:=h.le;have hml:m<l.length:=by rw[h.len];omega
  have e1:(((m+1:Nat):Int)-1)=(m:Int):=by omega
  rw[e1,qy1,q1R,jj hml];have hg:=h.dig _ (qyu hml);have e2:Lib.itoa l[m]=tN l[m].toNat:=by rw[qo8,qd8 (by omega)];congr 1;omega
  obtain⟨t1,t2,t3⟩:=qjf h.len h.dig m (by omega);have hnz:l[m]≠0:=by
   rcases hn with hn|hn
   ·omega
   ·rw[Nat.add_sub_cancel,jj hml] at hn;exact hn
  have hlo:=h.lo hn h0;have hp:=q6s m;simp only[Nat.add_sub_cancel] at hlo;have hv:((val (tN l[m].toNat++qdh (rI l) m):Nat):Int)=mv l:=by rw[qlb,q2R,t2,q6T l m (by omega),q7A hml,w8 h.dig h.z (qxC _),qs7];simp only[Int.natCast_add,Int.natCast_mul,t3];rw[qyX hg.1];grind
  have hT:tN l[m].toNat++qdh (rI l) m=tN (mv l).toNat:=by
   have hd:q9r (tN l[m].toNat++qdh (rI l) m):=qdg.2 ⟨jh _,t1⟩;have hne:tN l[m].toNat++qdh (rI l) m≠[]:=by simp[qgy]
   have hz:(tN l[m].toNat++qdh (rI l) m).getD 0 0≠48:=by
    have hv0:=q2R l[m].toNat;have hd0:=jh l[m].toNat;rcases qqy l[m].toNat with h1|h1
    ·obtain⟨c,e⟩:=List.length_eq_one_iff.1 h1;rw[e] at hv0 ⊢;simp only[qyn,qyT];intro hc;subst hc;rw[qnb] at hv0;simp[dv] at hv0;omega
    ·obtain⟨c,t,e,_⟩:=qba hd0 (qgy _);rw[e] at h1 ⊢;simpa using h1
   have:=qn6 hd hne (.inr hz);rw[this];congr 1;omega
  rw[e2,qyb,hT];unfold sv;cases b
  ·rw[if_neg (by simp),if_neg (by simp),qd8 (by omega)];simp;congr 1;omega
  ·rw[if_pos rfl,if_pos rfl,q9y (by omega)];simp;congr 1;omega
theorem qqa {l:List Int}(h:WOK n l):qkM (n:Int) (rI l)=true:=by unfold qkM;have:=h.le;simp only[qxL,decide_eq_true_eq,qxV,qyR];refine⟨⟨by omega,by omega⟩,fun i _=>?_⟩;have:=h.get i;rw[q1R];exact this
theorem qox {l:List Int}(h:WOK n l)(hn:nrm n l)(b:Bool):(qR [.b b,.i (n:Int),.r (rI l)]).run=some (0,[.s (tI (sv b l)),.b b,.i (n:Int),.r (rI l)]):=by show (qs1 [.b b,.i (n:Int),.r (rI l)]).run=_;unfold qs1;simp only;rw[if_pos (qqa h),qtP h hn];rfl
end Go.Eng

namespace Go.Eng
theorem qtI{nr ny:Nat}{lr ly:List Int}(hr:WOK nr lr)(hnr:nrm nr lr)(hy:WOK ny ly)(hny:nrm ny ly)(h0:ny≠0)(hy231:ny<=231)(hlt:mv lr<mv ly*1000000000)(y0:Int)(xb:Bool)(xi:Int)(xr:R)(b2 qb:Bool)(qi:Int)(qr:R)(br:Bool) :∃(d:Int) (n:Nat) (l:List Int),(qm vN [.i y0,.i 0,.b xb,.i xi,.r xr,.b b2,.i (ny:Int),.r (rI ly),.b qb,.i qi,.r qr,.b br,.i (nr:Int),.r (rI lr)]).run = some (0,[.i y0,.i d,.b xb,.i xi,.r xr,.b b2,.i (ny:Int),.r (rI ly),.b qb,.i qi,.r qr,.b br,.i (n:Int),.r (rI l)])/\WOK n l/\nrm n l/\0<=d/\d<1000000000/\mv lr=d*mv ly+mv l/\mv l<mv ly:=by
 have hyp:0<mv ly:=by have:=hy.lo hny h0;have:=q6s (ny-1);omega
 have hyb:=hy.bd;obtain⟨j,qs,g1,rfl,d,n,l,rfl,g2⟩:=q50 (S:=vN) (fun k ps=>∃(d:Int) (n:Nat) (l:List Int),ps=[.i y0,.i d,.b xb,.i xi,.r xr,.b b2,.i (ny:Int),.r (rI ly),.b qb,.i qi,.r qr,.b br,.i (n:Int),.r (rI l)] /\
   WOK n l/\nrm n l/\0<=d/\d+k=1000000000/\mv lr=d*mv ly+mv l)
  (fun j qs=>j=0/\∃(d:Int) (n:Nat) (l:List Int),qs=[.i y0,.i d,.b xb,.i xi,.r xr,.b b2,.i (ny:Int),.r (rI ly),.b qb,.i qi,.r qr,.b br,.i (n:Int),.r (rI l)]/\WOK n l/\nrm n l/\0<=d/\d<1000000000/\mv lr=d*mv ly+mv l/\mv l<mv ly) (n:=1000000000) (by omega)
  (fun k ps hk ⟨d,n,l,hps,hw,hn,hd0,hdk,hv⟩=>by
   subst hps;have hlb:=hw.bd;have hdlt:d<1000000000:=by
    rcases Int.lt_or_le d 1000000000 with h|h
    ·exact h
    ·have:=qz3 h (show 0<=mv ly by omega);rw[qyY (mv ly)] at hlt;omega
   rw[qcV];obtain⟨r,r1,r2⟩:=qop hw hn hy hny br b2;by_cases hle:mv ly<=mv l
   ·left;have hr0:0<=r:=by rw[r2];exact hle
    have hdm:=qyU hd0 (show 0<=mv ly by omega);have hl9:mv l<pB (ny+1):=by rw[q5u];omega
    obtain⟨q,e1,e2,e3,e4⟩:=qpT hw hn hy hny h0 hle hl9 hy231 br b2;obtain⟨n',l',c1,c2,c3,c4⟩:=qhf (f:=-q) (up:=0) hw hy (by omega) (by omega) (T:=mv l-q*mv ly) (by rw[q2j,Int.mul_one,Int.neg_mul];omega) (by omega)
     (by have:=hlb.2;have:=q7n hw.le;have:=qyU (show 0<=q by omega) (show 0<=mv ly by omega);omega) br b2
    have hq2:(d+q)*mv ly+(mv l-q*mv ly)=d*mv ly+mv l:=by rw[Int.add_mul];omega
    have hdq:d+q<1000000000:=by
     rcases Int.lt_or_le (d+q) 1000000000 with h|h
     ·exact h
     ·have:=qz3 h (show 0<=mv ly by omega);rw[qyY (mv ly)] at hlt;omega
    have w1:q3e .i64 0 q=-q:=qsn (by omega);have w2:wT .i64 d q=d+q:=vZ (by omega);simp only[show ((0:Nat):Int)=0 from rfl] at c1;refine⟨(1000000000-(d+q)).toNat,[.i y0,.i (d+q),.b xb,.i xi,.r xr,.b b2,.i (ny:Int),.r (rI ly),.b qb,.i qi,.r qr,.b br,.i (n':Int),.r (rI l')],by omega,?_,d+q,n',l',rfl,c2,c3,by omega,by omega,by rw[c4];omega⟩;simp only[STD,r1,hr0,e1,w1,w2,c1]
   ·right;have hr0:¬0<=r:=by rw[r2];exact hle
    refine⟨0,_,?_,rfl,d,n,l,rfl,hw,hn,hd0,hdlt,hv,by omega⟩;simp only[STD,r1,hr0]) (ps:=[.i y0,.i 0,.b xb,.i xi,.r xr,.b b2,.i (ny:Int),.r (rI ly),.b qb,.i qi,.r qr,.b br,.i (nr:Int),.r (rI lr)]) ⟨0,nr,lr,rfl,hr,hnr,by omega,by omega,by omega⟩
 exact⟨d,n,l,g1,g2⟩
theorem qty{n:Nat}{l:List Int}{d:Int}(h:WOK n l)(hn:n<=231)(hd:0<=d/\d<1000000000) :q9e (qdI (rI l) 1 (rI l) 0 (qd7 (qqv (n:Int) 0) (qqv 232 1))) 0 0 [.i d]=rI (d::(l.take n++l.drop (1+n)))/\WOK (n+1) (d::(l.take n++l.drop (1+n)))/\mv (d::(l.take n++l.drop (1+n)))=d+1000000000*mv l:=by
 have hlen:=h.len;have e1:qd7 (qqv (n:Int) 0) (qqv 232 1)=(n:Int):=by unfold qd7 qqv;split<;>omega
 obtain⟨x,t,rfl⟩:∃x t,l=x::t:=by
  cases l with
  | nil=>simp at hlen
  | cons x t=>exact⟨x,t,rfl⟩
 refine⟨?_,⟨by simp;simp at hlen;omega,by omega,?_,?_⟩,?_⟩
 ·rw[e1];unfold qdI;have:(rI (x::t)).take (1:Int).toNat++((rI (x::t)).drop (0:Int).toNat).take (n:Int).toNat++(rI (x::t)).drop ((1:Int).toNat+(n:Int).toNat)=rI (x::((x::t).take n++(x::t).drop (1+n))):=by rw[qy1];simp[rI,List.map_take,List.map_drop]
  rw[this,show (0:Int)=((0:Nat):Int) from rfl,qcv];rfl
 ·intro y hy;rcases qxP.1 hy with rfl|hy
  ·exact hd
  ·rcases qxY.1 hy with hy|hy
   ·exact h.dig _ (qzg hy)
   ·exact h.dig _ (qzh hy)
 ·intro i hi;obtain⟨j,rfl⟩:∃j,i=j+1:=⟨i-1,by omega⟩;have hz:=h.z (j+1) (by omega);rw[qxE] at hz ⊢;rw[qyg,qxU (by simp;omega)];rw[qyl,qyA,qyB (by omega)];rw[show 1+n+(j-n)=j+1 by omega];exact hz
 ·show d+1000000000*mv _=_;rw[qoL,qyA,qyB (by omega),w8 h.dig h.z (show n<=1+n by omega)];have:=q6T (x::t) n (by omega);rw[w8 h.dig h.z (qxC n)] at this;omega
theorem qar{nx ny:Nat}{lx ly:List Int}(hx:WOK nx lx)(hy:WOK ny ly)(hny:nrm ny ly)(h0:ny≠0)(hy231:ny<=231)(bx b2:Bool) :∃(nq:Nat) (lq:List Int) (nr:Nat) (lr:List Int),(jt [.b bx,.i (nx:Int),.r (rI lx),.b b2,.i (ny:Int),.r (rI ly)]).run = some (0,[.b bx,.i (nx:Int),.r (rI lx),.b b2,.i (ny:Int),.r (rI ly),.b false,.i (nq:Int),.r (rI lq),.b false,.i (nr:Int),.r (rI lr)])/\WOK nq lq/\nrm nq lq/\WOK nr lr/\nrm nr lr/\mv lx=mv lq*mv ly+mv lr/\mv lr<mv ly:=by
 rw[qg5];have hyp:0<mv ly:=by have:=hy.lo hny h0;have:=q6s (ny-1);omega
 have hx232:=hx.le;have e0:q31 232 [.i 0]=rI (List.replicate 232 0):=qkd 232 0;have hxl:=hx.len;obtain⟨j,qs,g1,rfl,nq,lq,nr,lr,rfl,g2,g3,g4,g5,g6⟩:=q50 (S:=u9) (fun k ps=>∃(Q:Int) (nq:Nat) (lq:List Int) (nr:Nat) (lr:List Int),
   ps=[.i ((k:Int)-1),.b bx,.i (nx:Int),.r (rI lx),.b b2,.i (ny:Int),.r (rI ly),.b false,.i (nq:Int),.r (rI lq),.b false,.i (nr:Int),.r (rI lr)]/\k<=nx/\WOK nq lq/\WOK nr lr/\nrm nr lr/\mv (lx.drop k)=Q*mv ly+mv lr/\mv lr<mv ly/\mv lq=pB k*Q/\∀i,i<k->lq.getD i 0=0)
  (fun j qs=>j=0/\∃(nq:Nat) (lq:List Int) (nr:Nat) (lr:List Int),qs=[.b bx,.i (nx:Int),.r (rI lx),.b b2,.i (ny:Int),.r (rI ly),.b false,.i (nq:Int),.r (rI lq),.b false,.i (nr:Int),.r (rI lr)]/\WOK nq lq/\WOK nr lr/\nrm nr lr/\mv lx=mv lq*mv ly+mv lr/\mv lr<mv ly) (n:=nx) (by omega)
  (fun k ps hk ⟨Q,nq,lq,nr,lr,hps,hkn,hwq,hwr,hnr,hv,hlt,hq,hz⟩=>by
   subst hps;rw[qda];rcases qyx k with rfl|hk0
   ·right;have a1:¬(0:Int)<=((0:Nat):Int)-1:=by omega
    refine⟨0,[.b bx,.i (nx:Int),.r (rI lx),.b b2,.i (ny:Int),.r (rI ly),.b false,.i (nq:Int),.r (rI lq),.b false,.i (nr:Int),.r (rI lr)],?_,rfl,nq,lq,nr,lr,rfl,hwq,hwr,hnr,?_,hlt⟩
    ·simp only[STD,a1]
    ·rw[hq,q2j,qy4,<-hv,List.drop_zero]
   ·left;obtain⟨i,rfl⟩:∃i,k=i+1:=⟨k-1,by omega⟩;have e:(((i+1:Nat):Int)-1)=(i:Int):=by omega
    rw[e];have hnr231:nr<=231:=qxJ (qxm hwr hnr hy (by omega)) hy231;have hil:i<lx.length:=by omega
    have gx:=hx.get i;obtain⟨s1,s2,s3⟩:=qty hwr hnr231 (d:=lx.getD i 0) gx;obtain⟨m,t1,t2,t3⟩:=qdT s2 false;have hX:mv (lx.drop i)=lx.getD i 0+1000000000*(Q*mv ly+mv lr):=by rw[q7A hil,<-hv,jj hil]
    have hlt2:mv (lx.getD i 0::(lr.take nr++lr.drop (1+nr)))<mv ly*1000000000:=by rw[s3];omega
    obtain⟨d,n',l',d1,d2,d3,d4,d5,d6,d7⟩:=qtI t2 t3 hy hny h0 hy231 hlt2 (i:Int) bx (nx:Int) (rI lx) b2 false (nq:Int) (rI lq) false;rw[s3] at d6;have a1:(0:Int)<=(i:Int):=by omega
    have a2:(i:Int)<232:=by omega
    have a3:(0:Int)<=232/\(232:Int)<=232:=by omega
    have a4:(0:Int)<=1/\(1:Int)<=232:=by omega
    have a5:(0:Int)<=(nr:Int)/\(nr:Int)<=232:=by omega
    have a6:(0:Int)<=0/\(0:Int)<=(nr:Int):=by omega
    have w1:wT .i64 (nr:Int) 1=((nr+1:Nat):Int):=by rw[vZ (by omega)];omega
    have w2:wT .i64 (i:Int) 1=((i+1:Nat):Int):=by rw[vZ (by omega)];omega
    have w3:q3e .i64 (i:Int) 1=(i:Int)-1:=yN (by omega);have w4:qlt (nq:Int) ((i+1:Nat):Int)=((max nq (i+1):Nat):Int):=qoj _ _;have hiq:i<lq.length:=by rw[hwq.len];omega
    have hzi:lq[i]=0:=by rw[<-jj hiq];exact hz i (by omega)
    refine⟨i,[.i ((i:Int)-1),.b bx,.i (nx:Int),.r (rI lx),.b b2,.i (ny:Int),.r (rI ly),.b false,.i ((max nq (i+1):Nat):Int),.r (rI (lq.set i d)),.b false,.i (n':Int),.r (rI l')],by omega,?_,Q*1000000000+d,_,_,_,_,rfl,by omega,hwq.setW (by omega) ⟨d4,d5⟩,d2,d3,?_,d7,?_,?_⟩
    ·simp only[q1R,s1,w1];simp only[STD,a1,a2,a3,a4,a5,a6,and_self,t1,d1,w2,w3,w4,qcv]
    ·rw[hX,Int.add_mul,Int.mul_add];have:Q*1000000000*mv ly=1000000000*(Q*mv ly):=by grind
     omega
    ·rw[qou lq i hiq,hzi,hq,q5u];grind
    ·intro a ha;rw[qxE,qxD (by omega),<-qxE];exact hz a (by omega))
  (ps:=[.i ((nx:Int)-1),.b bx,.i (nx:Int),.r (rI lx),.b b2,.i (ny:Int),.r (rI ly),.b false,.i 0,.r (rI (List.replicate 232 0)),.b false,.i 0,.r (rI (List.replicate 232 0))])
  ⟨0,0,_,0,_,rfl,qxC _,WOK.zero,WOK.zero,.inl rfl,by rw[w8 hx.dig hx.z (qxC _),q9a];omega,by rw[q9a];exact hyp,by rw[q9a,qys],fun i _=>qlX 232 i⟩
 obtain⟨m,t1,t2,t3⟩:=qdT g2 false;refine⟨m,lq,nr,lr,?_,t2,t3,g3,g4,g5,g6⟩;have hs:q3e .i64 (nx:Int) 1=(nx:Int)-1:=yN (by omega);simp only[e0,hs];simp only[STD,g1,t1]
variable {m:Int}
theorem qvS {c:UInt8}{t:qxA}:qbE (c::t) 0 1=[c]:=by simp[qbE]
theorem qsB (s:qxA):(qv [.s s,.s [45]]).run=some (0,[.b (decide (s.getD 0 0=45))]):=by
 rw[q2h];have h1:zG [45]=1:=rfl;cases s with
 | nil=>
  have a:¬(1:Int)<=zG []:=by decide
  simp only[STD,h1,a];rfl
 | cons c t=>
  have a:(1:Int)<=zG (c::t):=by unfold zG;simp only[qy9];omega
  simp only[STD,h1,a,show (0:Int)<=1 by omega,show (0:Int)<=0 by omega,and_self,qvS];have e:seq [c] [45]=decide ((c::t).getD 0 0=45):=by rw[Bool.eq_iff_iff,ja];simp
  rw[e]
theorem qkJ (s:qxA):(qL [.s s,.s [45]]).run=some (0,[.s (mag s)]):=by
 rw[qaw];have h:(qN [.s s,.s [45]]).run=some (0,[.s (mag s)]):=by
  rw[q20];have h1:zG [45]=1:=rfl;unfold mag;by_cases h:s.getD 0 0=45
  ·rw[if_pos h];have a:(1:Int)<=zG s:=by
    cases s with
    | nil=>simp at h
    | cons c t=>unfold zG;simp only[qy9];omega
   have e:qbE s 1 (zG s)=s.drop 1:=by unfold qbE zG;simp
   simp only[STD,qsB,h,h1,a,and_self,qxT,show (0:Int)<=zG s by omega,show (0:Int)<=1 by omega,e]
  ·rw[if_neg h];simp only[STD,qsB,h]
 simp only[STD,h]
theorem q8D (s:qxA)(hl:s.length<=1000000000):(qy [.s s]).run=some (0,[.i (qp5 s)]):=by
 rw[qiG];have hT:=qkJ s;have hml:(mag s).length<=s.length:=by unfold mag;split<;>simp
 have hR:=qwF (mag s) (by omega);have hcan:=qsP s;unfold qp5;have hl3:(1024<zG (mag s))=¬((mag s).length<=1024):=by unfold zG;simp only[eq_iff_iff];omega
 by_cases hne:mag s=[]
 ·rw[if_neg (fun h=>(hcan.1 h).1 hne)];simp only[STD,hT,ja,hne]
 ·have hp:0<(mag s).length:=qyM.2 hne;have a1:(0:Int)<zG (mag s):=by unfold zG;omega
  have hs:sat (mag s) 0=((mag s)[0].toNat:Int):=quN (i:=0) hp;have h48:((mag s)[0].toNat:Int)=48↔(mag s).getD 0 0=48:=by
   have:(mag s).getD 0 0=(mag s)[0]:=by simp[hp]
   rw[this];exact⟨fun h=>UInt8.toNat_inj.1 (by show (mag s)[0].toNat=48;omega),fun h=>by rw[h];rfl⟩
  by_cases hd:q9r (mag s)
  ·have hs1:((mag s).getD 0 0=48->s.length=1)↔(((mag s)[0].toNat:Int)=48->s=[48]):=by
    rw[h48];constructor
    ·intro h h2;obtain⟨c,e⟩:=List.length_eq_one_iff.1 (h h2);subst e;by_cases hc:c=45
     ·subst hc;exact absurd rfl hne
     ·have:mag [c]=[c]:=by unfold mag;rw[if_neg (by simpa using hc)]
      rw[this] at h2;simp at h2;rw[h2]
    ·intro h h2;rw[h h2];rfl
   by_cases hz:((mag s)[0].toNat:Int)=48
   ·by_cases h0:s=[48]
    ·rw[if_pos (hcan.2 ⟨hne,hd,hs1.2 fun _=>h0⟩)];by_cases hL:(mag s).length<=1024
     ·simp only[STD,hT,hR,ja,hne,qbe,hd,a1,hs,hz,hl3,hL,qxT,and_self];simp only[STD,h0]
     ·simp only[STD,hT,hR,ja,hne,qbe,hd,a1,hs,hz,hl3,hL,qxT,and_self];simp only[STD,h0]
    ·rw[if_neg (fun h=>h0 (hs1.1 (hcan.1 h).2.2 hz))];simp only[STD,hT,hR,ja,hne,qbe,hd,a1,hs,hz,h0,qxT,and_self]
   ·rw[if_pos (hcan.2 ⟨hne,hd,fun h=>absurd (h48.2 h) hz⟩)];by_cases hL:(mag s).length<=1024
    ·simp only[STD,hT,hR,ja,hne,qbe,hd,a1,hs,hz,hl3,hL,qxT,and_self]
    ·simp only[STD,hT,hR,ja,hne,qbe,hd,a1,hs,hz,hl3,hL,qxT,and_self]
  ·rw[if_neg (fun h=>hd (hcan.1 h).2.1)];simp only[STD,hT,hR,ja,hne,qbe,hd]
def okL(m:Int):Prop:=nl m<=1024
theorem qnx (h:okL m):qp5 (tI m)=0:=by unfold qp5;rw[if_pos ⟨m,rfl⟩,qmc,if_pos (show (tN m.natAbs).length<=1024 from h)]
theorem qnN (h:okL m):(tI m).length<=1025:=by have:=quk m;unfold okL nl at h;omega
theorem q8t (h:okL m):(qy [.s (tI m)]).run=some (0,[.i 0]):=by have:=qnN h;rw[q8D _ (by omega),qnx h]
def rS(l:List (List UInt8)):R:=l.map fun s=>[.s s]
theorem qj3 (l:List (List UInt8)):qh (rS l)=l.length:=by simp[rS,qh]
theorem qrK {l:List (List UInt8)}{i:Nat}(h:i<l.length):cS (rS l) (i:Int) 0=l[i]:=by simp[cS,wv,rS,h,U.toS]
theorem qwf {l:List (List UInt8)}(hn:l.length<1000000)(h:∀s,s∈l->(qy [.s s]).run=some (0,[.i 0])):(zC [.r (rS l)]).run=some (0,[.i 0]):=by
 rw[qm8,qj3];have key:=wG (S:=q2c) (fun i=>[.r (rS l),.i (l.length:Int),.i (i:Int)]) (0,[]) l.length (by omega) (fun i hi=>by
  rw[qc1,qrK hi];have a1:(i:Int)<(l.length:Int):=by omega
  have a2:(i:Int)<qh (rS l):=by rw[qj3];exact a1
  simp only[STD,a1,a2,q0y,and_self,h _ (qyu hi),q5J hi (show l.length<9223372036854775808 by omega)]) (by
  rw[qc1];have a1:¬(l.length:Int)<(l.length:Int):=by omega
  simp only[STD,a1])
 simp only[show (((0:Nat)):Int)=0 from rfl] at key;simp only[STD,key,wY key]
theorem q9H {m n:Int}(hm:okL m)(hn:okL n):(zC [.r [[.s (tI m)],[.s (tI n)]]]).run=some (0,[.i 0]):=by
 have:=qwf (l:=[tI m,tI n]) (by simp) (fun s hs=>by
  simp only[qxP,List.not_mem_nil,or_false] at hs;rcases hs with rfl|rfl
  ·exact q8t hm
  ·exact q8t hn)
 exact this
theorem q2Z (n:Int)(h:-9223372036854775808<=n/\n<=9223372036854775807):(zh [.i n]).run=some (0,[.s (tI n)]):=by rw[qnS];simp only[STD,qwq n h]
theorem q3v (m:Int):(tI m=[48])=(m=0):=propext ⟨fun h=>qoM (n:=0) h,fun h=>by rw[h];rfl⟩
theorem kX (m:Int):(jm [.s (tI m)]).run=some (0,[.i (sgn m)]):=by
 rw[qkH];have a1:(0:Int)<zG (tI m):=by have:=qmd m;unfold zG;omega
 have hs:(sat (tI m) 0=45)=(m<0):=quh m;unfold sgn;by_cases h0:m=0
 ·simp only[STD,ja,q3v,h0];rfl
 ·by_cases h1:m<0
  ·simp only[STD,ja,q3v,h0,a1,hs,h1,qxT,and_self]
  ·simp only[STD,ja,q3v,h0,a1,hs,h1,qxT,and_self]
theorem qmC (h:okL m):(q3Q [.s (tI m)]).run=some (0,[.i (sgn m),.i 0]):=by rw[qjW];simp only[STD,q8t h,kX]
theorem qvd (m n:Nat):(q2L [.s (tN m),.s (tN n)]).run=some (0,[.i (sgn ((m:Int)-(n:Int)))]):=by
 rw[qiR];have hl:(zG (tN m)=zG (tN n))=((tN m).length=(tN n).length):=by unfold zG;simp only[eq_iff_iff];omega
 have hl2:(zG (tN m)<zG (tN n))=((tN m).length<(tN n).length):=by unfold zG;simp only[eq_iff_iff];omega
 by_cases he:(tN m).length=(tN n).length
 ·have h:=qpG (jh m) (jh n) he;rw[q2R,q2R] at h;simp only[STD,hl,he,h]
 ·by_cases hlt:(tN m).length<(tN n).length
  ·have h:=(qrA m n).1 (.inl hlt);simp only[STD,hl,hl2,he,hlt];unfold sgn;rw[if_pos (by omega)]
  ·have h:=(qrA n m).1 (.inl (by omega));simp only[STD,hl,hl2,he,hlt];unfold sgn;rw[if_neg (by omega),if_neg (by omega)]
theorem q7P (m:Int):(m<0/\sgn m=-1)\/(m=0/\sgn m=0)\/(0<m/\sgn m=1):=by
 unfold sgn;rcases qyI m 0 with h|h|h
 ·rw[if_pos h];omega
 ·subst h;simp
 ·rw[if_neg (by omega),if_neg (by omega)];omega
theorem qhi (m:Int):-1<=sgn m/\sgn m<=1:=by rcases q7P m with⟨_,e⟩|⟨_,e⟩|⟨_,e⟩<;>omega
theorem qvp (m n:Int):(if sgn m<sgn n then -1 else if sgn n<sgn m then 1 else sgn m*sgn ((m.natAbs:Int)-(n.natAbs:Int)))=sgn (m-n):=by
 rcases q7P m with⟨a,ea⟩|⟨a,ea⟩|⟨a,ea⟩<;>rcases q7P n with⟨b,eb⟩|⟨b,eb⟩|⟨b,eb⟩<;>rw[ea,eb]<;>simp only[Int.reduceLT,Int.reduceNeg,if_true,if_false] <;>
  rcases q7P (m-n) with⟨c,ec⟩|⟨c,ec⟩|⟨c,ec⟩<;>rcases q7P ((m.natAbs:Int)-(n.natAbs:Int)) with⟨d,ed⟩|⟨d,ed⟩|⟨d,ed⟩<;>omega
theorem qhr {m n:Int}(hm:okL m)(hn:okL n):(kQ [.s (tI m),.s (tI n)]).run=some (0,[.i (sgn (m-n)),.i 0]):=by
 rw[qfX];have h1:=qkJ (tI m);have h2:=qkJ (tI n);rw[qmc] at h1 h2;have h3:=qvd m.natAbs n.natAbs;have hw:∀a b:Int,-1<=a/\a<=1->-1<=b/\b<=1->q8T .i64 a b=a*b:=fun a b ha hb=>q3i (by have:=qvr (A:=1) (B:=1) ha.1 ha.2 hb.1 hb.2;omega);have ba:=qhi m;have bb:=qhi n;have bc:=qhi ((m.natAbs:Int)-(n.natAbs:Int));have e:=qvp m n;by_cases c1:sgn m<sgn n
 ·rw[if_pos c1] at e;simp only[STD,q9H hm hn,kX,h1,h2,h3,c1,<-e]
 ·rw[if_neg c1] at e;by_cases c2:sgn n<sgn m
  ·rw[if_pos c2] at e;simp only[STD,q9H hm hn,kX,h1,h2,h3,c1,c2,<-e]
  ·rw[if_neg c2] at e;simp only[STD,q9H hm hn,kX,h1,h2,h3,c1,c2,hw _ _ ba bc,<-e]
theorem qfR (m:Int)(hm:nl m<=2000):∃(n:Nat) (l:List Int),(zI [.s (tI m)]).run=some (0,[.b (decide (m<0)),.i (n:Int),.r (rI l)])/\WOK n l/\nrm n l/\mv l=m.natAbs/\9*n<=nl m+8:=by
 rw[qky];have h1:=qkJ (tI m);rw[qmc] at h1;have a1:(0:Int)<zG (tI m):=by have:=qmd m;unfold zG;omega
 have hb:ieq (sat (tI m) 0) 45=decide (m<0):=by rw[Bool.eq_iff_iff,qhZ,quh];simp
 have e0:q31 232 [.i 0]=rI (List.replicate 232 0):=qkd 232 0;have hL:(tN m.natAbs).length<=2000:=hm;obtain⟨j,qs,g1,rfl,n,l,rfl,g2,g3,g4⟩:=q50 (S:=q1j) (fun k ps=>∃(n:Nat) (l:List Int),ps=[.s ((tN m.natAbs).take k),.b (decide (m<0)),.i (n:Int),.r (rI l)]/\k<=(tN m.natAbs).length/\WOK n l /\
   (k=0/\9*n<=(tN m.natAbs).length+8\/k+9*n=(tN m.natAbs).length)/\((val (tN m.natAbs):Nat):Int)=((val ((tN m.natAbs).take k):Nat):Int)*pB n+mv l)
  (fun j qs=>j=0/\∃(n:Nat) (l:List Int),qs=[.b (decide (m<0)),.i (n:Int),.r (rI l)]/\WOK n l/\mv l=m.natAbs/\9*n<=(tN m.natAbs).length+8) (n:=(tN m.natAbs).length) (by omega)
  (fun k ps hk ⟨n,l,hps,hkl,hw,hkn,hv⟩=>by
   subst hps;rw[qi1];have hlk:zG ((tN m.natAbs).take k)=(k:Int):=by unfold zG;rw[qyA,qyB hkl]
   rcases qyx k with rfl|hk0
   ·right;refine⟨0,[.b (decide (m<0)),.i (n:Int),.r (rI l)],?_,rfl,n,l,rfl,hw,?_,by omega⟩
    ·have a:¬(0:Int)<zG ((tN m.natAbs).take 0):=by rw[hlk];omega
     simp only[STD,a]
    ·rw[q2R,List.take_zero,qkA] at hv;simp at hv;omega
   ·left;have hn231:n<=231:=by omega
    obtain⟨q,hq,hq9⟩:∃q:Nat,qlt 0 (q3e .i64 (k:Int) 9)=(q:Int)/\q=k-9:=by refine⟨k-9,?_,rfl⟩;rw[yN (by omega)];unfold qlt;split<;>omega
    have hqk:q<=k:=by omega
    have hsub:qbE ((tN m.natAbs).take k) (q:Int) (k:Int)=((tN m.natAbs).take k).drop q:=by unfold qbE;simp[List.take_take]
    have hsub2:qbE ((tN m.natAbs).take k) 0 (q:Int)=(tN m.natAbs).take q:=by unfold qbE;simp[List.take_take,qyB hqk]
    have hdg:q9r (((tN m.natAbs).take k).drop q):=qrO (qs0 (jh _) k) q;have hdl:(((tN m.natAbs).take k).drop q).length=k-q:=by rw[List.length_drop,qyA,qyB hkl]
    have hdn:((tN m.natAbs).take k).drop q≠[]:=by intro h;rw[h] at hdl;simp at hdl;omega
    have hA:=qrj (s:=((tN m.natAbs).take k).drop q) (by omega) (qlz hdg hdn);have hvl:=qa5 hdg;rw[hdl] at hvl;have hv9:val (((tN m.natAbs).take k).drop q)<1000000000:=qyG hvl (by have:(10:Nat)^(k-q)<=10^9:=qzc (by omega) (by omega);simpa using this);have b1:(0:Int)<(k:Int):=by omega
    have b2:(0:Int)<=(q:Int)/\(q:Int)<=(k:Int):=by omega
    have b3:(0:Int)<=(k:Int)/\(k:Int)<=(k:Int):=by omega
    have b4:(0:Int)<=(n:Int)/\(n:Int)<232:=by omega
    have b5:(0:Int)<=0/\(0:Int)<=(q:Int):=by omega
    have w1:wT .i64 (n:Int) 1=((n+1:Nat):Int):=by rw[vZ (by omega)];omega
    have hnl:n<l.length:=by rw[hw.len];omega
    have hz:l[n]=0:=by rw[<-jj hnl];exact hw.z n (qxC _)
    have hW:=hw.setW (j:=n) (y:=((val (((tN m.natAbs).take k).drop q):Nat):Int)) (by omega) (by omega);rw[Nat.max_eq_right (by omega)] at hW;refine⟨q,[.s ((tN m.natAbs).take q),.b (decide (m<0)),.i ((n+1:Nat):Int),.r (rI (l.set n ((val (((tN m.natAbs).take k).drop q):Nat):Int)))],by omega,?_,n+1,_,rfl,by omega,hW,by omega,?_⟩
    ·simp only[STD,hlk,b1,hq,b2,b3,b4,b5,and_self,hsub,hsub2,hA,w1,qcv]
    ·rw[qou l n hnl,hz,hv];have hsp:val ((tN m.natAbs).take k)=val ((tN m.natAbs).take q)*10^(k-q)+val (((tN m.natAbs).take k).drop q):=by
      have h1:(tN m.natAbs).take k=((tN m.natAbs).take k).take q++((tN m.natAbs).take k).drop q:=(qza q _).symm;have h2:((tN m.natAbs).take k).take q=(tN m.natAbs).take q:=by rw[List.take_take,qyB hqk]
      rw[h2] at h1;generalize ((tN m.natAbs).take k).drop q=D at *;rw[h1,qlb,hdl]
     rw[hsp,q5u];rcases qxG k 9 with h9|h9
     ·have:q=0:=by omega
      subst this;rw[List.take_zero,qkA];simp;omega
     ·have:k-q=9:=by omega
      rw[this];simp only[Int.natCast_add,Int.natCast_mul];have e9:(((10:Nat)^9:Nat):Int)=1000000000:=by simp
      rw[e9];grind) (ps:=[.s ((tN m.natAbs).take (tN m.natAbs).length),.b (decide (m<0)),.i 0,.r (rI (List.replicate 232 0))])
  ⟨0,_,rfl,qxC _,WOK.zero,.inr (by omega),by rw[q2j,qzd,q9a];simp⟩
 rw[qzd] at g1;obtain⟨n2,t1,t2,t3⟩:=qdT g2 (decide (m<0));refine⟨n2,l,?_,t2,t3,g3,?_⟩
 ·simp only[STD,e0,hb,h1,a1,qxT,and_self,g1,t1]
 ·have:=qxm t2 t3 g2 (qxT _);unfold nl;omega
end Go.Eng

namespace Go.Eng
variable {m:Int}{n:Nat}
theorem qvH {k n:Nat}(h:nl m<=k)(hk:k<=9*n):(m.natAbs:Int)<pB n:=by rw[qs7];have h1:=qwI h;have h2:(10:Nat)^k<=10^(9*n):=qzc (by omega) hk;omega
theorem qjJ (h:okL m):(m.natAbs:Int)<pB 114:=qvH (k:=1024) h (by omega)
theorem qkw (h:okL m):okL (-m):=by unfold okL;rw[qrz];exact h
theorem qrN:pB n+pB n<=pB (n+1):=by rw[q5u];have:=q6s n;omega
theorem qwD {b:Bool}{l:List Int}(h:0<=mv l):((sv b l).natAbs:Int)=mv l:=by unfold sv;cases b<;>simp<;>omega
theorem qmr {l:List Int}(h:WOK n l)(hn:nrm n l)(b:Bool)(hk:okL (sv b l)):(zE [.b b,.i (n:Int),.r (rI l)]).run=some (0,[.s (tI (sv b l)),.i 0,.b b,.i (n:Int),.r (rI l)]):=by rw[qap];simp only[STD,qox h hn,q8t hk]
theorem qmZ (m n:Int):(jf [.s (tI m),.s (tI n)]).run=some (0,if (tI m).length<=9/\(tI n).length<=9 then [.i m,.i n,.b true] else [.i 0,.i 0,.b false]):=by
 rw[qiW];have h1:(9<zG (tI m))=¬(tI m).length<=9:=by unfold zG;simp only[eq_iff_iff];omega
 have h2:(9<zG (tI n))=¬(tI n).length<=9:=by unfold zG;simp only[eq_iff_iff];omega
 by_cases a:(tI m).length<=9
 ·by_cases b:(tI n).length<=9
  ·simp only[STD,h1,h2,a,b,and_self,qrj (s:=tI m) (by omega) (qrM m),qrj (s:=tI n) (by omega) (qrM n)]
  ·simp only[STD,h1,h2,a,b,and_false]
 ·simp only[STD,h1,a,false_and]
theorem qbx (h:(tI m).length<=9):m.natAbs<1000000000:=by
 have:(tN m.natAbs).length<=9:=by
  unfold tI at h;split at h
  ·simp at h;omega
  ·exact h
 exact qyG (qdY this) (by simp)
theorem qor (n:Int)(h:-9223372036854775808<=n/\n<=9223372036854775807):(yq [.i n]).run=some (0,[.s (tI n),.i 0]):=by rw[qgK];simp only[STD,q2Z n h]
theorem qsw {l:List Int}(h:mv l=m.natAbs):sv (decide (m<0)) l=m:=by
 unfold sv;by_cases hm:m<0
 ·rw[decide_eq_true hm,if_pos rfl];omega
 ·rw[decide_eq_false hm,if_neg (by simp)];omega
theorem qvR {m n:Int}(hm:okL m)(hn:okL n)(hs:okL (m+n)):(q62 [.r [[.s (tI m)],[.s (tI n)]]]).run=some (0,[.s (tI (m+n)),.i 0]):=by
 rw[qmB];have e0:q31 232 [.i 0]=rI (List.replicate 232 0):=qkd 232 0;have lm:=qjJ hm;have ln:=qjJ hn;obtain⟨q1,l1,r1,w1,n1,v1,_⟩:=qfR m (by unfold okL at hm;omega);obtain⟨q2,l2,r2,w2,n2,v2,_⟩:=qfR n (by unfold okL at hn;omega);have hb2:=q7n (show 115<=232 by omega);have hb1:pB 114+pB 114<=pB 115:=qrN;have hb0:=q6s 114;obtain⟨b1,k1,m1,a1,a2,a3,a4⟩:=quj (lx:=List.replicate 232 0) (nx:=0) WOK.zero (.inl rfl) w1 n1 (by rw[q9a,v1];omega) false (decide (m<0));rw[qsw v1] at a4;have a5:sv b1 m1=m:=by
  have:sv false (List.replicate 232 0)=0:=by unfold sv;rw[if_neg (by simp),q9a]
  rw[a4,this];omega
 obtain⟨b2,k2,m2,c1,c2,c3,c4⟩:=quj a2 a3 w2 n2 (by rw[<-qwD (b:=b1) a2.bd.1,a5,v2];omega) b1 (decide (n<0));rw[qsw v2,a5] at c4;have key:=wG (S:=q24) (fun i=>match i with
  | 0=>[.r [[.s (tI m)],[.s (tI n)]],.i 2,.i 0,.b false,.i 0,.r (rI (List.replicate 232 0))]
  | 1=>[.r [[.s (tI m)],[.s (tI n)]],.i 2,.i 1,.b b1,.i (k1:Int),.r (rI m1)]
  | _=>[.r [[.s (tI m)],[.s (tI n)]],.i 2,.i 2,.b b2,.i (k2:Int),.r (rI m2)]) (0,[.b b2,.i (k2:Int),.r (rI m2)]) 2 (by omega) (fun i hi=>by
   have:i=0\/i=1:=by omega
   have d0:cS [[.s (tI m)],[.s (tI n)]] 0 0=tI m:=rfl;have d1:cS [[.s (tI m)],[.s (tI n)]] 1 0=tI n:=rfl;have d2:qh [[U.s (tI m)],[U.s (tI n)]]=2:=rfl;rcases this with rfl|rfl
   ·simp only;rw[q7e,d0,d2];simp only[show ((0:Nat):Int)=0 from rfl] at a1;have w:wT .i64 0 1=1:=by decide
    simp only[STD,r1,a1,w,show (0:Int)<2 by omega,show (0:Int)<=0 by omega,and_self]
   ·simp only;rw[q7e,d1,d2];have w:wT .i64 1 1=2:=by decide
    simp only[STD,r2,c1,w,show (1:Int)<2 by omega,show (0:Int)<=1 by omega,and_self]) (by
   simp only;rw[q7e];simp only[STD,show ¬(2:Int)<2 by omega])
 simp only at key;have hL:=qmr c2 c3 b2 (by rw[c4];exact hs);rw[c4] at hL;have d2:qh [[U.s (tI m)],[U.s (tI n)]]=2:=rfl;simp only[e0,d2];simp only[STD,key,hL]
theorem qw6 {m n:Int}(hm:okL m)(hn:okL n)(hs:okL (m+n)):(kN [.s (tI m),.s (tI n)]).run=some (0,[.s (tI (m+n)),.i 0]):=by
 rw[qle];have h:=qmZ m n;by_cases hc:(tI m).length<=9/\(tI n).length<=9
 ·rw[if_pos hc] at h;have b1:=qbx hc.1;have b2:=qbx hc.2;have w:wT .i64 m n=m+n:=vZ (by omega);simp only[STD,q9H hm hn,h,w,qor (m+n) (by omega)]
 ·rw[if_neg hc] at h;simp only[STD,q9H hm hn,h,qvR hm hn hs]
theorem qpP (hm:okL m):(uK [.s (tI m)]).run=some (0,[.s (tI (-m))]):=by
 rw[qfc];have hl:=qnN hm;have hp:=qmd m;rcases q7P m with⟨h,e⟩|⟨h,e⟩|⟨h,e⟩
 ·have a1:(0:Int)<=zG (tI m)/\zG (tI m)<=zG (tI m):=by unfold zG;omega
  have a2:(0:Int)<=1/\1<=zG (tI m):=by unfold zG;omega
  have a3:qbE (tI m) 1 (zG (tI m))=tI (-m):=by unfold qbE zG;rw[q9y h,qd8 (m:=-m) (by omega),Int.natAbs_neg];simp
  simp only[STD,kX,e,a1,a2,a3,and_self,show ¬((-1:Int)=0) by omega,show ¬((-1:Int)=1) by omega]
 ·simp only[STD,kX,e];rw[h];rfl
 ·have a1:zG [45]+zG (tI m)<=140737488355328:=by unfold zG;simp;omega
  have a3:qmH [45] (tI m)=tI (-m):=by unfold qmH;rw[q9y (m:=-m) (by omega),qd8 (m:=m) (by omega),Int.natAbs_neg];rfl
  simp only[STD,kX,e,a1,a3,show ¬((1:Int)=0) by omega]
theorem qxc {m n:Int}(hm:okL m)(hn:okL n)(hs:okL (m-n)):(q3h [.s (tI m),.s (tI n)]).run=some (0,[.s (tI (m-n)),.i 0]):=by rw[qm5];have h:=qw6 hm (qkw hn) (by rwa [<-Int.sub_eq_add_neg]);rw[<-Int.sub_eq_add_neg] at h;simp only[STD,q9H hm hn,qpP hn,h]
theorem qxq {m n:Int}(hm:okL m)(hn:okL n)(hs:okL (m*n)):(q1G [.s (tI m),.s (tI n)]).run=some (0,[.s (tI (m*n)),.i 0]):=by
 rw[qmI];have h:=qmZ m n;by_cases hc:(tI m).length<=9/\(tI n).length<=9
 ·rw[if_pos hc] at h;have b1:=qbx hc.1;have b2:=qbx hc.2;have b3:=qvr (A:=999999999) (B:=999999999) (a:=m) (b:=n) (by omega) (by omega) (by omega) (by omega);have w:q8T .i64 m n=m*n:=q3i (by omega);simp only[STD,q9H hm hn,h,w,qor (m*n) (by omega)]
 ·rw[if_neg hc] at h;unfold okL at hm hn;obtain⟨q1,l1,r1,w1,n1,v1,z1⟩:=qfR m (by omega);obtain⟨q2,l2,r2,w2,n2,v2,z2⟩:=qfR n (by omega);obtain⟨k,l,t1,t2,t3,t4⟩:=quZ w1 w2 (by omega) (decide (m<0)) (decide (n<0));have hv:sv (!(Go.Eng.beq (decide (m<0)) (decide (n<0)))) l=m*n:=by
   unfold sv;rw[t4,v1,v2];have e:((m.natAbs:Int)*(n.natAbs:Int))=(((m*n).natAbs:Nat):Int):=by rw[qyH];simp
   rw[e];unfold Go.Eng.beq;rcases qyI m 0 with a|a|a
   ·rcases qyI n 0 with b|b|b
    ·have:=Int.mul_pos_of_neg_of_neg a b;simp[a,b];omega
    ·subst b;simp
    ·have:=qzo a b;have b':¬n<0:=by omega
     simp[a,b'];omega
   ·subst a;simp
   ·have a':¬m<0:=by omega
    rcases qyI n 0 with b|b|b
    ·have:=Int.mul_neg_of_pos_of_neg a b;simp[a',b];omega
    ·subst b;simp
    ·have:=Int.mul_pos a b;have b':¬n<0:=by omega
     simp[a',b'];omega
  have hL:=qmr t2 t3 (!(Go.Eng.beq (decide (m<0)) (decide (n<0)))) (by rw[hv];exact hs);rw[hv] at hL;simp only[STD,q9H hm hn,h,r1,r2,t1,hL]
theorem qqW {l:List Int}(h:WOK n l)(hn:nrm n l){k:Nat}(hl:mv l<pB k):n<=k:=by
 rcases qxG k n with h1|h1
 ·have:=h.lo hn (by omega);have:=q7n (show k<=n-1 by omega);omega
 ·exact h1
theorem qt7 {k n:Int}(h0:n≠0)(hm:okL (k*n))(hn:okL n):(q10 [.s (tI (k*n)),.s (tI n)]).run=some (0,[.s (tI k),.s (tI 0),.i 0]):=by
 rw[qgF];have h:=qmZ (k*n) n;have hz:¬tI n=[48]:=by rw[q3v];exact h0
 by_cases hc:(tI (k*n)).length<=9/\(tI n).length<=9
 ·rw[if_pos hc] at h;have b1:=qbx hc.1;have b2:=qbx hc.2;have hk:k.natAbs<=(k*n).natAbs:=by rw[qyH];have:k.natAbs*1<=k.natAbs*n.natAbs:=Nat.mul_le_mul_left _ (by omega);omega
  have w1:qp2 (k*n) n=0:=by unfold qp2;exact Int.mul_tmod_left k n
  have w2:qbh .i64 (k*n) n=k:=by rw[qyY];exact qq6 h0 (by omega)
  simp only[STD,q9H hm hn,ja,hz,h,h0,w1,w2,q2Z k (by omega),q2Z 0 (by omega)]
 ·rw[if_neg hc] at h;have lm:=qjJ hm;have ln:=qjJ hn;obtain⟨q1,l1,r1,w1,n1,v1,z1⟩:=qfR (k*n) (by unfold okL at hm;omega);obtain⟨q2,l2,r2,w2,n2,v2,z2⟩:=qfR n (by unfold okL at hn;omega);have hq2:q2<=114:=qqW w2 n2 (by omega);have hq0:q2≠0:=fun h=>by rw[qdf w2 n2] at h;omega
  obtain⟨nq,lq,nr,lr,d1,d2,d3,d4,d5,d6,d7⟩:=qar w1 w2 n2 hq0 (by omega) (decide (k*n<0)) (decide (n<0));have e1:((k*n).natAbs:Int)=(k.natAbs:Int)*(n.natAbs:Int):=by rw[qyH];simp
  rw[v1,v2,e1] at d6;rw[v2] at d7;have b4:=d4.bd.1;have hr0:mv lr=0/\mv lq=k.natAbs:=by
   have hn0:(0:Int)<(n.natAbs:Int):=by omega
   have e2:((k.natAbs:Int)-mv lq)*(n.natAbs:Int)=mv lr:=by rw[Int.sub_mul];omega
   rcases qyI ((k.natAbs:Int)-mv lq) 0 with a|a|a
   ·have:=qzo a hn0;omega
   ·rw[a,Int.zero_mul] at e2;omega
   ·have:=qz3 (show 1<=(k.natAbs:Int)-mv lq by omega) (show 0<=(n.natAbs:Int) by omega);omega
  have hnr:nr=0:=by rw[qdf d4 d5];exact hr0.1
  have hv:sv (!(Go.Eng.beq (decide (k*n<0)) (decide (n<0)))) lq=k:=by
   unfold sv;rw[hr0.2];unfold Go.Eng.beq;rcases qyI k 0 with a|a|a
   ·rcases qyI n 0 with b|b|b
    ·have:=Int.mul_pos_of_neg_of_neg a b;have c:¬k*n<0:=by omega
     simp[b,c];omega
    ·exact absurd b h0
    ·have c:=qzo a b;have b':¬n<0:=by omega
     simp[b',c];omega
   ·subst a;simp
   ·rcases qyI n 0 with b|b|b
    ·have c:=Int.mul_neg_of_pos_of_neg a b;simp[b,c];omega
    ·exact absurd b h0
    ·have:=Int.mul_pos a b;have c:¬k*n<0:=by omega
     have b':¬n<0:=by omega
     simp[b',c];omega
  have hT:=qox d2 d3 (!(Go.Eng.beq (decide (k*n<0)) (decide (n<0))));rw[hv] at hT;have hT2:=qox d4 d5 (decide (k*n<0));have hv0:sv (decide (k*n<0)) lr=0:=by unfold sv;rw[hr0.1];split<;>rfl
  rw[hv0] at hT2;have hnr':¬(0:Int)<(nr:Int):=by omega
  simp only[STD,q9H hm hn,ja,hz,h,r1,r2,d1,hnr',hT,hT2]
theorem qur {m n:Int}(h:m.natAbs<=n.natAbs)(hn:okL n):okL m:=qxJ (q95 h) hn
theorem qxl {k n:Int}(h0:n≠0)(hm:okL (k*n))(hn:okL n):(q3m [.s (tI (k*n)),.s (tI n)]).run=some (0,[.s (tI k),.i 0]):=by rw[qlA];have hk:okL k:=qur (by rw[qyH];have:k.natAbs*1<=k.natAbs*n.natAbs:=Nat.mul_le_mul_left _ (by omega);omega) hm;simp only[STD,qt7 h0 hm hn,q8t hk]
theorem qsQ (a b:Nat)(hb:b<9223372036854775808):(qm uZ [.i (a:Int),.i (b:Int)]).run=some (0,[.i ((Nat.gcd a b:Nat):Int)]):=by
 obtain⟨j,qs,h1,rfl,rfl⟩:=q50 (S:=uZ) (fun k ps=>∃x y:Nat,ps=[.i (x:Int),.i (y:Int)]/\y=k/\Nat.gcd x y=Nat.gcd a b)
  (fun j qs=>j=0/\qs=[.i ((Nat.gcd a b:Nat):Int)]) (n:=b) hb (fun k ps hk ⟨x,y,hps,hy,hg⟩=>by
  subst hps;rw[qgO];by_cases h0:y=0
  ·right;refine⟨0,[.i (x:Int)],?_,rfl,?_⟩
   ·simp only[STD,h0];simp[]
   ·rw[<-hg,h0,Nat.gcd_zero_right]
  ·left;refine⟨x%y,[.i (y:Int),.i ((x%y:Nat):Int)],by rw[<-hy];exact Nat.mod_lt _ (by omega),?_,y,x%y,rfl,rfl,?_⟩
   ·simp only[STD,show ¬((y:Int)=0) by omega,qtR]
   ·rw[<-hg,Nat.gcd_comm y,<-Nat.gcd_rec,Nat.gcd_comm]) (ps:=[.i (a:Int),.i (b:Int)]) ⟨a,b,rfl,rfl,rfl⟩
 exact h1
theorem quD {l:List Int}(h:WOK n l)(hn:n<=1):mv l=l.getD 0 0:=by
 have:=q6T l 1 (by rw[h.len];omega);rw[w8 h.dig h.z hn,qys,Int.add_zero] at this;have hl:=h.len;obtain⟨x,t,rfl⟩:∃x t,l=x::t:=by
  cases l with
  | nil=>simp at hl
  | cons x t=>exact⟨x,t,rfl⟩
 rw[this];simp[mv]
theorem qwT {m n:Int}(hm:okL m)(hn:okL n):(kY [.s (tI m),.s (tI n)]).run=some (0,[.s (tN (Nat.gcd m.natAbs n.natAbs)),.i 0]):=by
 rw[qmt];have lm:=qjJ hm;have ln:=qjJ hn;obtain⟨q1,l1,r1,w1,n1,v1,_⟩:=qfR m (by unfold okL at hm;omega);obtain⟨q2,l2,r2,w2,n2,v2,_⟩:=qfR n (by unfold okL at hn;omega);have hm':(tN m.natAbs).length<=1024:=hm;have hn':(tN n.natAbs).length<=1024:=hn;obtain⟨j,qs,g1,g2⟩:=q50 (S:=q2p) (fun k ps=>∃(x y:Nat) (b1 b2:Bool) (nx ny:Nat) (lx ly:List Int),ps=[.b b1,.i (nx:Int),.r (rI lx),.b b2,.i (ny:Int),.r (rI ly)] /\
   WOK nx lx/\nrm nx lx/\WOK ny ly/\nrm ny ly/\mv lx=x/\mv ly=y/\eM x y=k/\Nat.gcd x y=Nat.gcd m.natAbs n.natAbs/\(x:Int)<pB 114/\(y:Int)<pB 114)
  (fun j qs=>(j=0/\∃(b:Bool) (n':Nat) (l:List Int),qs=[.b b,.i (n':Int),.r (rI l)]/\WOK n' l/\nrm n' l/\mv l=((Nat.gcd m.natAbs n.natAbs:Nat):Int))\/(j=1/\qs=[.s (tN (Nat.gcd m.natAbs n.natAbs)),.i 0])) (n:=eM m.natAbs n.natAbs) (qtq (by omega) (by omega))
  (fun k ps hk ⟨x,y,b1,b2,nx,ny,lx,ly,hps,hw,hnw,hw2,hn2,hx,hy,he,hg,lx1,ly1⟩=>by
  subst hps;rw[qip];have hxl:=hw.len;have hyl:=hw2.len;by_cases h0:ny=0
  ·right;have hy0:mv ly=0:=by rw[<-qdf hw2 hn2];exact h0
   have hy0':y=0:=by omega
   refine⟨0,[.b b1,.i (nx:Int),.r (rI lx)],?_,.inl ⟨rfl,b1,nx,lx,rfl,hw,hnw,?_⟩⟩
   ·simp only[STD,h0,show ¬(0:Int)<((0:Nat):Int) by omega]
   ·rw[hx,<-hg,hy0',Nat.gcd_zero_right]
  ·have a0:(0:Int)<(ny:Int):=by omega
   have hy0:y≠0:=fun h=>h0 (by rw[qdf hw2 hn2];omega);by_cases hc:nx<=1/\ny<=1
   ·right;have e1:=quD hw hc.1;have e2:=quD hw2 hc.2;have d1:cI (rI lx) 0 0=(x:Int):=by rw[show (0:Int)=((0:Nat):Int) from rfl,q1R,<-e1,hx]
    have d2:cI (rI ly) 0 0=(y:Int):=by rw[show (0:Int)=((0:Nat):Int) from rfl,q1R,<-e2,hy]
    have hy9:=hw2.get 0;rw[<-e2,hy] at hy9;have hE:=qsQ x y (by omega);have hgl:Nat.gcd x y<=y:=Nat.gcd_le_right _ (by omega);have hO:=q2Z ((Nat.gcd x y:Nat):Int) (by omega);rw[q9V] at hO;have c1:(nx:Int)<=1:=by omega
    have c2:(ny:Int)<=1:=by omega
    refine⟨1,[.s (tN (Nat.gcd x y)),.i 0],?_,.inr ⟨rfl,by rw[hg]⟩⟩;simp only[STD,a0,c1,c2,d1,d2,hE,hO]
   ·left;have hny:ny<=114:=qqW hw2 hn2 (by omega);obtain⟨nq,lq,nr,lr,d1,d2,d3,d4,d5,d6,d7⟩:=qar hw hw2 hn2 h0 (by omega) b1 b2;have hr:mv lr=((x%y:Nat):Int):=by
     have b4:=d4.bd.1;rw[hx,hy] at d6;rw[hy] at d7;have hy1:(0:Int)<(y:Int):=by omega
     have:=(Int.ediv_emod_unique hy1 (a:=(x:Int)) (r:=mv lr) (q:=mv lq)).2 ⟨by rw[qyY];omega,b4,d7⟩;rw[<-this.2];simp
    refine⟨eM y (x%y),[.b b2,.i (ny:Int),.r (rI ly),.b false,.i (nr:Int),.r (rI lr)],by rw[<-he];exact quV hy0,?_,y,x%y,b2,false,ny,nr,ly,lr,rfl,hw2,hn2,d4,d5,hy,hr,rfl,?_,ly1,?_⟩
    ·by_cases c1:nx<=1
     ·have c2:¬(ny:Int)<=1:=by omega
      have c1':(nx:Int)<=1:=by omega
      simp only[STD,a0,c1',c2,d1]
     ·have c1':¬(nx:Int)<=1:=by omega
      simp only[STD,a0,c1',d1]
    ·rw[<-hg,Nat.gcd_comm y,<-Nat.gcd_rec,Nat.gcd_comm]
    ·have:=Nat.mod_lt x (show 0<y by omega);omega) (ps:=[.b (decide (m<0)),.i (q1:Int),.r (rI l1),.b (decide (n<0)),.i (q2:Int),.r (rI l2)])
  ⟨m.natAbs,n.natAbs,_,_,q1,q2,l1,l2,rfl,w1,n1,w2,n2,v1,v2,rfl,rfl,lm,ln⟩
 rcases g2 with⟨rfl,b,n',l,rfl,a1,a2,a3⟩|⟨rfl,rfl⟩
 ·have hT:=qox a1 a2 false;have hv:sv false l=((Nat.gcd m.natAbs n.natAbs:Nat):Int):=by unfold sv;rw[a3];rfl
  rw[hv,q9V] at hT;simp only[STD,q9H hm hn,r1,r2,g1,wY g1,hT]
 ·simp only[STD,q9H hm hn,r1,r2,g1,wY g1,show ¬(1=0) by omega]
end Go.Eng

namespace Go.Eng
variable {q:Rat}
theorem q5Q:okL 1:=by show nl 1<=1024;decide
theorem q4E:okL 0:=by show nl 0<=1024;decide
theorem qwN (s:qxA)(hl:s.length<=1000000000):(q25 [.s s,.s [47]]).run=some (0,if sP s<s.length then [.s (s.take (sP s)),.s (s.drop (sP s+1)),.b true] else [.s s,.s [],.b false]):=by
 rw[qiq];have h:(zB [.s s,.s [47]]).run=some (0,if sP s<s.length then [.s (s.take (sP s)),.s (s.drop (sP s+1)),.b true] else [.s s,.s [],.b false]):=by
  rw[q5Z];have hI:=qv5 s;by_cases hc:sP s<s.length
  ·rw[if_pos hc] at hI ⊢;have w:wT .i64 (sP s:Int) (zG [47])=((sP s+1:Nat):Int):=by show wT .i64 (sP s:Int) 1=_;rw[vZ (by omega)];omega
   have a1:(0:Int)<=(sP s:Int)/\(sP s:Int)<=zG s:=by unfold zG;omega
   have a2:(0:Int)<=0/\(0:Int)<=(sP s:Int):=by omega
   have a3:(0:Int)<=zG s/\zG s<=zG s:=by unfold zG;omega
   have a4:(0:Int)<=((sP s+1:Nat):Int)/\((sP s+1:Nat):Int)<=zG s:=by unfold zG;omega
   have e1:qbE s 0 (sP s:Int)=s.take (sP s):=by unfold qbE;simp
   have e2:qbE s ((sP s+1:Nat):Int) (zG s)=s.drop (sP s+1):=by unfold qbE zG;simp only[qy1];rw[qzd]
   simp only[STD,hI,a1.1,a1.2,a2,a3,a4,and_self,w,e1,e2]
  ·rw[if_neg hc] at hI ⊢;have a:¬(0:Int)<=-1:=by omega
   simp only[STD,hI,a]
 by_cases hc:sP s<s.length
 ·rw[if_pos hc] at h ⊢;simp only[STD,h]
 ·rw[if_neg hc] at h ⊢;simp only[STD,h]
theorem qvZ (s:qxA)(hl:s.length<=1000000000):(qA [.s s]).run=some (0,[.s (spn s),.s (spd s),.b (decide (sP s<s.length))]):=by
 rw[qmn];have h:=qwN s hl;unfold spn spd;by_cases hc:sP s<s.length
 ·rw[if_pos hc] at h ⊢;rw[decide_eq_true hc];simp only[STD,h]
 ·rw[if_neg hc] at h ⊢;have:sP s=s.length:=by have:=qve s;omega
  rw[decide_eq_false hc,this,qzd];simp only[STD,h]
theorem qwi (q:Rat):(sP (tQ q)<(tQ q).length)=(q.den≠1):=by
 by_cases h:q.den=1
 ·rw[q6r h,qnC (qiu _)];simp[h]
 ·rw[q2X h,qsS (qiu _)];simp[h]
def okQ(q:Rat):Prop:=qn q<=1024/\qd q<=1024
theorem q1F (h:okQ q):okL q.num:=h.1
theorem yT (h:okQ q):okL (q.den:Int):=h.2
theorem qhd (h:okQ q):(tQ q).length<=3000:=by have:=qwt q;have:=h.1;have:=h.2;omega
theorem q69 (h:okQ q):(qA [.s (tQ q)]).run=some (0,[.s (tI q.num),.s (tI (q.den:Int)),.b (decide (q.den≠1))]):=by have:=qhd h;rw[qvZ _ (by omega),qup,quw,q9V];simp only[qwi]
open Classical in
noncomputable def vI(s:qxA):Int:=if h:∃m:Int,s=tI m then h.choose else 0
theorem qrk (m:Int):vI (tI m)=m:=by unfold vI;have h:∃k:Int,tI m=tI k:=⟨m,rfl⟩;rw[dif_pos h];exact(qoM h.choose_spec).symm
theorem qjT {s:qxA}(h:qp5 s=0):∃m:Int,s=tI m/\okL m:=by
 unfold qp5 at h;split at h
 ·rename_i hm;obtain⟨m,rfl⟩:=hm;rw[qmc] at h;split at h
  ·rename_i hl;exact⟨m,rfl,hl⟩
  ·omega
 ·omega
theorem qmk (s:qxA):qp5 s=0\/qp5 s=3\/qp5 s=11:=by
 unfold qp5;split
 ·split<;>simp
 ·simp
noncomputable def qiD(s:qxA):Int:=
 if qp5 (spn s)=3 then 3 else if qp5 (spd s)=3 then 3 else if qp5 (spn s)≠0 then 11 else if qp5 (spd s)≠0 then 11
 else if sP s<s.length then (if sgn (vI (spd s)-1)<=0 then 3 else if Nat.gcd (vI (spn s)).natAbs (vI (spd s)).natAbs=1 then 0 else 3) else 0
theorem qwQ (s:qxA):(spn s).length<=s.length:=by unfold spn;rw[qyA];omega
theorem qwK (s:qxA):(spd s).length<=s.length+1:=by unfold spd;split<;>simp<;>omega
theorem q4O (s:qxA)(hl:s.length<=100000000):(wD [.s s]).run=some (0,[.i (qiD s)]):=by
 rw[qiI];have hn:=qwQ s;have hd:=qwK s;have h1:=q8D (spn s) (by omega);have h2:=q8D (spd s) (by omega);have hc:=qvZ s (by omega);have mx:qlt 11 0=11/\qlt 11 11=11/\qlt 0 11=11:=by decide
 unfold qiD;rcases qmk (spn s) with a|a|a<;>rcases qmk (spd s) with b|b|b<;>rw[a] at h1 ⊢<;>rw[b] at h2 ⊢
 ·obtain⟨m,em,om⟩:=qjT a;obtain⟨n,en,on⟩:=qjT b;rw[em] at h1 hc ⊢;rw[en] at h2 hc ⊢;have hC:=qhr on (n:=1) q5Q;rw[qwM] at hC;have hG:=qwT om on;rw[qrk,qrk];by_cases hs:sP s<s.length
  ·by_cases ho:sgn (n-1)<=0
   ·simp only[STD,hc,h1,h2,hs,hC,hG,ho,show ¬((0:Int)=3) by omega,show ¬((0:Int)≠0) by omega]
   ·by_cases hg:Nat.gcd m.natAbs n.natAbs=1
    ·simp only[STD,hc,h1,h2,hs,hC,hG,ho,hg,ja,qbu,show ¬((0:Int)=3) by omega,show ¬((0:Int)≠0) by omega]
    ·simp only[STD,hc,h1,h2,hs,hC,hG,ho,hg,ja,qbu,show ¬((0:Int)=3) by omega,show ¬((0:Int)≠0) by omega]
  ·simp only[STD,hc,h1,h2,hs,show ¬((0:Int)=3) by omega,show ¬((0:Int)≠0) by omega]
 all_goals simp only[STD,hc,h1,h2,mx,show ¬((0:Int)=3) by omega,show ¬((11:Int)=3) by omega,show ¬((11:Int)=0) by omega,show ¬((3:Int)=0) by omega]
theorem qkC (h:okQ q):qiD (tQ q)=0:=by
 unfold qiD;have e1:spd (tQ q)=tI (q.den:Int):=by rw[quw,q9V]
 rw[qup,e1,qnx (q1F h),qnx (yT h)];simp only[qrk,qwi];by_cases hd:q.den=1
 ·simp[hd]
 ·have:=q.den_nz;have hs:¬sgn ((q.den:Int)-1)<=0:=by unfold sgn;rw[if_neg (by omega),if_neg (by omega)];omega
  have hr:Nat.gcd q.num.natAbs q.den=1:=q.reduced;simp[hd,hs,hr]
theorem qvn {s:qxA}(h:qiD s=0):∃q:Rat,s=tQ q/\okQ q:=by
 unfold qiD at h;split at h
 ·omega
 split at h
 ·omega
 split at h
 ·omega
 split at h
 ·omega
 rename_i h1 h2 h3 h4;obtain⟨m,em,om⟩:=qjT (Decidable.byContradiction fun h=>h3 h);obtain⟨n,en,on⟩:=qjT (Decidable.byContradiction fun h=>h4 h);rw[em,en,qrk,qrk] at h;split at h
 ·rename_i hs;split at h
  ·omega
  rename_i hsg;split at h
  ·rename_i hg;have hn1:1<n:=by
    unfold sgn at hsg;by_cases c1:n-1<0
    ·rw[if_pos c1] at hsg;omega
    ·rw[if_neg c1] at hsg;by_cases c2:n-1=0
     ·rw[if_pos c2] at hsg;omega
     ·omega
   obtain⟨k,rfl⟩:∃k:Nat,n=(k:Int):=⟨n.toNat,by omega⟩;refine⟨⟨m,k,by omega,hg⟩,?_,om,on⟩;rw[q2X (show k≠1 by omega)];have hslash:s=spn s++47::spd s:=by
    unfold spn spd;rw[if_pos hs];have h47:s[sP s]=47:=by have:=List.findIdx_getElem (p:=(·==47)) (w:=hs);exact eq_of_beq this
    rw[<-h47,List.getElem_cons_drop,qza]
   rw[hslash,em,en,q9V]
  ·omega
 ·rename_i hs;have e:sP s=s.length:=by have:=qve s;omega
  have hsn:spn s=s:=by unfold spn;rw[e,qzd]
  refine⟨(m:Rat),?_,?_,?_⟩
  ·rw[qrB,<-em,hsn]
  ·have:nl m<=1024:=om;unfold qn;simpa using this
  ·unfold qd;simp;decide
theorem qxn (m:Int):nl m<=(tI m).length:=by unfold nl tI;split<;>simp
theorem qh9 (q:Rat):qn q<=(tQ q).length/\(q.den=1\/qn q+1+qd q<=(tQ q).length):=by
 have h1:=qxn q.num;by_cases h:q.den=1
 ·rw[q6r h];exact⟨h1,.inl h⟩
 ·rw[q2X h];unfold qn qd dl;simp;omega
theorem qlV {l:List (List UInt8)}(hn:l.length<1000000)(h:∀s,s∈l->(wD [.s s]).run=some (0,[.i 0])):(qE [.r (rS l)]).run=some (0,[.i 0]):=by
 rw[qia,qj3];have key:=wG (S:=uV) (fun i=>[.r (rS l),.i (l.length:Int),.i (i:Int)]) (0,[]) l.length (by omega) (fun i hi=>by
  rw[q86,qrK hi];have a1:(i:Int)<(l.length:Int):=by omega
  have a2:(i:Int)<qh (rS l):=by rw[qj3];exact a1
  simp only[STD,a1,a2,q0y,and_self,h _ (qyu hi),q5J hi (show l.length<9223372036854775808 by omega)]) (by
  rw[q86];have a1:¬(l.length:Int)<(l.length:Int):=by omega
  simp only[STD,a1])
 simp only[show (((0:Nat)):Int)=0 from rfl] at key;simp only[STD,key,wY key]
theorem qbt (h:okQ q):(wD [.s (tQ q)]).run=some (0,[.i 0]):=by have:=qhd h;rw[q4O _ (by omega),qkC h]
theorem qah {a b:Rat}(ha:okQ a)(hb:okQ b):(qE [.r [[.s (tQ a)],[.s (tQ b)]]]).run=some (0,[.i 0]):=by
 exact qlV (l:=[tQ a,tQ b]) (by simp) (fun s hs=>by
  simp only[qxP,List.not_mem_nil,or_false] at hs;rcases hs with rfl|rfl
  ·exact qbt ha
  ·exact qbt hb)
theorem qvl {m n:Int}(hm:okL m)(hn:okL n)(h:okL (m+n)):(vV [.s (tI m),.s (tI n),.i 0]).run=some (0,[.s (tI (m+n)),.i 0]):=by
 rw[qeR];have:(zO [.s (tI m),.s (tI n),.i 0]).run=some (0,[.s (tI (m+n)),.i 0]):=by rw[q6i];simp only[STD,qw6 hm hn h]
 simp only[STD,this]
theorem qnt {m n:Int}(hm:okL m)(hn:okL n)(h:okL (m-n)):(qQ [.s (tI m),.s (tI n),.i 0]).run=some (0,[.s (tI (m-n)),.i 0]):=by
 rw[qfj];have:(zM [.s (tI m),.s (tI n),.i 0]).run=some (0,[.s (tI (m-n)),.i 0]):=by rw[q6f];simp only[STD,qxc hm hn h]
 simp only[STD,this]
theorem qvv {m n:Int}(hm:okL m)(hn:okL n)(h:okL (m*n)):(zd [.s (tI m),.s (tI n),.i 0]).run=some (0,[.s (tI (m*n)),.i 0]):=by rw[q6o];simp only[STD,qxq hm hn h]
theorem qvj {m n:Int}(hm:okL m)(hn:okL n):(zQ [.s (tI m),.s (tI n),.i 0]).run=some (0,[.s (tN (Nat.gcd m.natAbs n.natAbs)),.i 0]):=by rw[q6j];simp only[STD,qwT hm hn]
theorem qkz {k n:Int}(h0:n≠0)(hm:okL (k*n))(hn:okL n):(qF [.s (tI (k*n)),.s (tI n),.i 0]).run=some (0,[.s (tI k),.i 0]):=by rw[q6k];simp only[STD,qxl h0 hm hn]
def prd:Int->List Int->Int
 | a,[]=>a
 | a,m::l=>prd (a*m) l
def qvB:Int->List Int->Prop
 | a,[]=>okL a
 | a,m::l=>okL a/\okL m/\qvB (a*m) l
theorem qs3:∀(l:List Int) (pre:List Int) (a:Int),qvB a l->pre.length+l.length<1000->∀f,l.length<f ->
  (qdC vQ f [.s (tI a),.r (rS ((pre++l).map tI)),.i ((pre++l).length:Int),.i (pre.length:Int),.i 0]).run=some (0,[.s (tI (prd a l)),.i 0])
 | [],pre,a,h,hl,f,hf=>by
  obtain⟨f,rfl⟩:∃g,f=g+1:=⟨f-1,by simp at hf;omega⟩;refine q46 ?_;rw[q64,qyD];have a1:¬(pre.length:Int)<(pre.length:Int):=by omega
  simp only[STD,a1];rfl
 | m::l,pre,a,h,hl,f,hf=>by
  obtain⟨f,rfl⟩:∃g,f=g+1:=⟨f-1,by simp at hf;omega⟩;obtain⟨h1,h2,h3⟩:=h;have hlt:pre.length<(pre++m::l).length:=by simp
  have ih:=qs3 l (pre++[m]) (a*m) h3 (by simp at hl ⊢;omega) f (by simp at hf;omega);rw[qyb,List.singleton_append] at ih;have hok:okL (a*m):=by
   cases l with
   | nil=>exact h3
   | cons x l=>exact h3.1
  rw[qbv (qs:=[.s (tI (a*m)),.r (rS ((pre++m::l).map tI)),.i ((pre++m::l).length:Int),.i ((pre++[m]).length:Int),.i 0])]
  ·exact ih
  ·rw[q64];have hlt2:pre.length<((pre++m::l).map tI).length:=by simp
   rw[qrK hlt2];have e:((pre++m::l).map tI)[pre.length]=tI m:=by simp
   rw[e];have a1:(pre.length:Int)<((pre++m::l).length:Int):=by omega
   have a2:(pre.length:Int)<qh (rS ((pre++m::l).map tI)):=by rw[qj3];omega
   have w:wT .i64 (pre.length:Int) 1=((pre++[m]).length:Int):=by rw[vZ (by omega)];simp
   simp only[STD,a1,a2,q0y,and_self,qvv h1 h2 hok,w]
theorem qlE (l:List Int)(h:qvB 1 l)(hl:l.length<1000):(qf [.r (rS (l.map tI)),.i 0]).run=some (0,[.s (tI (prd 1 l)),.i 0]):=by
 rw[qfh,qj3];have h1:=qs3 l [] 1 h (by simp;omega) q9T (by unfold q9T;omega);simp only[qyN,qyq] at h1;have e:(qm vQ [.s [49],.r (rS (l.map tI)),.i ((l.map tI).length:Int),.i 0,.i 0]).run=some (0,[.s (tI (prd 1 l)),.i 0]):=by rw[qz9];exact h1
 simp only[STD,e]
theorem q7W {m n:Int}(hm:okL m)(hn:okL n)(h:okL (m*n)):(qf [.r [[.s (tI m)],[.s (tI n)]],.i 0]).run=some (0,[.s (tI (m*n)),.i 0]):=by have:=qlE [m,n] ⟨q5Q,hm,by rw[qy4];exact hm,hn,by rw[qy4];exact h⟩ (by simp);simp only[prd,qy4] at this;exact this
theorem qmA (h:okQ q):(ke [.s (tI q.num),.s (tI (q.den:Int))]).run=some (0,[.s (tQ q)]):=by
 rw[qgw,q9V];have l1:=qnN (q1F h);have l2:(tN q.den).length<=1024:=h.2;have a1:zG (tI q.num)+zG [47]<=140737488355328:=by unfold zG;simp;omega
 have a2:zG (qmH (tI q.num) [47])+zG (tN q.den)<=140737488355328:=by unfold zG qmH;simp;omega
 by_cases h1:q.den=1
 ·simp only[STD,ja,qbu,h1,q6r h1]
 ·simp only[STD,ja,qbu,h1,q2X h1,a1,a2];simp[qmH]
theorem qtw (s:qxA):(js [.s s,.s [45]]).run=some (0,[.b (decide (s.getD 0 0=45))]):=by rw[qbC];simp only[STD,qsB]
theorem qr0 (n:Int):((tI n).getD 0 0=45)=(n<0):=by
 by_cases h:n<0
 ·rw[q9y h];simp[h]
 ·rw[qd8 h];obtain⟨c,t,e,h1,h2⟩:=qba (jh n.natAbs) (qgy _);rw[e];simp only[qyT,h,eq_iff_iff,iff_false];intro hc;subst hc;revert h1;decide
theorem qdJ {m n:Int}(hn0:n≠0)(hm:okL m)(hn:okL n):(qt [.s (tI m),.s (tI n),.i 0]).run=some (0,[.s (tQ (Rat.divInt m n)),.i 0])/\okQ (Rat.divInt m n):=by
 have hG:=qvj hm hn;have hg0:0<Nat.gcd m.natAbs n.natAbs:=Nat.gcd_pos_of_pos_right _ (by omega);have hgn:Nat.gcd m.natAbs n.natAbs<=n.natAbs:=Nat.gcd_le_right _ (by omega);have hnum:=Rat.num_divInt m n;have hden:=Rat.den_divInt m n;rw[if_neg hn0] at hden;have hgc:Int.gcd n m=Nat.gcd m.natAbs n.natAbs:=by unfold Int.gcd;exact Nat.gcd_comm _ _
 rw[hgc] at hnum hden;obtain⟨k,hk⟩:((Nat.gcd m.natAbs n.natAbs:Nat):Int) ∣ m:=Int.ofNat_dvd_left.2 (Nat.gcd_dvd_left _ _);obtain⟨l,hl⟩:((Nat.gcd m.natAbs n.natAbs:Nat):Int) ∣ n:=Int.ofNat_dvd_left.2 (Nat.gcd_dvd_right _ _);generalize Nat.gcd m.natAbs n.natAbs=g at *;generalize Rat.divInt m n=q at *;have hgok:okL (g:Int):=qur (by simpa using hgn) hn;have hm2:k*(g:Int)=m:=by rw[qyY];exact hk.symm
 have hn2:l*(g:Int)=n:=by rw[qyY];exact hl.symm
 have hgz:(g:Int)≠0:=by omega
 have hok:okQ q:=by
  constructor
  ·refine qxJ (qas ?_) hm;rw[hnum];refine qxJ (Int.natAbs_ediv_le_natAbs _ _) ?_;rw[qyH,Int.natAbs_sign_of_ne_zero hn0];omega
  ·refine qxJ (q95 ?_) hn;rw[hden];exact Nat.div_le_self _ _
 refine⟨?_,hok⟩;rw[qbI];have hP:=qtw (tI n);simp only[qr0] at hP;by_cases hneg:n<0
 ·have e1:-k=q.num:=by rw[hnum,Int.sign_eq_neg_one_of_neg hneg,<-hm2];rw[show (-1:Int)*(k*(g:Int))=(-k)*(g:Int) by rw[Int.neg_mul,qy4,Int.neg_mul]];exact(Int.mul_ediv_cancel _ hgz).symm
  have e2:-l=(q.den:Int):=by
   rw[hden];have h3:(n.natAbs:Int)=(-l)*(g:Int):=by rw[Int.neg_mul];omega
   rw[Int.natCast_ediv,h3,Int.mul_ediv_cancel _ hgz]
  have hS:=qnt (m:=0) (n:=(g:Int)) q4E hgok (by rw[Int.zero_sub];exact qkw hgok);rw[Int.zero_sub,q9V] at hS;have Q1:=qkz (k:=-k) (n:=-(g:Int)) (by omega) (by rw[Int.neg_mul_neg,hm2];exact hm) (qkw hgok);have Q2:=qkz (k:=-l) (n:=-(g:Int)) (by omega) (by rw[Int.neg_mul_neg,hn2];exact hn) (qkw hgok);rw[Int.neg_mul_neg,hm2,e1] at Q1;rw[Int.neg_mul_neg,hn2,e2] at Q2;have hS':(qQ [.s [48],.s (tN g),.i 0]).run=some (0,[.s (tI (-(g:Int))),.i 0]):=hS;simp only[STD,hG,hP,hneg,hS',Q1,Q2,qmA hok]
 ·have e1:k=q.num:=by rw[hnum,Int.sign_eq_one_of_pos (by omega),qy4,<-hm2];exact(Int.mul_ediv_cancel _ hgz).symm
  have e2:l=(q.den:Int):=by
   rw[hden];have h3:(n.natAbs:Int)=l*(g:Int):=by omega
   rw[Int.natCast_ediv,h3,Int.mul_ediv_cancel _ hgz]
  have Q1:=qkz (k:=k) (n:=(g:Int)) hgz (by rw[hm2];exact hm) hgok;have Q2:=qkz (k:=l) (n:=(g:Int)) hgz (by rw[hn2];exact hn) hgok;rw[hm2,e1,q9V] at Q1;rw[hn2,e2,q9V] at Q2;simp only[STD,hG,hP,hneg,Q1,Q2,qmA hok]
end Go.Eng

namespace Go.Eng
theorem qpm(a b:Rat):Rat.divInt (a.num*b.den+b.num*a.den) ((a.den:Int)*(b.den:Int))=a+b:=by rw[Rat.add_def',<-Rat.divInt_ofNat];simp
theorem qpb(a b:Rat):Rat.divInt (a.num*b.den-b.num*a.den) ((a.den:Int)*(b.den:Int))=a-b:=by rw[Rat.sub_def',<-Rat.divInt_ofNat];simp
theorem qql(a b:Rat):Rat.divInt (a.num*b.num) ((a.den:Int)*(b.den:Int))=a*b:=by rw[Rat.mul_def',<-Rat.divInt_ofNat];simp
theorem qpc(a b:Rat):Rat.divInt (a.num*b.den) ((a.den:Int)*b.num)=a/b:=by rw[Rat.div_def,Rat.inv_def,<-Rat.divInt_mul_divInt,Rat.num_divInt_den]
theorem qex(a b:Rat):(a.den:Int)*(b.den:Int)≠0:=by have:=Int.mul_pos (qtY a) (qtY b);omega
theorem qx0{m:Int}(h:m≠0):¬tI m=[48]:=by rw[q3v];exact h
def bnd(N D:Nat)(q:Rat):Prop:=qn q<=N/\qd q<=D
theorem bnd.ok{N D:Nat}{q:Rat}(h:bnd N D q)(hN:N<=1024)(hD:D<=1024):okQ q:=⟨qxJ h.1 hN,qxJ h.2 hD⟩
theorem bnd.mono{N D N' D':Nat}{q:Rat}(h:bnd N D q)(hN:N<=N')(hD:D<=D'):bnd N' D' q:=⟨qxJ h.1 hN,qxJ h.2 hD⟩
theorem bnd.mul{N D N' D':Nat}{a b:Rat}(ha:bnd N D a)(hb:bnd N' D' b):bnd (N+N') (D+D') (a*b):=⟨qxJ (quu a b) (Nat.add_le_add ha.1 hb.1),qxJ (qus a b) (Nat.add_le_add ha.2 hb.2)⟩
theorem bnd.add{N D N' D' K:Nat}{a b:Rat}(ha:bnd N D a)(hb:bnd N' D' b)(h1:N+D'+1<=K)(h2:N'+D+1<=K):bnd K (D+D') (a+b):=⟨by have:=qwk a b;have:=ha.1;have:=ha.2;have:=hb.1;have:=hb.2;omega,by have:=qw7 a b;have:=ha.2;have:=hb.2;omega⟩
theorem bnd.sub{N D N' D' K:Nat}{a b:Rat}(ha:bnd N D a)(hb:bnd N' D' b)(h1:N+D'+1<=K)(h2:N'+D+1<=K):bnd K (D+D') (a-b):=⟨by have:=qwy a b;have:=ha.1;have:=ha.2;have:=hb.1;have:=hb.2;omega,by have:=qwE a b;have:=ha.2;have:=hb.2;omega⟩
theorem bnd.div{N D N' D':Nat}{a b:Rat}(h0:b≠0)(ha:bnd N D a)(hb:bnd N' D' b):bnd (N+D') (D+N') (a/b):=⟨by have:=qw8 a h0;have:=ha.1;have:=hb.2;omega,by have:=qwj a h0;have:=ha.2;have:=hb.1;omega⟩
theorem bnd.neg{N D:Nat}{a:Rat}(h:bnd N D a):bnd N D (-a):=⟨by rw[qw9];exact h.1,h.2⟩
theorem q6G:bnd 1 1 0:=⟨by decide,by decide⟩
theorem qkv:bnd 1 1 2:=⟨by decide,by decide⟩
theorem q7b{m n:Int}{N M:Nat}(hm:nl m<=N)(hn:nl n<=M)(h:N+M<=1024):okL (m*n):=by have:=q1N m n;unfold okL;omega
theorem qio{N D N' D':Nat}{a b:Rat}(ha:bnd N D a)(hb:bnd N' D' b)(h1:N+N'<=1024)(h2:D+D'<=1024):(kS [.s (tQ a),.s (tQ b)]).run=some (0,[.s (tQ (a*b)),.i 0]):=by
 have oa:=ha.ok (by omega) (by omega);have ob:=hb.ok (by omega) (by omega);have k1:okL (a.num*b.num):=q7b ha.1 hb.1 h1;have k2:okL ((a.den:Int)*(b.den:Int)):=q7b ha.2 hb.2 h2;have m1:=q7W (q1F oa) (q1F ob) k1;have m2:=q7W (yT oa) (yT ob) k2;have hL:=(qdJ (qex a b) k1 k2).1;rw[qql] at hL;rw[qmJ];have key:(zW [.s (tQ a),.s (tQ b)]).run=some (0,[.s (tQ (a*b)),.i 0]):=by
  rw[q7k];have h1:(q0d [.s (tI a.num),.s (tI (a.den:Int)),.s (tI b.num),.s (tI (b.den:Int)),.i 0]).run=some (0,[.s (tI (a.num*b.num)),.s (tI ((a.den:Int)*(b.den:Int))),.i 0]):=by rw[qiX];simp only[STD,m1,m2]
  simp only[STD,qah oa ob,q69 oa,q69 ob,h1,ja,qx0 (qex a b),hL]
 simp only[STD,key]
theorem qng{N D N' D':Nat}{a b:Rat}(ha:bnd N D a)(hb:bnd N' D' b)(h1:N+D'<=1023)(h2:N'+D<=1023)(h3:D+D'<=1024):(q3k [.s (tQ a),.s (tQ b)]).run=some (0,[.s (tQ (a+b)),.i 0]):=by
 have p1:=qhR a;have p2:=qhR b;have p3:=qoG a;have p4:=qoG b;have oa:okQ a:=⟨by have:=ha.1;have:=hb.2;omega,by have:=ha.2;have:=hb.2;omega⟩;have ob:okQ b:=⟨by have:=hb.1;have:=ha.2;omega,by have:=ha.2;have:=hb.2;omega⟩;have k1:okL (a.num*(b.den:Int)):=q7b ha.1 hb.2 (by omega);have k2:okL (b.num*(a.den:Int)):=q7b hb.1 ha.2 (by omega);have k3:okL ((a.den:Int)*(b.den:Int)):=q7b ha.2 hb.2 h3;have k4:okL (a.num*(b.den:Int)+b.num*(a.den:Int)):=by have q1:=qoR (a.num*(b.den:Int)) (b.num*(a.den:Int));have q2:=q1N a.num (b.den:Int);have q3:=q1N b.num (a.den:Int);have q4:nl a.num<=N:=ha.1;have q5:nl (b.den:Int)<=D':=hb.2;have q6:nl b.num<=N':=hb.1;have q7:nl (a.den:Int)<=D:=ha.2;unfold okL;omega
 have m1:=q7W (q1F oa) (yT ob) k1;have m2:=q7W (q1F ob) (yT oa) k2;have m3:=q7W (yT oa) (yT ob) k3;have hL:=(qdJ (qex a b) k4 k3).1;rw[qpm] at hL;rw[qm3];have key:(zZ [.s (tQ a),.s (tQ b)]).run=some (0,[.s (tQ (a+b)),.i 0]):=by
  rw[q72];have h1:(q0s [.s (tI a.num),.s (tI (a.den:Int)),.s (tI b.num),.s (tI (b.den:Int)),.i 0]).run=some (0,[.s (tI (a.num*b.den+b.num*a.den)),.s (tI ((a.den:Int)*(b.den:Int))),.i 0]):=by rw[qiQ];simp only[STD,m1,m2,m3,qvl k1 k2 k4]
  simp only[STD,qah oa ob,q69 oa,q69 ob,h1,ja,qx0 (qex a b),hL]
 simp only[STD,key]
theorem qn7{N D N' D':Nat}{a b:Rat}(ha:bnd N D a)(hb:bnd N' D' b)(h1:N+D'<=1023)(h2:N'+D<=1023)(h3:D+D'<=1024):(q3c [.s (tQ a),.s (tQ b)]).run=some (0,[.s (tQ (a-b)),.i 0]):=by
 have p1:=qhR a;have p2:=qhR b;have p3:=qoG a;have p4:=qoG b;have oa:okQ a:=⟨by have:=ha.1;have:=hb.2;omega,by have:=ha.2;have:=hb.2;omega⟩;have ob:okQ b:=⟨by have:=hb.1;have:=ha.2;omega,by have:=ha.2;have:=hb.2;omega⟩;have k1:okL (a.num*(b.den:Int)):=q7b ha.1 hb.2 (by omega);have k2:okL (b.num*(a.den:Int)):=q7b hb.1 ha.2 (by omega);have k3:okL ((a.den:Int)*(b.den:Int)):=q7b ha.2 hb.2 h3;have k4:okL (a.num*(b.den:Int)-b.num*(a.den:Int)):=by have q1:=qsj (a.num*(b.den:Int)) (b.num*(a.den:Int));have q2:=q1N a.num (b.den:Int);have q3:=q1N b.num (a.den:Int);have q4:nl a.num<=N:=ha.1;have q5:nl (b.den:Int)<=D':=hb.2;have q6:nl b.num<=N':=hb.1;have q7:nl (a.den:Int)<=D:=ha.2;unfold okL;omega
 have m1:=q7W (q1F oa) (yT ob) k1;have m2:=q7W (q1F ob) (yT oa) k2;have m3:=q7W (yT oa) (yT ob) k3;have hL:=(qdJ (qex a b) k4 k3).1;rw[qpb] at hL;rw[qmy];have key:(zX [.s (tQ a),.s (tQ b)]).run=some (0,[.s (tQ (a-b)),.i 0]):=by
  rw[q7B];have h1:(q0k [.s (tI a.num),.s (tI (a.den:Int)),.s (tI b.num),.s (tI (b.den:Int)),.i 0]).run=some (0,[.s (tI (a.num*b.den-b.num*a.den)),.s (tI ((a.den:Int)*(b.den:Int))),.i 0]):=by rw[qiJ];simp only[STD,m1,m2,m3,qnt k1 k2 k4]
  simp only[STD,qah oa ob,q69 oa,q69 ob,h1,ja,qx0 (qex a b),hL]
 simp only[STD,key]
theorem qhQ(q:Rat):(tQ q=[48])=(q=0):=by have:([48]:qxA)=tQ 0:=rfl;rw[this,qpe]
theorem qna{N D N' D':Nat}{a b:Rat}(hb0:b≠0)(ha:bnd N D a)(hb:bnd N' D' b)(h1:N+D'<=1024)(h2:D+N'<=1024):(q3n [.s (tQ a),.s (tQ b)]).run=some (0,[.s (tQ (a/b)),.i 0]):=by
 have oa:okQ a:=⟨by have:=ha.1;omega,by have:=ha.2;omega⟩;have ob:okQ b:=⟨by have:=hb.1;omega,by have:=hb.2;omega⟩;have k1:okL (a.num*(b.den:Int)):=q7b ha.1 hb.2 h1;have k2:okL ((a.den:Int)*b.num):=q7b ha.2 hb.1 h2;have hbn:b.num≠0:=fun h=>hb0 (Rat.num_eq_zero.1 h);have hz:(a.den:Int)*b.num≠0:=by have:=qtY a;exact Int.mul_ne_zero (by omega) hbn
 have m1:=q7W (q1F oa) (yT ob) k1;have m2:=q7W (yT oa) (q1F ob) k2;have hL:=(qdJ hz k1 k2).1;rw[qpc] at hL;rw[qlL];have key:(wd [.s (tQ a),.s (tQ b)]).run=some (0,[.s (tQ (a/b)),.i 0]):=by
  rw[q71];have h1:(q0g [.s (tI a.num),.s (tI (a.den:Int)),.s (tI b.num),.s (tI (b.den:Int)),.i 0]).run=some (0,[.s (tI (a.num*b.den)),.s (tI ((a.den:Int)*b.num)),.i 0]):=by rw[qiV];simp only[STD,m1,m2]
  simp only[STD,qah oa ob,q69 oa,q69 ob,h1,ja,qx0 hz,hL]
 simp only[STD,qah oa ob,ja,qhQ,hb0,key]
theorem q4i{m:Int}(h:okL m):(qS [.s (tI m),.i 0]).run=some (0,[.i (sgn m),.i 0]):=by rw[qdr];simp only[STD,qmC h]
theorem qvt(m:Int):sgn m=sgq (m:Rat):=by unfold sgq;simp
theorem qnd{q k:Rat}(hk:0<k):sgq (k*q)=sgq q:=by
 rcases qsd q with⟨h,e⟩|⟨h,e⟩|⟨h,e⟩
 ·rw[e,quq];have:=(Rat.mul_neg_iff_of_pos_left hk).2 h;exact this
 ·rw[e,h,Rat.mul_zero];rfl
 ·rw[e,qnO];exact qyV hk h
theorem q0c(a:Rat):(0:Rat)<(a.den:Rat):=by have:=a.den_nz;exact Rat.natCast_pos.2 (by omega)
theorem q9g(a:Rat):(a.num:Rat)=a*(a.den:Rat):=by
 have h:a=(a.num:Rat)/(a.den:Rat):=by rw[<-Rat.mkRat_eq_div,Rat.mkRat_self]
 have h2:=Rat.div_mul_cancel (a:=(a.num:Rat)) (b:=(a.den:Rat)) (by have:=q0c a;grind);rw[<-h] at h2;exact h2.symm
def rX(a b c:Rat):Int:=a.num*b.den*c.den
def rY(a b:Rat):Int:=b.num*a.den
def rR(c:Rat):Int:=c.num*c.den
theorem qwr(a b c:Rat):sgn (rX a b c)=sgq a:=by unfold rX sgq;rw[q8o (qtY c),q8o (qtY b)]
theorem qwu(a b:Rat):sgn (rY a b)=sgq b:=by unfold rY sgq;rw[q8o (qtY a)]
theorem qw2(c:Rat):sgn (rR c)=sgq c:=by unfold rR sgq;rw[q8o (qtY c)]
theorem qwo(a b c:Rat):sgn (rX a b c*rX a b c-rY a b*rY a b*rR c)=sgq (a*a-b*b*c):=by
 rw[qvt];have h1:=q0c a;have h2:=q0c b;have h3:=q0c c;have hk:(0:Rat)<((a.den:Rat)*b.den*c.den)*((a.den:Rat)*b.den*c.den):=by have:=qyV (qyV h1 h2) h3;exact qyV this this
 rw[<-qnd (q:=a*a-b*b*c) hk];congr 1;unfold rX rY rR;simp only[qyP,qyh,q9g,Rat.intCast_natCast];grind
theorem qsT(a b c:Rat):qiY a b c=if 0<=sgn (rX a b c)*(sgn (rY a b)*sgn (rR c)) then (if sgn (rX a b c)=0 then sgn (rY a b)*sgn (rR c) else sgn (rX a b c)) else sgn (rX a b c)*sgn (rX a b c*rX a b c-rY a b*rY a b*rR c):=by unfold qiY;rw[qwr,qwu,qw2,qwo]
theorem qv6{x y r:Int}(hx:okL x)(hy:okL y)(hr:okL r)(hxx:okL (x*x))(hyy:okL (y*y))(hyr:okL (y*y*r))(hd:okL (x*x-y*y*r)) :(jn [.s (tI x),.s (tI y),.s (tI r),.i 0]).run=some (0,[.i (if 0<=sgn x*(sgn y*sgn r) then (if sgn x=0 then sgn y*sgn r else sgn x) else sgn x*sgn (x*x-y*y*r)),.i 0]):=by
 rw[qdP];have bx:=qhi x;have bY:=qhi y;have br:=qhi r;have bd:=qhi (x*x-y*y*r);have m1:=q7W hx hx hxx;have m2:=qlE [y,y,r] ⟨q5Q,hy,by rw[qy4];exact hy,hy,by rw[qy4];exact hyy,hr,by rw[qy4];exact hyr⟩ (by simp);simp only[prd,qy4] at m2;have m2':(qf [.r [[.s (tI y)],[.s (tI y)],[.s (tI r)]],.i 0]).run=some (0,[.s (tI (y*y*r)),.i 0]):=m2;by_cases hc:0<=sgn x*(sgn y*sgn r)
 ·by_cases h0:sgn x=0
  ·have w0:q8T .i64 0 (sgn y*sgn r)=0:=by rw[q3i (by rw[Int.zero_mul];omega),Int.zero_mul]
   simp only[STD,q4i hx,q4i hy,q4i hr,qf8 bY br,h0,w0,Int.zero_mul,qxT,eq_self]
  ·simp only[STD,q4i hx,q4i hy,q4i hr,qf8 bY br,qf8 bx (qx6 bY br),hc,h0]
 ·simp only[STD,q4i hx,q4i hy,q4i hr,qf8 bY br,qf8 bx (qx6 bY br),hc,m1,m2',qnt hxx hyr hd,q4i hd,qf8 bx bd]
theorem qoK(m:Int):okL (0*m):=by rw[Int.zero_mul];exact q4E
theorem qv3{c:Rat}(h:0<=c):¬(tQ c).getD 0 0=45:=by
 have hn:¬c.num<0:=by have:=Rat.num_nonneg.2 h;omega
 have e:(tQ c).getD 0 0=(tI c.num).getD 0 0:=by
  by_cases hd:c.den=1
  ·rw[q6r hd]
  ·rw[q2X hd];obtain⟨x,t,ex⟩:∃x t,tI c.num=x::t:=List.exists_cons_of_ne_nil (qyM.1 (qmd _));rw[ex];simp
 rw[e,qr0];exact hn
theorem qww{c:Rat}(h:c<0):(tQ c).getD 0 0=45:=by
 have h1:¬0<=c:=by grind
 have hn:c.num<0:=by have h2:¬0<=c.num:=fun h=>h1 (Rat.num_nonneg.1 h);omega
 have e:(tQ c).getD 0 0=(tI c.num).getD 0 0:=by
  by_cases hd:c.den=1
  ·rw[q6r hd]
  ·rw[q2X hd];obtain⟨x,t,ex⟩:∃x t,tI c.num=x::t:=List.exists_cons_of_ne_nil (qyM.1 (qmd _));rw[ex];simp
 rw[e,qr0];exact hn
theorem qdd(s:qxA):(sat s 0=45)=(s.getD 0 0=45):=by unfold sat;simp only[Int.toNat_zero,eq_iff_iff];exact⟨fun h=>UInt8.toNat_inj.1 (by show (s.getD 0 0).toNat=45;omega),fun h=>by rw[h];rfl⟩
structure RootOk (a b c:Rat):Prop where
 oa:okQ a
 ob:okQ b
 oc:okQ c
 x1:okL (a.num*b.den)
 x:okL (rX a b c)
 y:okL (rY a b)
 r:okL (rR c)
 xx:okL (rX a b c*rX a b c)
 yy:okL (rY a b*rY a b)
 yr:okL (rY a b*rY a b*rR c)
 d:okL (rX a b c*rX a b c-rY a b*rY a b*rR c)
theorem qpw{a b c:Rat}(h:RootOk a b c)(hc:0<=c):(uW [.s (tQ a),.s (tQ b),.s (tQ c)]).run=some (0,[.i (qiY a b c),.i 0]):=by
 rw[qfb];have key:(yZ [.s (tQ a),.s (tQ b),.s (tQ c),.s [48],.s [48]]).run=some (0,[.i (qiY a b c),.i 0]):=by
  rw[qdB];have o0:okQ 0:=q6G.ok (by omega) (by omega);have hz:=qbt o0;rw[show tQ 0=[48] from rfl] at hz;have hch:=qlV (l:=[tQ a,tQ b,tQ c,[48],[48]]) (by simp) (fun s hs=>by
   simp only[qxP,List.not_mem_nil,or_false] at hs;rcases hs with rfl|rfl|rfl|rfl|rfl
   ·exact qbt h.oa
   ·exact qbt h.ob
   ·exact qbt h.oc
   ·exact hz
   ·exact hz)
  have hch':(qE [.r [[.s (tQ a)],[.s (tQ b)],[.s (tQ c)],[.s [48]],[.s [48]]]]).run=some (0,[.i 0]):=hch;have c0:=q69 o0;rw[show tQ 0=[48] from rfl] at c0;replace c0:(qA [.s [48]]).run=some (0,[.s [48],.s [49],.b false]):=c0;have l1:(0:Int)<zG (tQ c):=by have h1:=qh9 c;have h2:=qhR c;unfold zG;omega
  have l2:(0:Int)<zG [48]:=by decide
  have n1:¬sat (tQ c) 0=45:=by rw[qdd];exact qv3 hc
  have n2:¬sat [48] 0=45:=by decide
  have mx:=qlE [a.num,b.den,c.den,1,1] ⟨q5Q,q1F h.oa,by rw[qy4];exact q1F h.oa,yT h.ob,by rw[qy4];exact h.x1,yT h.oc,by rw[qy4];exact h.x,q5Q,by rw[qy4,Int.mul_one];exact h.x,q5Q,by rw[qy4,Int.mul_one,Int.mul_one];exact h.x⟩ (by simp);have my:=qlE [b.num,a.den,1,1] ⟨q5Q,q1F h.ob,by rw[qy4];exact q1F h.ob,yT h.oa,by rw[qy4];exact h.y,q5Q,by rw[qy4,Int.mul_one];exact h.y,q5Q,by rw[qy4,Int.mul_one,Int.mul_one];exact h.y⟩ (by simp);have mr:=q7W (q1F h.oc) (yT h.oc) h.r;have mz:=qlE [0,a.den,b.den,c.den] ⟨q5Q,q4E,by rw[qys];exact q4E,yT h.oa,by simp only[qys];exact qoK _,yT h.ob,by simp only[qys,Int.zero_mul];exact q4E,yT h.oc,by simp only[qys,Int.zero_mul];exact q4E⟩ (by simp);have mt:=q7W (m:=0) (n:=1) q4E q5Q (qoK _);simp only[prd,qy4,Int.mul_one,Int.zero_mul] at mx my mz mt;have mx':(qf [.r [[.s (tI a.num)],[.s (tI (b.den:Int))],[.s (tI (c.den:Int))],[.s [49]],[.s [49]]],.i 0]).run=some (0,[.s (tI (rX a b c)),.i 0]):=mx;have my':(qf [.r [[.s (tI b.num)],[.s (tI (a.den:Int))],[.s [49]],[.s [49]]],.i 0]).run=some (0,[.s (tI (rY a b)),.i 0]):=my;have mr':(qf [.r [[.s (tI c.num)],[.s (tI (c.den:Int))]],.i 0]).run=some (0,[.s (tI (rR c)),.i 0]):=mr;have mz':(qf [.r [[.s [48]],[.s (tI (a.den:Int))],[.s (tI (b.den:Int))],[.s (tI (c.den:Int))]],.i 0]).run=some (0,[.s (tI 0),.i 0]):=mz;have mt':(qf [.r [[.s [48]],[.s [49]]],.i 0]).run=some (0,[.s (tI 0),.i 0]):=mt;have hR:=qv6 h.x h.y h.r h.xx h.yy h.yr h.d;rw[<-qsT] at hR;have w1:q8T .i64 (sgn 0) (sgn 0)=0:=by decide
  have w2:q8T .i64 (qiY a b c) 0=0:=by rw[q3i (by rw[qys];omega),qys]
  by_cases h0:qiY a b c=0
  ·simp only[STD,hch',l1,l2,n1,n2,qxT,and_self,q69 h.oa,q69 h.ob,q69 h.oc,c0,mx',my',mr',mz',mt',hR,q4i q4E,w1,h0,show q8T .i64 0 0=0 from rfl]
  ·simp only[STD,hch',l1,l2,n1,n2,qxT,and_self,q69 h.oa,q69 h.ob,q69 h.oc,c0,mx',my',mr',mz',mt',hR,q4i q4E,w1,w2,h0]
 simp only[STD,key]
theorem RootOk.of{N D N' D' R E:Nat}{a b c:Rat}(ha:bnd N D a)(hb:bnd N' D' b)(hc:bnd R E c)(h1:2*(N+D'+E)<=1023)(h2:2*(N'+D)+R+E<=1023):RootOk a b c:=by have q1:nl a.num<=N:=ha.1;have q2:nl (a.den:Int)<=D:=ha.2;have q3:nl b.num<=N':=hb.1;have q4:nl (b.den:Int)<=D':=hb.2;have q5:nl c.num<=R:=hc.1;have q6:nl (c.den:Int)<=E:=hc.2;have x1:=q1N a.num b.den;have x2:=q1N (a.num*b.den) c.den;have y1:=q1N b.num a.den;have r1:=q1N c.num c.den;have xx:=q1N (rX a b c) (rX a b c);have yy:=q1N (rY a b) (rY a b);have yr:=q1N (rY a b*rY a b) (rR c);have dd:=qsj (rX a b c*rX a b c) (rY a b*rY a b*rR c);have e1:nl (rX a b c)=nl (a.num*b.den*c.den):=rfl;have e2:nl (rY a b)=nl (b.num*a.den):=rfl;have e3:nl (rR c)=nl (c.num*c.den):=rfl;have p1:=qh6 a.num;have p2:=qh6 b.num;have p3:=qh6 c.num;have p4:=qh6 (a.den:Int);have p5:=qh6 (b.den:Int);have p6:=qh6 (c.den:Int);exact { oa:=⟨by show nl a.num<=1024;omega,by show nl (a.den:Int)<=1024;omega⟩,ob:=⟨by show nl b.num<=1024;omega,by show nl (b.den:Int)<=1024;omega⟩,oc:=⟨by show nl c.num<=1024;omega,by show nl (c.den:Int)<=1024;omega⟩,x1:=by unfold okL;omega,x:=by unfold okL;omega,y:=by unfold okL;omega,r:=by unfold okL;omega,xx:=by unfold okL;omega,yy:=by unfold okL;omega,yr:=by unfold okL;omega,d:=by unfold okL;omega }
theorem qr2{a b:Rat}{N D N' D':Nat}(ha:bnd N D a)(hb:bnd N' D' b)(h1:N+D'<=1023)(h2:N'+D<=1023)(h3:D+D'<=1024):(z8 [.s (tQ a),.s (tQ b),.i 0]).run=some (0,[.s (tQ (a+b)),.i 0]):=by
 rw[qf2];have:(zN [.s (tQ a),.s (tQ b),.i 0]).run=some (0,[.s (tQ (a+b)),.i 0]):=by rw[q6l];simp only[STD,qng ha hb h1 h2 h3]
 simp only[STD,this]
theorem qnz{a b:Rat}{N D N' D':Nat}(ha:bnd N D a)(hb:bnd N' D' b)(h1:N+D'<=1023)(h2:N'+D<=1023)(h3:D+D'<=1024):(qM [.s (tQ a),.s (tQ b),.i 0]).run=some (0,[.s (tQ (a-b)),.i 0]):=by
 rw[qeL];have:(zP [.s (tQ a),.s (tQ b),.i 0]).run=some (0,[.s (tQ (a-b)),.i 0]):=by rw[q6n];simp only[STD,qn7 ha hb h1 h2 h3]
 simp only[STD,this]
theorem qmb{a b:Rat}{N D N' D':Nat}(ha:bnd N D a)(hb:bnd N' D' b)(h1:N+N'<=1024)(h2:D+D'<=1024):(qG [.s (tQ a),.s (tQ b),.i 0]).run=some (0,[.s (tQ (a*b)),.i 0]):=by
 rw[qeD];have:(zL [.s (tQ a),.s (tQ b),.i 0]).run=some (0,[.s (tQ (a*b)),.i 0]):=by rw[q6m];simp only[STD,qio ha hb h1 h2]
 simp only[STD,this]
theorem qwm{a b:Rat}{N D N' D':Nat}(h0:b≠0)(ha:bnd N D a)(hb:bnd N' D' b)(h1:N+D'<=1024)(h2:D+N'<=1024):(zg [.s (tQ a),.s (tQ b),.i 0]).run=some (0,[.s (tQ (a/b)),.i 0]):=by rw[q6h];simp only[STD,qna h0 ha hb h1 h2]
theorem quB{ax ay bx by_:Rat}{N D N' D':Nat}(h1:bnd N D ax)(h2:bnd N D ay)(h3:bnd N' D' bx)(h4:bnd N' D' by_)(c1:N+D'<=1023)(c2:N'+D<=1023)(c3:D+D'<=1024) :(vd [.s (tQ ax),.s (tQ ay),.s (tQ bx),.s (tQ by_),.i 0]).run=some (0,[.s (tQ (ax-bx)),.s (tQ (ay-by_)),.i 0]):=by rw[qei];simp only[STD,qnz h1 h3 c1 c2 c3,qnz h2 h4 c1 c2 c3]
theorem qtQ{ax ay bx by_:Rat}{N D N' D':Nat}(h1:bnd N D ax)(h2:bnd N D ay)(h3:bnd N' D' bx)(h4:bnd N' D' by_)(c1:N+N'+(D+D')<=1023)(c2:D+D'+(D+D')<=1024) :(zR [.s (tQ ax),.s (tQ ay),.s (tQ bx),.s (tQ by_),.i 0]).run=some (0,[.s (tQ (ax*bx+ay*by_)),.i 0]):=by rw[qes];simp only[STD,qmb h1 h3 (by omega) (by omega),qmb h2 h4 (by omega) (by omega),qr2 (h1.mul h3) (h2.mul h4) (by omega) (by omega) (by omega)]
theorem qkP{ax ay bx by_:Rat}{N D N' D':Nat}(h1:bnd N D ax)(h2:bnd N D ay)(h3:bnd N' D' bx)(h4:bnd N' D' by_):bnd (N+N'+(D+D')+1) (D+D'+(D+D')) (ax*bx+ay*by_):=(h1.mul h3).add (h2.mul h4) (by omega) (by omega)
def qd6(ax ay bx by_:Rat):Rat:=(ax-bx)*(ax-bx)+(ay-by_)*(ay-by_)
theorem q6y{a b:Rat}(ha:bnd 12 10 a)(hb:bnd 12 10 b):bnd 23 20 (a-b):=ha.sub hb (by omega) (by omega)
theorem qk3{ax ay bx by_:Rat}(h1:bnd 12 10 ax)(h2:bnd 12 10 ay)(h3:bnd 12 10 bx)(h4:bnd 12 10 by_):bnd 87 80 (qd6 ax ay bx by_):=qkP (q6y h1 h3) (q6y h2 h4) (q6y h1 h3) (q6y h2 h4)
structure DQ where
 x:Rat
 y:Rat
 s:Rat
def DQ.sh(d:DQ):Prop:=bnd 12 10 d.x/\bnd 12 10 d.y/\bnd 13 10 d.s
def qxg(a b:DQ)(k:Rat):Int:=qiY (qd6 a.x a.y b.x b.y-(a.s+b.s)) k (a.s*b.s)
theorem qw3{a b c:Rat}(h:RootOk a b c)(hc:0<=c):(yK [.s (tQ a),.s (tQ b),.s (tQ c),.i 0]).run=some (0,[.i (qiY a b c),.i 0]):=by rw[qe6];simp only[STD,qpw h hc]
theorem qu8:tQ 2=[50]:=qtX 2
def qqB(a b:DQ):Prop:=a.s<=b.s/\qxg a b 2<=0
instance (a b:DQ):Decidable (qqB a b):=by unfold qqB;infer_instance
def shT(s:qxA):Prop:=s.length<=12
noncomputable def quW(x y s:qxA):Int:=if qiD x≠0 then qiD x else if qiD y≠0 then qiD y else if qiD s≠0 then qiD s else if s.getD 0 0=45 then 2 else 0
theorem qxd{S:List PV->TR}{st:Nat->List PV}{e0 e1 e2:Int}{fin:List PV}(h0:(S (st 0)).run=if e0=0 then some (0,st 1) else some (2,[.i e0])) (h1:(S (st 1)).run=if e1=0 then some (0,st 2) else some (2,[.i e1])) (h2:(S (st 2)).run=if e2=0 then some (0,st 3) else some (2,[.i e2]))(h3:(S (st 3)).run=some (1,fin)):(qm S (st 0)).run=some (if e0≠0 then (1,[.i e0]) else if e1≠0 then (1,[.i e1]) else if e2≠0 then (1,[.i e2]) else (0,fin)):=by
 have hr:∃m,q9T=m+4:=⟨q9T-4,by unfold q9T;omega⟩;obtain⟨m,hm⟩:=hr;unfold qm;rw[hm];by_cases c0:e0=0
 ·rw[if_pos c0] at h0;rw[qbv h0];by_cases c1:e1=0
  ·rw[if_pos c1] at h1;rw[qbv h1];by_cases c2:e2=0
   ·rw[if_pos c2] at h2;rw[qbv h2,q46 h3];simp[c0,c1,c2]
   ·rw[if_neg c2] at h2;rw[q46 h2];simp[c0,c1,c2]
  ·rw[if_neg c1] at h1;rw[q46 h1];simp[c0,c1]
 ·rw[if_neg c0] at h0;rw[q46 h0];simp[c0]
theorem ql4(x y s:qxA)(h1:x.length<=1000000)(h2:y.length<=1000000)(h3:s.length<=1000000):(q09 [.s x,.s y,.s s]).run=some (0,[.i (quW x y s)]):=by
  rw[qiv];have c0:=q4O x (by omega);have c1:=q4O y (by omega);have c2:=q4O s (by omega);have d0:cS [[.s x],[.s y],[.s s]] 0 0=x:=rfl;have d1:cS [[.s x],[.s y],[.s s]] 1 0=y:=rfl;have d2:cS [[.s x],[.s y],[.s s]] 2 0=s:=rfl;have d3:qh [[U.s x],[U.s y],[U.s s]]=3:=rfl;have w0:wT .i64 0 1=1:=by decide
  have w1:wT .i64 1 1=2:=by decide
  have w2:wT .i64 2 1=3:=by decide
  have key:=qxd (S:=q03) (st:=fun i=>[.i 3,.i (i:Int),.s x,.s y,.s s,.r [[.s x],[.s y],[.s s]]]) (e0:=qiD x) (e1:=qiD y) (e2:=qiD s) (fin:=[.s x,.s y,.s s])
    (by rw [q1t]; simp only [show (((0 : Nat)) : Int) = 0 from rfl, show (((1 : Nat)) : Int) = 1 from rfl, d0, d3]
        by_cases c:qiD x=0
        · simp only[STD,c0,c,w0,show (0:Int)<3 by omega,qxT,and_self]
        · simp only[STD,c0,c,show (0:Int)<3 by omega,qxT,and_self])
    (by rw [q1t]; simp only [show (((1 : Nat)) : Int) = 1 from rfl, show (((2 : Nat)) : Int) = 2 from rfl, d1, d3]
        by_cases c:qiD y=0
        · simp only[STD,c1,c,w1,show (1:Int)<3 by omega,show (0:Int)<=1 by omega,and_self]
        · simp only[STD,c1,c,show (1:Int)<3 by omega,show (0:Int)<=1 by omega,and_self])
    (by rw [q1t]; simp only [show (((2 : Nat)) : Int) = 2 from rfl, show (((3 : Nat)) : Int) = 3 from rfl, d2, d3]
        by_cases c:qiD s=0
        · simp only[STD,c2,c,w2,show (2:Int)<3 by omega,show (0:Int)<=2 by omega,and_self]
        · simp only[STD,c2,c,show (2:Int)<3 by omega,show (0:Int)<=2 by omega,and_self])
    (by rw[q1t];simp only[show (((3:Nat)):Int)=3 from rfl];simp only[STD,show ¬(3:Int)<3 by omega])
  simp only[show (((0:Nat)):Int)=0 from rfl] at key;unfold quW;rw[d3];by_cases e0:qiD x=0
  · by_cases e1:qiD y=0
    · by_cases e2:qiD s=0
      · simp only[e0,e1,e2,ne_eq,not_true,if_false] at key ⊢
        obtain⟨q,hq,_⟩:=qvn e2;have hl:(0:Int)<zG s:=by have h1:=qh9 q;have h2:=qhR q;rw[hq];unfold zG;omega
        by_cases hm:s.getD 0 0=45
        · simp only[STD,key,wY key,qxT,hl,and_self,qdd,hm]
        · simp only[STD,key,wY key,qxT,hl,and_self,qdd,hm]
      · simp only[e0,e1,e2,ne_eq,not_true,not_false_eq_true,if_false,if_true] at key ⊢
        simp only[STD,key,wY key,show ¬(1=0) by omega]
    · simp only[e0,e1,ne_eq,not_true,not_false_eq_true,if_false,if_true] at key ⊢
      simp only[STD,key,wY key,show ¬(1=0) by omega]
  · simp only[e0,ne_eq,not_false_eq_true,if_true] at key ⊢
    simp only[STD,key,wY key,show ¬(1=0) by omega]
theorem quX{d:DQ}(h1:okQ d.x)(h2:okQ d.y)(h3:okQ d.s)(h:0<=d.s):quW (tQ d.x) (tQ d.y) (tQ d.s)=0:=by unfold quW;rw[qkC h1,qkC h2,qkC h3];have:=qv3 h;rw[if_neg (by simp),if_neg (by simp),if_neg (by simp),if_neg this]
def Bd(C e:Nat)(x:Int):Prop:=x.natAbs<=C*10^e
theorem Bd.mul{C e C' e':Nat}{x y:Int}(h:Bd C e x)(h':Bd C' e' y):Bd (C*C') (e+e') (x*y):=by
 unfold Bd at *;rw[qyH,Nat.pow_add];have:=Nat.mul_le_mul h h';have e1:C*10^e*(C'*10^e')=C*C'*(10^e*10^e'):=by rw[Nat.mul_mul_mul_comm]
 omega
theorem Bd.mono{C e C' e':Nat}{x:Int}(h:Bd C e x)(hC:C<=C')(he:e<=e'):Bd C' e' x:=by unfold Bd at *;exact qxJ h (Nat.mul_le_mul hC (qzc (by omega) he))
theorem Bd.add{C C' e:Nat}{x y:Int}(h:Bd C e x)(h':Bd C' e y):Bd (C+C') e (x+y):=by unfold Bd at *;rw[qy2];have:=Int.natAbs_add_le x y;omega
theorem Bd.neg{C e:Nat}{x:Int}(h:Bd C e x):Bd C e (-x):=by unfold Bd at *;rw[Int.natAbs_neg];exact h
theorem Bd.sub{C C' e:Nat}{x y:Int}(h:Bd C e x)(h':Bd C' e y):Bd (C+C') e (x-y):=by rw[Int.sub_eq_add_neg];exact h.add h'.neg
theorem Bd.okL{C e k:Nat}{x:Int}(h:Bd C e x)(hC:C<=10^k)(he:k+e<=1023)(hne:0<e+k):okL x:=by unfold Go.Eng.okL nl;unfold Bd at h;have h1:C*10^e<=10^k*10^e:=qy8 _ hC;rw[<-Nat.pow_add] at h1;have h2:(10:Nat)^(k+e)<10^(k+e+1):=Nat.pow_lt_pow_right (by omega) (by omega);have:=q8c (k+e) x.natAbs (by omega);omega
structure WtD (h v:Nat) (q:Rat):Prop where
 n:Bd 1 h q.num
 d:Bd 1 v (q.den:Int)
 dh:Bd 1 h (q.den:Int)
theorem qgk{q:Rat}{P M:Int}(hM:M≠0)(h:q*(M:Rat)=(P:Rat)):q.num.natAbs<=P.natAbs/\q.den<=M.natAbs:=by
 have hM':(M:Rat)≠0:=by intro e;exact hM (Rat.intCast_inj.1 (e.trans (by simp)))
 have e:q=Rat.divInt P M:=by rw[Rat.divInt_eq_div,<-h];exact(Rat.mul_div_cancel hM').symm
 rw[e];constructor
 ·rw[Rat.num_divInt];refine qxJ (Int.natAbs_ediv_le_natAbs _ _) ?_;rw[qyH,Int.natAbs_sign_of_ne_zero hM];omega
 ·rw[Rat.den_divInt,if_neg hM];exact Nat.div_le_self _ _
structure SQ where
 fx:Rat
 fy:Rat
 ax:Rat
 ay:Rat
 h:Rat
def q15(a b:DQ)(neg:Bool):SQ:=
 let dx:=b.x-a.x
 let dy:=b.y-a.y
 let far:=dx*dx+dy*dy
 let t:=(far+a.s-b.s)/(2*far)
 ⟨a.x+t*dx,a.y+t*dy,if neg then dy else 0-dy,if neg then 0-dx else dx,a.s/far-t*t⟩
def kA(d:DQ)(p:SQ):Rat:=(p.fx-d.x)*(p.fx-d.x)+(p.fy-d.y)*(p.fy-d.y)+p.h*(p.ax*p.ax+p.ay*p.ay)-d.s
def kB(d:DQ)(p:SQ):Rat:=2*((p.fx-d.x)*p.ax+(p.fy-d.y)*p.ay)
def qaW(d:DQ)(p:SQ):Prop:=qiY (kA d p) (kB d p) p.h<=0
instance (d:DQ) (p:SQ):Decidable (qaW d p):=by unfold qaW;infer_instance
section
variable (a1 p1 b1 q1 c1 r1 a2 p2 b2 q2 c2 r2 a3 p3 b3 q3 c3 r3:Int)
def iU:Int:=a2*p1-a1*p2
def iN:Int:=iU a1 p1 a2 p2*iU a1 p1 a2 p2*((q1*q2)*(q1*q2))+iU b1 q1 b2 q2*iU b1 q1 b2 q2*((p1*p2)*(p1*p2))
def iD:Int:=(p1*p2*(q1*q2))*(p1*p2*(q1*q2))
def iT:Int:=iN a1 p1 b1 q1 a2 p2 b2 q2*(r1*r2)+(c1*r2-c2*r1)*iD p1 q1 p2 q2
def iE:Int:=a1*p3-a3*p1
def iG:Int:=iE a1 p1 a3 p3*iE a1 p1 a3 p3*((q1*q3)*(q1*q3))+iE b1 q1 b3 q3*iE b1 q1 b3 q3*((p1*p3)*(p1*p3))
def iH:Int:=iE a1 p1 a3 p3*iU a1 p1 a2 p2*((q1*q1)*(q2*q3))+iE b1 q1 b3 q3*iU b1 q1 b2 q2*((p1*p1)*(p2*p3))
def iSq:Int:=((p1*q1)*(p3*q3))*((p1*q1)*(p3*q3))
def iA:Int:=iG a1 p1 b1 q1 a3 p3 b3 q3*iN a1 p1 b1 q1 a2 p2 b2 q2*(r1*r2*r3)*(p2*q2)+iT a1 p1 b1 q1 c1 r1 a2 p2 b2 q2 c2 r2*iH a1 p1 b1 q1 a2 p2 b2 q2 a3 p3 b3 q3*r3*(p3*q3)
 + c1*iN a1 p1 b1 q1 a2 p2 b2 q2*(r2*r3)*iSq p1 q1 p3 q3*(p2*q2)-c3*iN a1 p1 b1 q1 a2 p2 b2 q2*(r1*r2)*iSq p1 q1 p3 q3*(p2*q2)
def iM:Int:=iN a1 p1 b1 q1 a2 p2 b2 q2*(r1*r2*r3)*iSq p1 q1 p3 q3*(p2*q2)
def iK:Int:=2*(iE b1 q1 b3 q3*iU a1 p1 a2 p2*(p3*q2)-iE a1 p1 a3 p3*iU b1 q1 b2 q2*(q3*p2))
def iQ:Int:=(p1*p2*p3)*(q1*q2*q3)
def iCn:Int:=4*(c1*iD p1 q1 p2 q2*iN a1 p1 b1 q1 a2 p2 b2 q2*r1*(r2*r2))-iT a1 p1 b1 q1 c1 r1 a2 p2 b2 q2 c2 r2*iT a1 p1 b1 q1 c1 r1 a2 p2 b2 q2 c2 r2
def iCd:Int:=4*(iN a1 p1 b1 q1 a2 p2 b2 q2*iN a1 p1 b1 q1 a2 p2 b2 q2)*((r1*r2)*(r1*r2))
end
section
variable {a1 p1 b1 q1 c1 r1 a2 p2 b2 q2 c2 r2 a3 p3 b3 q3 c3 r3:Int} {hx1 hy1 hs1 hx2 hy2 hs2 hx3 hy3 hs3 vx1 vy1 vs1 vx2 vy2 vs2 vx3 vy3 vs3:Nat}
theorem bU(h1:Bd 1 hx1 a1)(h2:Bd 1 hx1 p1)(h3:Bd 1 hx2 a2)(h4:Bd 1 hx2 p2):Bd 2 (hx1+hx2) (iU a1 p1 a2 p2):=((h3.mul h2).mono (qxC _) (by omega)).sub (h1.mul h4)
theorem bE(h1:Bd 1 hx1 a1)(h2:Bd 1 hx1 p1)(h3:Bd 1 hx3 a3)(h4:Bd 1 hx3 p3):Bd 2 (hx1+hx3) (iE a1 p1 a3 p3):=(h1.mul h4).sub ((h3.mul h2).mono (qxC _) (by omega))
theorem bN(x1:Bd 1 hx1 a1)(x1':Bd 1 hx1 p1)(y1:Bd 1 hy1 b1)(y1':Bd 1 hy1 q1)(x2:Bd 1 hx2 a2)(x2':Bd 1 hx2 p2)(y2:Bd 1 hy2 b2)(y2':Bd 1 hy2 q2) :Bd 8 (2*(hx1+hx2+hy1+hy2)) (iN a1 p1 b1 q1 a2 p2 b2 q2):=by have u:=bU x1 x1' x2 x2';have v:=bU y1 y1' y2 y2';have qq:=y1'.mul y2';have pp:=x1'.mul x2';exact(((u.mul u).mul (qq.mul qq)).mono (C':=4) (by omega) (by omega)).add (((v.mul v).mul (pp.mul pp)).mono (C':=4) (by omega) (by omega))
theorem bD(x1':Bd 1 hx1 p1)(y1':Bd 1 hy1 q1)(x2':Bd 1 hx2 p2)(y2':Bd 1 hy2 q2):Bd 1 (2*(hx1+hx2+hy1+hy2)) (iD p1 q1 p2 q2):=by have z:=(x1'.mul x2').mul (y1'.mul y2');exact(z.mul z).mono (by omega) (by omega)
theorem bT(x1:Bd 1 hx1 a1)(x1':Bd 1 hx1 p1)(y1:Bd 1 hy1 b1)(y1':Bd 1 hy1 q1)(x2:Bd 1 hx2 a2)(x2':Bd 1 hx2 p2)(y2:Bd 1 hy2 b2)(y2':Bd 1 hy2 q2)(s1:Bd 1 hs1 c1) (s1':Bd 1 hs1 r1) (s2:Bd 1 hs2 c2) (s2':Bd 1 hs2 r2):Bd 10 (2*(hx1+hx2+hy1+hy2)+hs1+hs2) (iT a1 p1 b1 q1 c1 r1 a2 p2 b2 q2 c2 r2):=by have n:=bN x1 x1' y1 y1' x2 x2' y2 y2';have d:=bD x1' y1' x2' y2';have s:=(s1.mul s2').sub ((s2.mul s1').mono (qxC _) (by omega));exact((n.mul (s1'.mul s2')).mono (C':=8) (by omega) (by omega)).add ((s.mul d).mono (C':=2) (by omega) (by omega))
theorem bG(x1:Bd 1 hx1 a1)(x1':Bd 1 hx1 p1)(y1:Bd 1 hy1 b1)(y1':Bd 1 hy1 q1)(x3:Bd 1 hx3 a3)(x3':Bd 1 hx3 p3)(y3:Bd 1 hy3 b3)(y3':Bd 1 hy3 q3) :Bd 8 (2*(hx1+hx3+hy1+hy3)) (iG a1 p1 b1 q1 a3 p3 b3 q3):=by have u:=bE x1 x1' x3 x3';have v:=bE y1 y1' y3 y3';have qq:=y1'.mul y3';have pp:=x1'.mul x3';exact(((u.mul u).mul (qq.mul qq)).mono (C':=4) (by omega) (by omega)).add (((v.mul v).mul (pp.mul pp)).mono (C':=4) (by omega) (by omega))
theorem bH(x1:Bd 1 hx1 a1)(x1':Bd 1 hx1 p1)(y1:Bd 1 hy1 b1)(y1':Bd 1 hy1 q1)(x2:Bd 1 hx2 a2)(x2':Bd 1 hx2 p2)(y2:Bd 1 hy2 b2)(y2':Bd 1 hy2 q2)(x3:Bd 1 hx3 a3) (x3':Bd 1 hx3 p3) (y3:Bd 1 hy3 b3) (y3':Bd 1 hy3 q3):Bd 8 (2*hx1+hx2+hx3+2*hy1+hy2+hy3) (iH a1 p1 b1 q1 a2 p2 b2 q2 a3 p3 b3 q3):=by have u:=bU x1 x1' x2 x2';have v:=bU y1 y1' y2 y2';have e:=bE x1 x1' x3 x3';have f:=bE y1 y1' y3 y3';exact(((e.mul u).mul ((y1'.mul y1').mul (y2'.mul y3'))).mono (C':=4) (by omega) (by omega)).add (((f.mul v).mul ((x1'.mul x1').mul (x2'.mul x3'))).mono (C':=4) (by omega) (by omega))
theorem bSq(x1':Bd 1 hx1 p1)(y1':Bd 1 hy1 q1)(x3':Bd 1 hx3 p3)(y3':Bd 1 hy3 q3):Bd 1 (2*(hx1+hx3+hy1+hy3)) (iSq p1 q1 p3 q3):=by have z:=(x1'.mul y1').mul (x3'.mul y3');exact(z.mul z).mono (by omega) (by omega)
theorem bA(x1:Bd 1 hx1 a1)(x1':Bd 1 hx1 p1)(y1:Bd 1 hy1 b1)(y1':Bd 1 hy1 q1)(x2:Bd 1 hx2 a2)(x2':Bd 1 hx2 p2)(y2:Bd 1 hy2 b2)(y2':Bd 1 hy2 q2)(x3:Bd 1 hx3 a3) (x3':Bd 1 hx3 p3) (y3:Bd 1 hy3 b3) (y3':Bd 1 hy3 q3) (s1:Bd 1 hs1 c1) (s1':Bd 1 hs1 r1) (s2:Bd 1 hs2 c2) (s2':Bd 1 hs2 r2) (s3:Bd 1 hs3 c3) (s3':Bd 1 hs3 r3) :Bd 160 (4*hx1+3*hx2+2*hx3+4*hy1+3*hy2+2*hy3+hs1+hs2+hs3) (iA a1 p1 b1 q1 c1 r1 a2 p2 b2 q2 c2 r2 a3 p3 b3 q3 c3 r3):=by have g:=bG x1 x1' y1 y1' x3 x3' y3 y3';have n:=bN x1 x1' y1 y1' x2 x2' y2 y2';have t:=bT x1 x1' y1 y1' x2 x2' y2 y2' s1 s1' s2 s2';have h:=bH x1 x1' y1 y1' x2 x2' y2 y2' x3 x3' y3 y3';have sq:=bSq x1' y1' x3' y3';have k1:=(((g.mul n).mul ((s1'.mul s2').mul s3')).mul (x2'.mul y2')).mono (C':=64) (e':=4*hx1+3*hx2+2*hx3+4*hy1+3*hy2+2*hy3+hs1+hs2+hs3) (by omega) (by omega);have k2:=(((t.mul h).mul s3').mul (x3'.mul y3')).mono (C':=80) (e':=4*hx1+3*hx2+2*hx3+4*hy1+3*hy2+2*hy3+hs1+hs2+hs3) (by omega) (by omega);have k3:=((((s1.mul n).mul (s2'.mul s3')).mul sq).mul (x2'.mul y2')).mono (C':=8) (e':=4*hx1+3*hx2+2*hx3+4*hy1+3*hy2+2*hy3+hs1+hs2+hs3) (by omega) (by omega);have k4:=((((s3.mul n).mul (s1'.mul s2')).mul sq).mul (x2'.mul y2')).mono (C':=8) (e':=4*hx1+3*hx2+2*hx3+4*hy1+3*hy2+2*hy3+hs1+hs2+hs3) (by omega) (by omega);exact((k1.add k2).add k3).sub k4
theorem bM(x1:Bd 1 hx1 a1)(x1':Bd 1 hx1 p1)(y1:Bd 1 hy1 b1)(y1':Bd 1 hy1 q1)(x2:Bd 1 hx2 a2)(x2':Bd 1 hx2 p2)(y2:Bd 1 hy2 b2)(y2':Bd 1 hy2 q2)(wx1:Bd 1 vx1 p1) (wy1:Bd 1 vy1 q1) (wx2:Bd 1 vx2 p2) (wy2:Bd 1 vy2 q2) (wx3:Bd 1 vx3 p3) (wy3:Bd 1 vy3 q3) (ws1:Bd 1 vs1 r1) (ws2:Bd 1 vs2 r2) (ws3:Bd 1 vs3 r3) :Bd 8 (2*(hx1+hx2+hy1+hy2)+(vs1+vs2+vs3)+2*(vx1+vx3+vy1+vy3)+(vx2+vy2)) (iM a1 p1 b1 q1 r1 a2 p2 b2 q2 r2 p3 q3 r3):=by have n:=bN x1 x1' y1 y1' x2 x2' y2 y2';have sq:=bSq wx1 wy1 wx3 wy3;exact(((n.mul ((ws1.mul ws2).mul ws3)).mul sq).mul (wx2.mul wy2)).mono (by omega) (by omega)
theorem bK(x1:Bd 1 hx1 a1)(x1':Bd 1 hx1 p1)(y1:Bd 1 hy1 b1)(y1':Bd 1 hy1 q1)(x2:Bd 1 hx2 a2)(x2':Bd 1 hx2 p2)(y2:Bd 1 hy2 b2)(y2':Bd 1 hy2 q2)(x3:Bd 1 hx3 a3) (x3':Bd 1 hx3 p3) (y3:Bd 1 hy3 b3) (y3':Bd 1 hy3 q3):Bd 16 (hx1+hx2+hx3+hy1+hy2+hy3) (iK a1 p1 b1 q1 a2 p2 b2 q2 a3 p3 b3 q3):=by
 have u:=bU x1 x1' x2 x2';have v:=bU y1 y1' y2 y2';have e:=bE x1 x1' x3 x3';have f:=bE y1 y1' y3 y3';have two:Bd 2 0 2:=by unfold Bd;decide
 have k1:=((f.mul u).mul (x3'.mul y2')).mono (C':=4) (e':=hx1+hx2+hx3+hy1+hy2+hy3) (by omega) (by omega);have k2:=((e.mul v).mul (y3'.mul x2')).mono (C':=4) (e':=hx1+hx2+hx3+hy1+hy2+hy3) (by omega) (by omega);exact(two.mul (k1.sub k2)).mono (by omega) (by omega)
theorem bQ(wx1:Bd 1 vx1 p1)(wy1:Bd 1 vy1 q1)(wx2:Bd 1 vx2 p2)(wy2:Bd 1 vy2 q2)(wx3:Bd 1 vx3 p3)(wy3:Bd 1 vy3 q3):Bd 1 (vx1+vx2+vx3+(vy1+vy2+vy3)) (iQ p1 q1 p2 q2 p3 q3):=(((wx1.mul wx2).mul wx3).mul ((wy1.mul wy2).mul wy3)).mono (by omega) (by omega)
theorem bCn(x1:Bd 1 hx1 a1)(x1':Bd 1 hx1 p1)(y1:Bd 1 hy1 b1)(y1':Bd 1 hy1 q1)(x2:Bd 1 hx2 a2)(x2':Bd 1 hx2 p2)(y2:Bd 1 hy2 b2)(y2':Bd 1 hy2 q2)(s1:Bd 1 hs1 c1) (s1':Bd 1 hs1 r1) (s2:Bd 1 hs2 c2) (s2':Bd 1 hs2 r2):Bd 132 (4*(hx1+hx2+hy1+hy2)+2*hs1+2*hs2) (iCn a1 p1 b1 q1 c1 r1 a2 p2 b2 q2 c2 r2):=by
 have n:=bN x1 x1' y1 y1' x2 x2' y2 y2';have d:=bD x1' y1' x2' y2';have t:=bT x1 x1' y1 y1' x2 x2' y2 y2' s1 s1' s2 s2';have four:Bd 4 0 4:=by unfold Bd;decide
 have k1:=(four.mul ((((s1.mul d).mul n).mul s1').mul (s2'.mul s2'))).mono (C':=32) (e':=4*(hx1+hx2+hy1+hy2)+2*hs1+2*hs2) (by omega) (by omega);have k2:=(t.mul t).mono (C':=100) (e':=4*(hx1+hx2+hy1+hy2)+2*hs1+2*hs2) (by omega) (by omega);exact k1.sub k2
theorem bCd(x1:Bd 1 hx1 a1)(x1':Bd 1 hx1 p1)(y1:Bd 1 hy1 b1)(y1':Bd 1 hy1 q1)(x2:Bd 1 hx2 a2)(x2':Bd 1 hx2 p2)(y2:Bd 1 hy2 b2)(y2':Bd 1 hy2 q2)(ws1:Bd 1 vs1 r1) (ws2:Bd 1 vs2 r2):Bd 256 (4*(hx1+hx2+hy1+hy2)+2*vs1+2*vs2) (iCd a1 p1 b1 q1 r1 a2 p2 b2 q2 r2):=by
 have n:=bN x1 x1' y1 y1' x2 x2' y2 y2';have four:Bd 4 0 4:=by unfold Bd;decide
 exact((four.mul (n.mul n)).mul ((ws1.mul ws2).mul (ws1.mul ws2))).mono (by omega) (by omega)
end
section
variable (a b d:DQ)
theorem qoW(q:Rat):(q.den:Rat)≠0:=by have:=q0c q;grind
theorem qo9(neg:Bool)(hf:(b.x-a.x)*(b.x-a.x)+(b.y-a.y)*(b.y-a.y)≠0) :kA d (q15 a b neg)*((iM a.x.num a.x.den a.y.num a.y.den a.s.den b.x.num b.x.den b.y.num b.y.den b.s.den d.x.den d.y.den d.s.den:Int):Rat)=((iA a.x.num a.x.den a.y.num a.y.den a.s.num a.s.den b.x.num b.x.den b.y.num b.y.den b.s.num b.s.den d.x.num d.x.den d.y.num d.y.den d.s.num d.s.den:Int):Rat) /\kB d (q15 a b neg)*((iQ a.x.den a.y.den b.x.den b.y.den d.x.den d.y.den:Int):Rat)=(((if neg then -1 else 1)*iK a.x.num a.x.den a.y.num a.y.den b.x.num b.x.den b.y.num b.y.den d.x.num d.x.den d.y.num d.y.den:Int):Rat) /\(q15 a b neg).h*((iCd a.x.num a.x.den a.y.num a.y.den a.s.den b.x.num b.x.den b.y.num b.y.den b.s.den:Int):Rat)=((iCn a.x.num a.x.den a.y.num a.y.den a.s.num a.s.den b.x.num b.x.den b.y.num b.y.den b.s.num b.s.den:Int):Rat) /\iN a.x.num a.x.den a.y.num a.y.den b.x.num b.x.den b.y.num b.y.den≠0:=by
 obtain⟨far,hfar⟩:∃far,far=(b.x-a.x)*(b.x-a.x)+(b.y-a.y)*(b.y-a.y):=⟨_,rfl⟩;obtain⟨t,ht⟩:∃t,t=(far+a.s-b.s)/(2*far):=⟨_,rfl⟩;obtain⟨h,hh⟩:∃h,h=a.s/far-t*t:=⟨_,rfl⟩;rw[<-hfar] at hf;have h2f:2*far≠0:=by grind
 have ht':2*far*t=far+a.s-b.s:=by rw[ht,Rat.mul_comm];exact Rat.div_mul_cancel h2f
 have hh':far*h=a.s-far*(t*t):=by have:a.s/far*far=a.s:=Rat.div_mul_cancel hf;rw[hh];grind
 have hc:q15 a b neg=⟨a.x+t*(b.x-a.x),a.y+t*(b.y-a.y),if neg then b.y-a.y else 0-(b.y-a.y),if neg then 0-(b.x-a.x) else b.x-a.x,h⟩:=by rw[hh,ht,hfar];rfl
 rw[hc];have nx1:=q9g a.x;have ny1:=q9g a.y;have ns1:=q9g a.s;have nx2:=q9g b.x;have ny2:=q9g b.y;have ns2:=q9g b.s;have nx3:=q9g d.x;have ny3:=q9g d.y;have ns3:=q9g d.s;have px1:=qoW a.x;have py1:=qoW a.y;have px2:=qoW b.x;have py2:=qoW b.y;obtain⟨x1,y1,s1⟩:=a;obtain⟨x2,y2,s2⟩:=b;obtain⟨x3,y3,s3⟩:=d;simp only at *;have hU:((iU x1.num x1.den x2.num x2.den:Int):Rat)=(x2-x1)*((x1.den:Rat)*x2.den):=by unfold iU;simp only[qyP,qyh,Rat.intCast_natCast,nx1,nx2];grind
 have hV:((iU y1.num y1.den y2.num y2.den:Int):Rat)=(y2-y1)*((y1.den:Rat)*y2.den):=by unfold iU;simp only[qyP,qyh,Rat.intCast_natCast,ny1,ny2];grind
 have hE:((iE x1.num x1.den x3.num x3.den:Int):Rat)=(x1-x3)*((x1.den:Rat)*x3.den):=by unfold iE;simp only[qyP,qyh,Rat.intCast_natCast,nx1,nx3];grind
 have hF:((iE y1.num y1.den y3.num y3.den:Int):Rat)=(y1-y3)*((y1.den:Rat)*y3.den):=by unfold iE;simp only[qyP,qyh,Rat.intCast_natCast,ny1,ny3];grind
 have hD:((iD x1.den y1.den x2.den y2.den:Int):Rat)=((x1.den:Rat)*x2.den*(y1.den*y2.den))*((x1.den:Rat)*x2.den*(y1.den*y2.den)):=by unfold iD;simp only[qyh,Rat.intCast_natCast]
 have hN:((iN x1.num x1.den y1.num y1.den x2.num x2.den y2.num y2.den:Int):Rat)=far*(((x1.den:Rat)*x2.den*(y1.den*y2.den))*((x1.den:Rat)*x2.den*(y1.den*y2.den))):=by unfold iN;simp only[qze,qyh,Rat.intCast_natCast,hU,hV,hfar];grind
 have hN0:iN x1.num x1.den y1.num y1.den x2.num x2.den y2.num y2.den≠0:=by
  intro e;rw[e] at hN;have h1:(x1.den:Rat)*x2.den*(y1.den*y2.den)≠0:=by have:=qyV (qyV (q0c x1) (q0c x2)) (qyV (q0c y1) (q0c y2));grind
  have h2:far*(((x1.den:Rat)*x2.den*(y1.den*y2.den))*((x1.den:Rat)*x2.den*(y1.den*y2.den)))=0:=by rw[<-hN];simp
  rcases Rat.mul_eq_zero.1 h2 with h3|h3
  ·exact hf h3
  ·rcases Rat.mul_eq_zero.1 h3 with h4|h4<;>exact h1 h4
 have hT:((iT x1.num x1.den y1.num y1.den s1.num s1.den x2.num x2.den y2.num y2.den s2.num s2.den:Int):Rat)=2*t*far*(((x1.den:Rat)*x2.den*(y1.den*y2.den))*((x1.den:Rat)*x2.den*(y1.den*y2.den)))*((s1.den:Rat)*s2.den):=by
  unfold iT;simp only[qze,qyP,qyh,Rat.intCast_natCast,hN,hD,ns1,ns2];generalize ((x1.den:Rat)*x2.den*(y1.den*y2.den))*((x1.den:Rat)*x2.den*(y1.den*y2.den))=D2;have:2*t*far*D2*((s1.den:Rat)*s2.den)=(2*far*t)*(D2*((s1.den:Rat)*s2.den)):=by grind
  rw[this,ht'];grind
 have hG:((iG x1.num x1.den y1.num y1.den x3.num x3.den y3.num y3.den:Int):Rat)=((x1-x3)*(x1-x3)+(y1-y3)*(y1-y3))*(((x1.den:Rat)*y1.den*(x3.den*y3.den))*((x1.den:Rat)*y1.den*(x3.den*y3.den))):=by unfold iG;simp only[qze,qyh,Rat.intCast_natCast,hE,hF];grind
 have hH:((iH x1.num x1.den y1.num y1.den x2.num x2.den y2.num y2.den x3.num x3.den y3.num y3.den:Int):Rat)=((x1-x3)*(x2-x1)+(y1-y3)*(y2-y1))*(((x1.den:Rat)*x1.den*(x2.den*x3.den))*((y1.den:Rat)*y1.den*(y2.den*y3.den))):=by unfold iH;simp only[qze,qyh,Rat.intCast_natCast,hE,hF,hU,hV];grind
 have hSq:((iSq x1.den y1.den x3.den y3.den:Int):Rat)=((x1.den:Rat)*y1.den*(x3.den*y3.den))*((x1.den:Rat)*y1.den*(x3.den*y3.den)):=by unfold iSq;simp only[qyh,Rat.intCast_natCast]
 refine⟨?_,?_,?_,hN0⟩
 ·unfold iM iA;simp only[qze,qyP,qyh,Rat.intCast_natCast,hN,hT,hG,hH,hSq,ns1,ns3];have hA:kA ⟨x3,y3,s3⟩ ⟨x1+t*(x2-x1),y1+t*(y2-y1),if neg then y2-y1 else 0-(y2-y1),if neg then 0-(x2-x1) else x2-x1,h⟩=(x1-x3)*(x1-x3)+(y1-y3)*(y1-y3)+2*t*((x1-x3)*(x2-x1)+(y1-y3)*(y2-y1))+s1-s3:=by
   have e1:kA ⟨x3,y3,s3⟩ ⟨x1+t*(x2-x1),y1+t*(y2-y1),if neg then y2-y1 else 0-(y2-y1),if neg then 0-(x2-x1) else x2-x1,h⟩=(x1-x3)*(x1-x3)+(y1-y3)*(y1-y3)+2*t*((x1-x3)*(x2-x1)+(y1-y3)*(y2-y1))+far*(t*t)+far*h-s3:=by
    unfold kA;rw[hfar];cases neg
    ·simp only[qy5,if_false];grind
    ·simp only[if_true];grind
   rw[e1,hh'];grind
  rw[hA];generalize (x1-x3)*(x1-x3)+(y1-y3)*(y1-y3)=e2;generalize (x1-x3)*(x2-x1)+(y1-y3)*(y2-y1)=ed;generalize (x1.den:Rat)=P1;generalize (x2.den:Rat)=P2;generalize (x3.den:Rat)=P3;generalize (y1.den:Rat)=Q1;generalize (y2.den:Rat)=Q2;generalize (y3.den:Rat)=Q3;generalize (s1.den:Rat)=R1;generalize (s2.den:Rat)=R2;generalize (s3.den:Rat)=R3;clear hU hV hE hF hD hN hN0 hT hG hH hSq nx1 nx2 nx3 ny1 ny2 ny3 ns1 ns2 ns3 px1 px2 py1 py2 hf h2f ht' hh' hc hfar;grind
 ·unfold iQ iK kB;simp only[qyP,qyh,Rat.intCast_natCast,hE,hF,hU,hV];cases neg
  ·simp only[qy5,if_false];simp;grind
  ·simp only[if_true];simp;grind
 ·unfold iCd iCn;simp only[qyP,qyh,Rat.intCast_natCast,hN,hT,hD,ns1];generalize ((x1.den:Rat)*x2.den*(y1.den*y2.den))*((x1.den:Rat)*x2.den*(y1.den*y2.den))=D2;generalize (s1.den:Rat)=R1;generalize (s2.den:Rat)=R2;have e:s1=far*h+far*(t*t):=by rw[hh'];grind
  have f4:((4:Int):Rat)=4:=by simp
  rw[f4,e];clear hU hV hE hF hD hN hN0 hT hG hH hSq nx1 nx2 nx3 ny1 ny2 ny3 ns1 ns2 ns3 px1 px2 py1 py2 hf h2f ht' hh' hc hfar;grind
end
end Go.Eng

namespace Go.Eng
def pw(d:DQ)(x y:Rat):Rat:=(x-d.x)*(x-d.x)+(y-d.y)*(y-d.y)-d.s
def qx5(l:List DQ):Prop:=∃x y:Rat,∀d∈l,pw d x y<=0
theorem qx5.mono{l l':List DQ}(h:qx5 l)(hs:∀d∈l',d∈l):qx5 l':=by obtain⟨x,y,h⟩:=h;exact⟨x,y,fun d hd=>h d (hs d hd)⟩
theorem qxp(a:Rat):0<=a*a:=by
 rcases Rat.le_total (a:=0) (b:=a) with h|h
 ·exact qz4 h h
 ·have:=qz4 (show 0<=-a by grind) (show 0<=-a by grind);grind
theorem hit{ι:Type}(al be:ι->Rat):∀(L:List ι),(∀k∈L,al k<=0)->(∃k∈L,0<be k)->∃t,0<=t/\(∀k∈L,al k+be k*t<=0)/\∃b∈L,0<be b/\al b+be b*t=0
 | [],_,h=>by obtain⟨k,hk,_⟩:=h;cases hk
 | a::L,h0,h1=>by
  have hLn:∀k∈L,al k<=0:=fun k hk=>h0 k (qxQ _ hk);have ha0:=h0 a qxM;by_cases ha:0<be a
  ·obtain⟨ta,hta⟩:∃ta,ta=-al a/be a:=⟨_,rfl⟩;have eta:ta*be a=-al a:=by rw[hta];exact Rat.div_mul_cancel (by grind)
   have ta0:0<=ta:=by apply Rat.not_lt.1;intro hn;have:=qyV (show 0 < -ta by grind) ha;grind
   have own:al a+be a*ta=0:=by grind
   by_cases hL:∃k∈L,0<be k
   ·obtain⟨t,k1,k2,b,hb,k3,k4⟩:=hit al be L hLn hL;rcases Rat.le_total (a:=t) (b:=ta) with hle|hle
    ·refine⟨t,k1,fun k hk=>?_,b,qxQ _ hb,k3,k4⟩;rcases qxP.1 hk with rfl|hk
     ·have:=qz4 (show 0<=be k by grind) (show 0<=ta-t by grind);grind
     ·exact k2 k hk
    ·refine⟨ta,ta0,fun k hk=>?_,a,qxM,ha,own⟩;rcases qxP.1 hk with rfl|hk
     ·grind
     ·rcases Rat.le_total (a:=0) (b:=be k) with hb|hb
      ·have:=qz4 hb (show 0<=t-ta by grind);have:=k2 k hk;grind
      ·have:=qz4 (show 0<=-be k by grind) ta0;have:=hLn k hk;grind
   ·refine⟨ta,ta0,fun k hk=>?_,a,qxM,ha,own⟩;rcases qxP.1 hk with rfl|hk
    ·grind
    ·have hb:be k<=0:=Rat.not_lt.1 fun hn=>hL ⟨k,hk,hn⟩;have:=qz4 (show 0<=-be k by grind) ta0;have:=hLn k hk;grind
  ·have hL:∃k∈L,0<be k:=by
    obtain⟨k,hk,h⟩:=h1;rcases qxP.1 hk with rfl|hk
    ·exact absurd h ha
    ·exact⟨k,hk,h⟩
   obtain⟨t,k1,k2,b,hb,k3,k4⟩:=hit al be L hLn hL;refine⟨t,k1,fun k hk=>?_,b,qxQ _ hb,k3,k4⟩;rcases qxP.1 hk with rfl|hk
   ·have:=qz4 (show 0<=-be k by grind) k1;grind
   ·exact k2 k hk
variable {q:Rat}
def cls(q:Rat):Prop:=(qn q<=12/\q.den=1)\/(qn q<=10/\qd q<=10)
def qwp(q:Rat):Prop:=qn q<=13/\qd q<=10
structure GD (d:DQ):Prop where
 x:cls d.x
 y:cls d.y
 s:qwp d.s
 nn:0<=d.s
theorem Bd.of_nl {m:Int}{k:Nat}(h:nl m<=k):Bd 1 k m:=by unfold Bd;have:=qwI h;omega
theorem Bd.of_le {C e:Nat}{x y:Int}(h:Bd C e y)(hxy:x.natAbs<=y.natAbs):Bd C e x:=qxJ hxy h
theorem qjx (h:cls q):∃u v,WtD u v q/\((u=12/\v=0)\/(u=10/\v=10)):=by
 rcases h with⟨h1,h2⟩|⟨h1,h2⟩
 ·refine⟨12,0,⟨Bd.of_nl h1,?_,?_⟩,.inl ⟨rfl,rfl⟩⟩
  ·unfold Bd;rw[h2];decide
  ·unfold Bd;rw[h2];decide
 ·exact⟨10,10,⟨Bd.of_nl h1,Bd.of_nl (m:=(q.den:Int)) h2,Bd.of_nl (m:=(q.den:Int)) h2⟩,.inr ⟨rfl,rfl⟩⟩
theorem qnh (h:qwp q):∃u v,WtD u v q/\u=13/\v=10:=⟨13,10,⟨Bd.of_nl h.1,Bd.of_nl (m:=(q.den:Int)) h.2,(Bd.of_nl (m:=(q.den:Int)) h.2).mono (by omega) (by omega)⟩,rfl,rfl⟩
theorem wl (h:cls q):bnd 12 10 q:=by
 rcases h with⟨h1,h2⟩|⟨h1,h2⟩
 ·exact⟨h1,by unfold qd;rw[h2];decide⟩
 ·exact⟨by omega,h2⟩
theorem q4F (h:qwp q):bnd 13 10 q:=h
theorem GD.sh {d:DQ}(h:GD d):d.sh:=⟨wl h.x,wl h.y,q4F h.s⟩
theorem qpl {a b d:DQ}(ga:GD a)(gb:GD b)(gd:GD d)(neg:Bool)(hf:(b.x-a.x)*(b.x-a.x)+(b.y-a.y)*(b.y-a.y)≠0)(oa:okQ (kA d (q15 a b neg)))(ob:okQ (kB d (q15 a b neg)))(oc:okQ (q15 a b neg).h) :RootOk (kA d (q15 a b neg)) (kB d (q15 a b neg)) (q15 a b neg).h:=by
 obtain⟨f1,f2,f3,f4⟩:=qo9 a b d neg hf;generalize kA d (q15 a b neg)=A at *;generalize kB d (q15 a b neg)=B at *;generalize (q15 a b neg).h=H at *;obtain⟨hx1,vx1,wx1,ex1⟩:=qjx ga.x;obtain⟨hy1,vy1,wy1,ey1⟩:=qjx ga.y;obtain⟨hs1,vs1,ws1,es1⟩:=qnh ga.s;obtain⟨hx2,vx2,wx2,ex2⟩:=qjx gb.x;obtain⟨hy2,vy2,wy2,ey2⟩:=qjx gb.y;obtain⟨hs2,vs2,ws2,es2⟩:=qnh gb.s;obtain⟨hx3,vx3,wx3,ex3⟩:=qjx gd.x;obtain⟨hy3,vy3,wy3,ey3⟩:=qjx gd.y;obtain⟨hs3,vs3,ws3,es3⟩:=qnh gd.s;have k1:8*hx1+vx1<=96/\14*hx1+4*vx1<=180:=by omega
 have k2:8*hy1+vy1<=96/\14*hy1+4*vy1<=180:=by omega
 have k3:7*hx2+vx2<=84/\14*hx2+2*vx2<=168:=by omega
 have k4:7*hy2+vy2<=84/\14*hy2+2*vy2<=168:=by omega
 have k5:2*hx3+vx3<=30/\2*hx3+4*vx3<=60:=by omega
 have k6:2*hy3+vy3<=30/\2*hy3+4*vy3<=60:=by omega
 have k7:hs1+2*vs1<=33/\2*hs1+4*vs1<=66:=by omega
 have k8:hs2+2*vs2<=33/\2*hs2+4*vs2<=66:=by omega
 have k9:hs3<=13/\vs3<=10:=by omega
 clear ex1 ey1 es1 ex2 ey2 es2 ex3 ey3 es3;have p0:∀q:Rat,(q.den:Int)≠0:=fun q=>by have:=qtY q;omega
 have hM:iM a.x.num a.x.den a.y.num a.y.den a.s.den b.x.num b.x.den b.y.num b.y.den b.s.den d.x.den d.y.den d.s.den≠0:=by unfold iM iSq;have:=p0 a.x;have:=p0 a.y;have:=p0 a.s;have:=p0 b.x;have:=p0 b.y;have:=p0 b.s;have:=p0 d.x;have:=p0 d.y;have:=p0 d.s;exact Int.mul_ne_zero (Int.mul_ne_zero (Int.mul_ne_zero f4 (Int.mul_ne_zero (Int.mul_ne_zero ‹_› ‹_›) ‹_›)) (Int.mul_ne_zero (Int.mul_ne_zero (Int.mul_ne_zero ‹_› ‹_›) (Int.mul_ne_zero ‹_› ‹_›)) (Int.mul_ne_zero (Int.mul_ne_zero ‹_› ‹_›) (Int.mul_ne_zero ‹_› ‹_›)))) (Int.mul_ne_zero ‹_› ‹_›)
 have hQ:iQ a.x.den a.y.den b.x.den b.y.den d.x.den d.y.den≠0:=by unfold iQ;exact Int.mul_ne_zero (Int.mul_ne_zero (Int.mul_ne_zero (p0 _) (p0 _)) (p0 _)) (Int.mul_ne_zero (Int.mul_ne_zero (p0 _) (p0 _)) (p0 _))
 have hC:iCd a.x.num a.x.den a.y.num a.y.den a.s.den b.x.num b.x.den b.y.num b.y.den b.s.den≠0:=by unfold iCd;exact Int.mul_ne_zero (Int.mul_ne_zero (by omega) (Int.mul_ne_zero f4 f4)) (Int.mul_ne_zero (Int.mul_ne_zero (p0 _) (p0 _)) (Int.mul_ne_zero (p0 _) (p0 _)))
 obtain⟨g1,g2⟩:=qgk hM f1;obtain⟨g3,g4⟩:=qgk hQ f2;obtain⟨g5,g6⟩:=qgk hC f3;have b1:=(bA wx1.n wx1.dh wy1.n wy1.dh wx2.n wx2.dh wy2.n wy2.dh wx3.n wx3.dh wy3.n wy3.dh ws1.n ws1.dh ws2.n ws2.dh ws3.n ws3.dh).of_le (x:=A.num) g1;have b2:=(bM wx1.n wx1.dh wy1.n wy1.dh wx2.n wx2.dh wy2.n wy2.dh wx1.d wy1.d wx2.d wy2.d wx3.d wy3.d ws1.d ws2.d ws3.d).of_le (x:=(A.den:Int)) g2;have b3:Bd 16 (hx1+hx2+hx3+hy1+hy2+hy3) B.num:=by refine(bK wx1.n wx1.dh wy1.n wy1.dh wx2.n wx2.dh wy2.n wy2.dh wx3.n wx3.dh wy3.n wy3.dh).of_le (qxJ g3 ?_);rw[qyH];cases neg<;>simp
 have b4:=(bQ wx1.d wy1.d wx2.d wy2.d wx3.d wy3.d).of_le (x:=(B.den:Int)) g4;have b5:=(bCn wx1.n wx1.dh wy1.n wy1.dh wx2.n wx2.dh wy2.n wy2.dh ws1.n ws1.dh ws2.n ws2.dh).of_le (x:=H.num) g5;have b6:=(bCd wx1.n wx1.dh wy1.n wy1.dh wx2.n wx2.dh wy2.n wy2.dh ws1.d ws2.d).of_le (x:=(H.den:Int)) g6;have X1:=b1.mul b4;have X:Bd 40960 500 (rX A B H):=(X1.mul b6).mono (by omega) (by omega);have Y:=b3.mul b2;have R:=b5.mul b6;have XX:=(X.mul X).mono (C':=1677721600) (e':=1000) (by omega) (by omega);have YY:=Y.mul Y;have YR:=(YY.mul R).mono (C':=553648128) (e':=972) (by omega) (by omega);have c10:(1000000000:Nat)<=10^9:=by decide
 exact { oa:=oa,ob:=ob,oc:=oc,x1:=X1.okL (k:=9) (by omega) (by omega) (by omega),x:=X.okL (k:=9) (by omega) (by omega) (by omega),y:=Y.okL (k:=9) (by omega) (by omega) (by omega),r:=R.okL (k:=9) (by omega) (by omega) (by omega),xx:=XX.okL (k:=10) (by decide) (by omega) (by omega),yy:=YY.okL (k:=9) (by omega) (by omega) (by omega),yr:=YR.okL (k:=9) (by omega) (by omega) (by omega),d:=((XX.mono (C':=1677721600) (e':=1000) (by omega) (by omega)).sub (YR.mono (C':=553648128) (e':=1000) (by omega) (by omega))).okL (k:=10) (by decide) (by omega) (by omega) }
end Go.Eng

namespace Go.Eng
theorem qxk{far c:Rat}(h0:far≠0)(hf:bnd 87 80 far)(hc:bnd 24 20 c):bnd 108 108 ((far+c)/(2*far)):=by
 have hn:far.num≠0:=fun h=>h0 (Rat.num_eq_zero.1 h);have hm:2*(far.num*(c.den:Int))≠0:=by have:=qtY c;exact Int.mul_ne_zero (by omega) (Int.mul_ne_zero hn (by omega))
 have h2f:2*far≠0:=by grind
 have key:(far+c)/(2*far)*((2*(far.num*(c.den:Int)):Int):Rat)=((far.num*(c.den:Int)+c.num*(far.den:Int):Int):Rat):=by
  have e1:=q9g far;have e2:=q9g c;have e3:(far+c)/(2*far)*(2*far)=far+c:=Rat.div_mul_cancel h2f;have f2:((2:Int):Rat)=2:=by simp
  simp only[qze,qyh,Rat.intCast_natCast,e1,e2,f2];generalize (far+c)/(2*far)=q at *;generalize (far.den:Rat)=fd at *;generalize (c.den:Rat)=cd at *;have e4:q*(2*(far*fd*cd))=q*(2*far)*(fd*cd):=by grind
  rw[e4,e3];grind
 obtain⟨k1,k2⟩:=qgk hm key;have g1:=qas k1;have g2:=qqR k2;have a1:=qoR (far.num*(c.den:Int)) (c.num*(far.den:Int));have a2:=q1N far.num (c.den:Int);have a3:=q1N c.num (far.den:Int);have a4:=q1N 2 (far.num*(c.den:Int));have a5:nl 2=1:=by decide
 have a6:dl (2*(far.num*(c.den:Int))).natAbs=nl (2*(far.num*(c.den:Int))):=rfl;have b1:nl far.num<=87:=hf.1;have b2:nl (far.den:Int)<=80:=hf.2;have b3:nl c.num<=24:=hc.1;have b4:nl (c.den:Int)<=20:=hc.2;refine⟨?_,?_⟩
 ·show nl _<=108;omega
 ·show dl _<=108;omega
structure PB (p:SQ):Prop where
 fx:bnd 142 138 p.fx
 fy:bnd 142 138 p.fy
 ax:bnd 23 20 p.ax
 ay:bnd 23 20 p.ay
 h:bnd 314 313 p.h
theorem qxt(a:Rat):0-a=-a:=by grind
theorem qsc{a b:DQ}(ga:GD a)(gb:GD b)(hf:qd6 b.x b.y a.x a.y≠0):bnd 108 108 ((qd6 b.x b.y a.x a.y+a.s-b.s)/(2*qd6 b.x b.y a.x a.y)):=by rw[show qd6 b.x b.y a.x a.y+a.s-b.s=qd6 b.x b.y a.x a.y+(a.s-b.s) by grind];exact qxk hf (qk3 (wl gb.x) (wl gb.y) (wl ga.x) (wl ga.y)) ((q4F ga.s).sub (q4F gb.s) (by omega) (by omega))
theorem qm0(a b:DQ)(neg:Bool):q15 a b neg=⟨a.x+(qd6 b.x b.y a.x a.y+a.s-b.s)/(2*qd6 b.x b.y a.x a.y)*(b.x-a.x),a.y+(qd6 b.x b.y a.x a.y+a.s-b.s)/(2*qd6 b.x b.y a.x a.y)*(b.y-a.y),if neg then b.y-a.y else 0-(b.y-a.y),if neg then 0-(b.x-a.x) else b.x-a.x,a.s/qd6 b.x b.y a.x a.y-(qd6 b.x b.y a.x a.y+a.s-b.s)/(2*qd6 b.x b.y a.x a.y)*((qd6 b.x b.y a.x a.y+a.s-b.s)/(2*qd6 b.x b.y a.x a.y))⟩:=rfl
theorem qdQ{a b:DQ}(ga:GD a)(gb:GD b)(neg:Bool)(hf:qd6 b.x b.y a.x a.y≠0):PB (q15 a b neg):=by
 have dx:=q6y (wl gb.x) (wl ga.x);have dy:=q6y (wl gb.y) (wl ga.y);have far:=qk3 (wl gb.x) (wl gb.y) (wl ga.x) (wl ga.y);have ht:=qsc ga gb hf;rw[qm0];have nx:bnd 23 20 (0-(b.x-a.x)):=by rw[qxt];exact dx.neg
 have ny:bnd 23 20 (0-(b.y-a.y)):=by rw[qxt];exact dy.neg
 have hh:=((q4F ga.s).div hf far).sub (ht.mul ht) (K:=314) (by omega) (by omega);have hx:=(wl ga.x).add (ht.mul dx) (K:=142) (by omega) (by omega);have hy:=(wl ga.y).add (ht.mul dy) (K:=142) (by omega) (by omega);exact⟨hx,hy,by cases neg<;>assumption,by cases neg<;>assumption,hh⟩
theorem PB.m{p:SQ}{d:DQ}(hp:PB p)(gd:GD d):bnd 153 148 (p.fx-d.x)/\bnd 153 148 (p.fy-d.y):=⟨hp.fx.sub (wl gd.x) (by omega) (by omega),hp.fy.sub (wl gd.y) (by omega) (by omega)⟩
theorem PB.mm{p:SQ}{d:DQ}(hp:PB p)(gd:GD d):bnd 603 592 ((p.fx-d.x)*(p.fx-d.x)+(p.fy-d.y)*(p.fy-d.y)):=qkP (hp.m gd).1 (hp.m gd).2 (hp.m gd).1 (hp.m gd).2
theorem PB.aa{p:SQ}(hp:PB p):bnd 87 80 (p.ax*p.ax+p.ay*p.ay):=qkP hp.ax hp.ay hp.ax hp.ay
theorem PB.ha{p:SQ}(hp:PB p):bnd 401 393 (p.h*(p.ax*p.ax+p.ay*p.ay)):=hp.h.mul hp.aa
theorem PB.x{p:SQ}{d:DQ}(hp:PB p)(gd:GD d):bnd 997 985 ((p.fx-d.x)*(p.fx-d.x)+(p.fy-d.y)*(p.fy-d.y)+p.h*(p.ax*p.ax+p.ay*p.ay)):=(hp.mm gd).add hp.ha (by omega) (by omega)
theorem PB.ma{p:SQ}{d:DQ}(hp:PB p)(gd:GD d):bnd 345 336 ((p.fx-d.x)*p.ax+(p.fy-d.y)*p.ay):=qkP (hp.m gd).1 (hp.m gd).2 hp.ax hp.ay
theorem PB.kA{p:SQ}{d:DQ}(hp:PB p)(gd:GD d):bnd 1008 995 (kA d p):=(hp.x gd).sub (q4F gd.s) (by omega) (by omega)
theorem PB.kB{p:SQ}{d:DQ}(hp:PB p)(gd:GD d):bnd 346 337 (kB d p):=qkv.mul (hp.ma gd)
structure PG (p:SQ):Prop where
 pb:PB p
 nn:0<=p.h
 root:∀d,GD d->RootOk (kA d p) (kB d p) p.h
theorem qt1{a b:DQ}(ga:GD a)(gb:GD b)(neg:Bool)(hf:qd6 b.x b.y a.x a.y≠0)(hn:0<=(q15 a b neg).h):PG (q15 a b neg):=⟨qdQ ga gb neg hf,hn,fun _ gd=>qpl ga gb gd neg hf (((qdQ ga gb neg hf).kA gd).ok (by omega) (by omega)) (((qdQ ga gb neg hf).kB gd).ok (by omega) (by omega)) ((qdQ ga gb neg hf).h.ok (by omega) (by omega))⟩
theorem qwP{a:DQ}(ga:GD a):PG ⟨a.x,a.y,0,0,0⟩:=by
 refine⟨⟨(wl ga.x).mono (by omega) (by omega),(wl ga.y).mono (by omega) (by omega),q6G.mono (by omega) (by omega),q6G.mono (by omega) (by omega),q6G.mono (by omega) (by omega)⟩,Rat.le_refl,fun d gd=>?_⟩;have e1:Go.Eng.kA d ⟨a.x,a.y,0,0,0⟩=qd6 a.x a.y d.x d.y-d.s:=by unfold Go.Eng.kA qd6;grind
 have e2:Go.Eng.kB d ⟨a.x,a.y,0,0,0⟩=0:=by unfold Go.Eng.kB;grind
 rw[e1,e2];have f1:bnd 98 90 (qd6 a.x a.y d.x d.y-d.s):=(qk3 (wl ga.x) (wl ga.y) (wl gd.x) (wl gd.y)).sub (q4F gd.s) (by omega) (by omega);exact RootOk.of f1 q6G q6G (by omega) (by omega)
theorem qsN{d:DQ}{p:SQ}(gd:GD d)(hp:PG p) :(vM [.s (tQ d.x),.s (tQ d.y),.s (tQ d.s),.s (tQ p.fx),.s (tQ p.fy),.s (tQ p.ax),.s (tQ p.ay),.s (tQ p.h),.i 0]).run=some (0,[.b (decide (qaW d p)),.i 0]):=by rw[qcE];have hr:=qw3 (hp.root d gd) hp.nn;obtain⟨hp,-,-⟩:=hp;obtain⟨m1,m2⟩:=hp.m gd;have h0:=quB hp.fx hp.fy (wl gd.x) (wl gd.y) (by omega) (by omega) (by omega);have h1:=qtQ m1 m2 m1 m2 (by omega) (by omega);have h2:=qtQ hp.ax hp.ay hp.ax hp.ay (by omega) (by omega);have h3:=qmb hp.h hp.aa (by omega) (by omega);have h4:=qr2 (hp.mm gd) hp.ha (by omega) (by omega) (by omega);have h5:=qnz (hp.x gd) (q4F gd.s) (by omega) (by omega) (by omega);have h6:=qtQ m1 m2 hp.ax hp.ay (by omega) (by omega);have h7:=qmb qkv (hp.ma gd) (by omega) (by omega);rw[qu8] at h7;have e:qaW d p=(qiY (Go.Eng.kA d p) (Go.Eng.kB d p) p.h<=0):=rfl;unfold Go.Eng.kA Go.Eng.kB at hr e;simp only[STD,h0,h1,h2,h3,h4,h5,h6,h7,hr,e];rfl
def qwV(d:DQ):List U:=[.s (tQ d.x),.s (tQ d.y),.s (tQ d.s)]
def rD(l:List DQ):R:=l.map qwV
def ix(l:List DQ)(i:Nat):DQ:=l.getD i ⟨0,0,0⟩
theorem uh(l:List DQ):qh (rD l)=(l.length:Int):=by simp[qh,rD]
theorem qpU{l:List DQ}{i:Nat}(h:i<l.length):cS (rD l) (i:Int) 0=tQ (ix l i).x/\cS (rD l) (i:Int) 1=tQ (ix l i).y/\cS (rD l) (i:Int) 2=tQ (ix l i).s:=by unfold cS wv rD ix;simp[h,qwV,U.toS]
theorem qu9{l:List DQ}{i:Nat}(h:i<l.length):ix l i∈l:=by unfold ix;simp[h]
def qji(a b:DQ)(same:Bool)(side:Int):Option SQ:=
 if same then (if side=0 then some ⟨a.x,a.y,0,0,0⟩ else none)
 else if qd6 b.x b.y a.x a.y=0 then none
 else if 0<=(q15 a b (decide (side<0))).h/\((q15 a b (decide (side<0))).h=0↔side=0) then some (q15 a b (decide (side<0))) else none
theorem qu0{a b:DQ}(ga:GD a)(gb:GD b){same:Bool}{side:Int}{p:SQ}(h:qji a b same side=some p):PG p:=by
 unfold qji at h;split at h
 ·split at h
  ·cases h;exact qwP ga
  ·cases h
 ·split at h
  ·cases h
  ·rename_i hf;split at h
   ·rename_i hc;cases h;exact qt1 ga gb _ hf hc.1
   ·cases h
def qgJ(l:List DQ)(i j:Nat)(side:Int):Bool:=
 match qji (ix l i) (ix l j) (decide (i=j)) side with
 | none=>false
 | some p=>l.all fun d=>decide (qaW d p)
def qpV(l:List DQ)(i j:Nat)(side:Int):Option (Nat×Nat×Int):=if qgJ l i j side then some (i,j,side) else none
def qfU(l:List DQ)(i j:Nat):Option (Nat×Nat×Int):=
 match qpV l i j 0 with
 | some w=>some w
 | none=>match qpV l i j 1 with
  | some w=>some w
  | none=>qpV l i j (-1)
def qfI(l:List DQ):Option (Nat×Nat×Int):=
 match q2S (fun i=>qpV l i i 0) 0 l.length with
 | some w=>some w
 | none=>q2S (fun i=>q2S (fun k=>qfU l i (i+1+k)) 0 (l.length-(i+1))) 0 l.length
theorem qso{l:List DQ}{d:DQ}(h:d∈l):∃i,i<l.length/\ix l i=d:=by obtain⟨i,hi,e⟩:=List.getElem_of_mem h;exact⟨i,hi,by unfold ix;simp[hi,e]⟩
theorem qjk{α:Type}{f:Nat->Option α}{a:α}:∀{k i:Nat},q2S f i k=some a->∃j,i<=j/\j<i+k/\f j=some a/\∀m,i<=m->m<j->f m=none
 | 0,i,h=>by cases h
 | k+1,i,h=>by
  simp only[q2S] at h;cases hf:f i with
  | some b=>rw[hf] at h;exact⟨i,qxC _,by omega,by rw[hf];exact h,fun m h1 h2=>by omega⟩
  | none=>
   rw[hf] at h;obtain⟨j,h1,h2,h3,h4⟩:=qjk h;refine⟨j,by omega,by omega,h3,fun m m1 m2=>?_⟩;rcases qyJ m1 with rfl|m1
   ·exact hf
   ·exact h4 m m1 m2
def GDs(l:List DQ):Prop:=∀d∈l,GD d
theorem GDs.ix{l:List DQ}(h:GDs l){i:Nat}(hi:i<l.length):GD (ix l i):=h _ (qu9 hi)
theorem quC(q:Rat):(seq (tQ q) [48]=true)=(q=0):=by rw[ja,qhQ]
theorem qf0(q:Rat):(0:Int)<zG (tQ q):=by have h1:=qh9 q;have h2:=qhR q;unfold zG;omega
theorem qxv(i:Nat):((i:Int)=(i:Int))=True:=by simp
def plc(p:SQ):List PV:=[.s (tQ p.fx),.s (tQ p.fy),.s (tQ p.ax),.s (tQ p.ay),.s (tQ p.h)]
theorem qf4(q:Rat):(¬(tQ q).getD 0 0=45)=(0<=q):=by
 by_cases h:0<=q
 ·exact propext ⟨fun _=>h,fun _=>qv3 h⟩
 ·have:=qww (c:=q) (by grind);exact propext ⟨fun h'=>absurd this h',fun h'=>absurd h' h⟩
theorem quH(b:Bool)(p q:Prop)[Decidable p][Decidable q](hb:(b=true)=p):(Go.Eng.beq b (decide q))=decide (p↔q):=by subst hb;by_cases hq:q<;>cases b<;>simp[Go.Eng.beq,hq]<;>rfl
set_option maxHeartbeats 2000000 in
theorem quF{l:List DQ}(hl:GDs l){i j:Nat}(hi:i<l.length)(hj:j<l.length)(side:Int) :(qji (ix l i) (ix l j) (decide (i=j)) side=none/\∃a b c d e,(wA [.r (rD l),.i (i:Int),.i (j:Int),.i side,.i 0]).run=some (0,[.s a,.s b,.s c,.s d,.s e,.b false,.i 0])) \/∃p,qji (ix l i) (ix l j) (decide (i=j)) side=some p/\(wA [.r (rD l),.i (i:Int),.i (j:Int),.i side,.i 0]).run=some (0,plc p++[.b true,.i 0]):=by
 rw[qcK];obtain⟨x1,x2,x3⟩:=qpU hi;obtain⟨y1,y2,y3⟩:=qpU hj;have ga:=hl.ix hi;have gb:=hl.ix hj;have bi:0<=(i:Int)/\(i:Int)<qh (rD l):=by rw[uh];omega
 have bj:0<=(j:Int)/\(j:Int)<qh (rD l):=by rw[uh];omega
 obtain⟨a,ha⟩:∃a,a=ix l i:=⟨_,rfl⟩;obtain⟨b,hb⟩:∃b,b=ix l j:=⟨_,rfl⟩;rw[<-ha] at x1 x2 x3 ga ⊢;rw[<-hb] at y1 y2 y3 gb ⊢;simp only[x1,x2,x3,y1,y2,y3];clear x1 x2 x3 y1 y2 y3 hb;unfold qji plc;by_cases hij:i=j
 ·subst hij;have z:tQ 0=[48]:=rfl;by_cases hs:side=0
  ·subst hs;right;refine⟨⟨a.x,a.y,0,0,0⟩,by simp,?_⟩;have e:ieq 0 0=true:=rfl;simp only[STD,bi,and_self,z,e];rfl
  ·left;refine⟨by simp[hs],tQ a.x,tQ a.y,[48],[48],[48],?_⟩;have e:ieq side 0=false:=by simp[ieq,hs]
   simp only[STD,bi,and_self,e]
 ·have hij':¬(i:Int)=(j:Int):=by omega
  obtain⟨a1,a2,a3⟩:=ga.sh;obtain⟨b1,b2,b3⟩:=gb.sh;have dx:=q6y b1 a1;have dy:=q6y b2 a2;have far:=qk3 b1 b2 a1 a2;have h0:=quB b1 b2 a1 a2 (by omega) (by omega) (by omega);have h1:=qtQ dx dy dx dy (by omega) (by omega);have hfd:(b.x-a.x)*(b.x-a.x)+(b.y-a.y)*(b.y-a.y)=qd6 b.x b.y a.x a.y:=rfl;rw[hfd] at h1;by_cases hf:qd6 b.x b.y a.x a.y=0
  ·left;refine⟨by simp[hij,hf],[],[],[],[],[],?_⟩;simp only[STD,bi,bj,and_self,hij',h0,h1,quC,hf]
  ·have hpb:=fun neg=>qdQ ga gb neg hf;have ht:=qsc ga gb hf;have n1:bnd 98 90 (qd6 b.x b.y a.x a.y+a.s):=far.add a3 (by omega) (by omega);have h2:=qr2 far a3 (by omega) (by omega) (by omega);have n2:bnd 112 100 (qd6 b.x b.y a.x a.y+a.s-b.s):=n1.sub b3 (by omega) (by omega);have h3:=qnz n1 b3 (by omega) (by omega) (by omega);have h4:=qmb qkv far (by omega) (by omega);rw[qu8] at h4;have n4:=qkv.mul far;have hf2:2*qd6 b.x b.y a.x a.y≠0:=by grind
   have h5:=qwm hf2 n2 n4 (by omega) (by omega);have h6:=qmb ht dx (by omega) (by omega);have h7:=qr2 a1 (ht.mul dx) (by omega) (by omega) (by omega);have h8:=qmb ht dy (by omega) (by omega);have h9:=qr2 a2 (ht.mul dy) (by omega) (by omega) (by omega);have h10:=qnz q6G dy (by omega) (by omega) (by omega);have h14:=qnz q6G dx (by omega) (by omega) (by omega);rw[show tQ 0=[48] from rfl] at h10 h14;have h11:=qwm hf a3 far (by omega) (by omega);have h12:=qmb ht ht (by omega) (by omega);have h13:=qnz (a3.div hf far) (ht.mul ht) (by omega) (by omega) (by omega);have hbd:=fun (q:Rat)=>quH (seq (tQ q) [48]) (q=0) (side=0) (quC q);have hie:ieq side 0=decide (side=0):=rfl;rw[if_neg (by simp[hij]),if_neg hf];obtain⟨p,hcr'⟩:∃p,p=q15 a b (decide (side<0)):=⟨_,rfl⟩;rw[<-hcr'];have hcr:=hcr'.symm;clear hcr';rw[qm0] at hcr;obtain⟨t,htt⟩:∃t,t=(qd6 b.x b.y a.x a.y+a.s-b.s)/(2*qd6 b.x b.y a.x a.y):=⟨_,rfl⟩;rw[<-htt] at hcr h5 h6 h7 h8 h9 h12 h13;obtain⟨h,hh⟩:∃h,h=a.s/qd6 b.x b.y a.x a.y-t*t:=⟨_,rfl⟩;rw[<-hh] at hcr h13;have hp5:p.h=h:=by rw[<-hcr]
   by_cases hs:side<0
   ·simp only[hs,decide_true,if_true] at hcr;by_cases hn:0<=h
    ·by_cases hz:(h=0↔side=0)
     ·right;refine⟨p,by rw[if_pos ⟨by rw[hp5];exact hn,by rw[hp5];exact hz⟩],?_⟩;rw[<-hcr];simp only[STD,bi,bj,and_self,hij',h0,h1,h2,h3,h4,h5,h6,h7,h8,h9,h10,h11,h12,h13,h14,quC,hf,hs,qxT,qf0,qdd,qf4,hn,hie,hbd,hz,decide_true];rfl
     ·left;refine⟨by rw[if_neg (by rw[hp5];exact fun c=>hz c.2)],tQ p.fx,tQ p.fy,tQ p.ax,tQ p.ay,tQ p.h,?_⟩;rw[<-hcr];simp only[STD,bi,bj,and_self,hij',h0,h1,h2,h3,h4,h5,h6,h7,h8,h9,h10,h11,h12,h13,h14,quC,hf,hs,qxT,qf0,qdd,qf4,hn,hie,hbd,hz,decide_false]
    ·left;refine⟨by rw[if_neg (by rw[hp5];exact fun c=>hn c.1)],tQ p.fx,tQ p.fy,tQ p.ax,tQ p.ay,tQ p.h,?_⟩;rw[<-hcr];simp only[STD,bi,bj,and_self,hij',h0,h1,h2,h3,h4,h5,h6,h7,h8,h9,h10,h11,h12,h13,h14,quC,hf,hs,qxT,qf0,qdd,qf4,hn]
   ·simp only[hs,decide_false,qy5,if_false] at hcr;by_cases hn:0<=h
    ·by_cases hz:(h=0↔side=0)
     ·right;refine⟨p,by rw[if_pos ⟨by rw[hp5];exact hn,by rw[hp5];exact hz⟩],?_⟩;rw[<-hcr];simp only[STD,bi,bj,and_self,hij',h0,h1,h2,h3,h4,h5,h6,h7,h8,h9,h10,h11,h12,h13,h14,quC,hf,hs,qxT,qf0,qdd,qf4,hn,hie,hbd,hz,decide_true];rfl
     ·left;refine⟨by rw[if_neg (by rw[hp5];exact fun c=>hz c.2)],tQ p.fx,tQ p.fy,tQ p.ax,tQ p.ay,tQ p.h,?_⟩;rw[<-hcr];simp only[STD,bi,bj,and_self,hij',h0,h1,h2,h3,h4,h5,h6,h7,h8,h9,h10,h11,h12,h13,h14,quC,hf,hs,qxT,qf0,qdd,qf4,hn,hie,hbd,hz,decide_false]
    ·left;refine⟨by rw[if_neg (by rw[hp5];exact fun c=>hn c.1)],tQ p.fx,tQ p.fy,tQ p.ax,tQ p.ay,tQ p.h,?_⟩;rw[<-hcr];simp only[STD,bi,bj,and_self,hij',h0,h1,h2,h3,h4,h5,h6,h7,h8,h9,h10,h11,h12,h13,h14,quC,hf,hs,qxT,qf0,qdd,qf4,hn]
theorem qvx{α:Type}(p:Nat->Bool)(g:Nat->α)(n:Nat):(q2S (fun i=>if p i=true then none else some (g i)) 0 n=none/\∀i,i<n->p i=true)\/∃i,i<n/\p i=false/\q2S (fun i=>if p i=true then none else some (g i)) 0 n=some (g i):=by
 cases h:q2S (fun i=>if p i=true then none else some (g i)) 0 n with
 | none=>
  refine .inl ⟨rfl,fun i hi=>?_⟩;have:=qhc h i (by omega) (by omega);cases hp:p i
  ·rw[hp] at this;simp at this
  ·rfl
 | some a=>
  obtain⟨j,-,hj,hf,-⟩:=qjk h;cases hp:p j
  ·rw[hp] at hf;simp at hf;exact .inr ⟨j,by omega,hp,by rw[hf]⟩
  ·rw[hp] at hf;simp at hf
theorem qum(l:List DQ)(p:DQ->Bool):l.all p=true↔∀i,i<l.length->p (ix l i)=true:=by
 rw[qxV];constructor
 ·intro h i hi;exact h _ (qu9 hi)
 ·intro h d hd;obtain⟨i,hi,rfl⟩:=qso hd;exact h i hi
theorem qv7{l:List DQ}{p:DQ->Bool}{i:Nat}(hi:i<l.length)(h:p (ix l i)=false):l.all p=false:=by
 cases ha:l.all p
 ·rfl
 ·have:=(qum l p).1 ha i hi;simp_all
theorem qoE{l:List DQ}(hl:GDs l)(hn:l.length<1000000){i j:Nat}(hi:i<l.length)(hj:j<l.length)(side:Int) :(va [.r (rD l),.i (i:Int),.i (j:Int),.i side,.i 0]).run=some (0,[.b (qgJ l i j side),.i 0]):=by
 rw[qbN];unfold qgJ;rcases quF hl hi hj side with⟨h1,a,b,c,d,e,h2⟩|⟨p,h1,h2⟩
 ·rw[h1];simp only[STD,h2]
 ·rw[h1];have hp:=qu0 (hl.ix hi) (hl.ix hj) h1;unfold plc at h2;simp only[qyn,qyN] at h2;have key:=qdG (S:=zY)
   (fun k=>[.r (rD l),.i (qh (rD l)),.i (k:Int),.r (rD l),.r (rD l),.r (rD l),.i (i:Int),.i (j:Int),.i side,.b true,.s (tQ p.fx),.s (tQ p.fy),.s (tQ p.ax),.s (tQ p.ay),.s (tQ p.h),.b true,.r (rD l),.i (i:Int),.i (j:Int),.i side,.s (tQ p.fx),.s (tQ p.fy),.s (tQ p.ax),.s (tQ p.ay),.s (tQ p.h),.b true,.s (tQ p.fx),.s (tQ p.fy),.s (tQ p.ax),.s (tQ p.ay),.s (tQ p.h),.b true,.b true,.r (rD l),.i 0,.i (i:Int),.i (j:Int),.i side,.s (tQ p.fx),.s (tQ p.fy),.s (tQ p.ax),.s (tQ p.ay),.s (tQ p.h)])
   (fun k=>if decide (qaW (ix l k) p)=true then none else some (1,[.i (k:Int),.r (rD l),.r (rD l),.r (rD l),.i (i:Int),.i (j:Int),.i side,.b true,.s (tQ p.fx),.s (tQ p.fy),.s (tQ p.ax),.s (tQ p.ay),.s (tQ p.h),.b true,.r (rD l),.i (i:Int),.i (j:Int),.i side,.s (tQ p.fx),.s (tQ p.fy),.s (tQ p.ax),.s (tQ p.ay),.s (tQ p.h),.b true,.s (tQ p.fx),.s (tQ p.fy),.s (tQ p.ax),.s (tQ p.ay),.s (tQ p.h),.b true,.b true,.r (rD l),.i 0,.i (i:Int),.i (j:Int),.i side,.s (tQ p.fx),.s (tQ p.fy),.s (tQ p.ax),.s (tQ p.ay),.s (tQ p.h)]))
   (0,[.r (rD l),.r (rD l),.r (rD l),.i (i:Int),.i (j:Int),.i side,.b true,.s (tQ p.fx),.s (tQ p.fy),.s (tQ p.ax),.s (tQ p.ay),.s (tQ p.h),.b true,.r (rD l),.i (i:Int),.i (j:Int),.i side,.s (tQ p.fx),.s (tQ p.fy),.s (tQ p.ax),.s (tQ p.ay),.s (tQ p.h),.b true,.s (tQ p.fx),.s (tQ p.fy),.s (tQ p.ax),.s (tQ p.ay),.s (tQ p.h),.b true,.b true,.r (rD l),.i 0,.i (i:Int),.i (j:Int),.i side,.s (tQ p.fx),.s (tQ p.fy),.s (tQ p.ax),.s (tQ p.ay),.s (tQ p.h)])
   l.length (by omega)
   (fun k hk hf=>by
    rw[ye];obtain⟨x1,x2,x3⟩:=qpU hk;have hK:=qsN (hl.ix hk) hp;by_cases hd:qaW (ix l k) p
    ·simp only[x1,x2,x3,STD,hK,hd,uh,q5J hk (show l.length<9223372036854775808 by omega),show (k:Int)<(l.length:Int) by omega,show (0:Int)<=(k:Int) by omega,and_self,decide_true]
    ·simp[hd] at hf)
   (fun k r hk hf=>by
    rw[ye];obtain⟨x1,x2,x3⟩:=qpU hk;have hK:=qsN (hl.ix hk) hp;by_cases hd:qaW (ix l k) p
    ·simp[hd] at hf
    ·simp only[hd,decide_false,qy5,if_false,qxB] at hf;subst hf;simp only[x1,x2,x3,STD,hK,hd,uh,show (k:Int)<(l.length:Int) by omega,show (0:Int)<=(k:Int) by omega,and_self,decide_false])
   (by rw[ye];simp only[STD,uh,show ¬(l.length:Int)<(l.length:Int) by omega])
  rcases qvx (fun k=>decide (qaW (ix l k) p)) (fun k=>((1,[.i (k:Int),.r (rD l),.r (rD l),.r (rD l),.i (i:Int),.i (j:Int),.i side,.b true,.s (tQ p.fx),.s (tQ p.fy),.s (tQ p.ax),.s (tQ p.ay),.s (tQ p.h),.b true,.r (rD l),.i (i:Int),.i (j:Int),.i side,.s (tQ p.fx),.s (tQ p.fy),.s (tQ p.ax),.s (tQ p.ay),.s (tQ p.h),.b true,.s (tQ p.fx),.s (tQ p.fy),.s (tQ p.ax),.s (tQ p.ay),.s (tQ p.h),.b true,.b true,.r (rD l),.i 0,.i (i:Int),.i (j:Int),.i side,.s (tQ p.fx),.s (tQ p.fy),.s (tQ p.ax),.s (tQ p.ay),.s (tQ p.h)]):Nat×List PV)) l.length with⟨s1,s2⟩|⟨k,hk,s2,s1⟩
  ·rw[s1] at key;have hall:(l.all fun d=>decide (qaW d p))=true:=(qum l _).2 s2;simp only[Option.getD_none] at key;simp only[STD,h2,hall];have key':=key;simp only[show ((0:Nat):Int)=0 from rfl] at key';simp only[STD,key',wY key',show ieq 0 0=true from rfl]
  ·rw[s1] at key;have hall:=qv7 (p:=fun d=>decide (qaW d p)) hk s2;simp only[qyK] at key;simp only[STD,h2,hall];have key':=key;simp only[show ((0:Nat):Int)=0 from rfl] at key';simp only[STD,key',wY key',show ¬(1=0) by omega,show (0:Int)<=(k:Int) by omega]
theorem qgs{S:List PV->TR}{α:Type}(st:Nat->List PV)(f:Nat->Option α)(g:α->List PV)(fin:List PV)(n:Nat)(hn:n<9223372036854775808)(h:∀i,i<n->(S (st i)).run=(f i).elim (some (0,st (i+1))) (fun a=>some (2,g a))) (h3:(S (st n)).run=some (1,fin)) :(qm S (st 0)).run=some ((q2S f 0 n).elim (0,fin) (fun a=>(1,g a))):=by
 have key:=qdG st (fun i=>(f i).map fun a=>(1,g a)) (0,fin) n hn (fun i hi hf=>by
  rw[h i hi];cases hfi:f i with
  | none=>rfl
  | some a=>rw[hfi] at hf;cases hf) (fun i r hi hf=>by
  rw[h i hi];cases hfi:f i with
  | none=>rw[hfi] at hf;cases hf
  | some a=>rw[hfi] at hf;simp at hf;rw[<-hf];rfl) h3
 rw[key,qku];cases q2S f 0 n<;>rfl
def sd(s:Nat):Int:=cI [[.i 0],[.i 1],[.i (-1)]] (s:Int) 0
theorem qqc(l:List DQ)(i j:Nat):q2S (fun s=>qpV l i j (sd s)) 0 3=qfU l i j:=by
 have e0:sd 0=0:=rfl;have e1:sd 1=1:=rfl;have e2:sd 2=-1:=rfl;simp only[q2S,e0,e1,e2];unfold qfU;cases qpV l i j 0
 ·cases qpV l i j 1
  ·cases qpV l i j (-1)<;>rfl
  ·rfl
 ·rfl
def dex(l:List DQ)(w:Nat×Nat×Int):List PV:=[.i 0,.r (rD l),.i (w.1:Int),.i (w.2.1:Int),.i w.2.2,.b true,.i (l.length:Int)]
def fW(o:Option (Nat×Nat×Int)):List PV:=o.elim [.i 0,.i 0,.i 0,.b false] (fun w=>[.i (w.1:Int),.i (w.2.1:Int),.i w.2.2,.b true])
theorem n3:qh [[U.i 0],[U.i 1],[U.i (-1)]]=3:=rfl
set_option maxHeartbeats 600000 in
theorem quL{l:List DQ}(hl:GDs l)(hn:l.length<1000000):(jT [.r (rD l),.i 0]).run=some (0,fW (qfI l)++[.i 0]):=by
 rw[qcF];have big:l.length<9223372036854775808:=by omega
 have A:=qgs (S:=ww) (fun k=>[.i (l.length:Int),.i (k:Int),.i 0,.r (rD l),.i 0,.i 0,.i 0,.b false,.i (l.length:Int)]) (fun k=>qpV l k k 0) (dex l)
  [.i 0,.r (rD l),.i 0,.i 0,.i 0,.b false,.i (l.length:Int)] l.length big
  (fun k hk=>by
   rw[q1Z];have hp:=qoE hl hn hk hk 0;unfold qpV;by_cases c:qgJ l k k 0=true
   ·rw[if_pos c];simp only[STD,hp,c,show (k:Int)<(l.length:Int) by omega,dex]
   ·rw[if_neg c];simp only[STD,hp,c,show (k:Int)<(l.length:Int) by omega,q5J hk big];rfl)
  (by rw[q1Z];simp only[STD,show ¬(l.length:Int)<(l.length:Int) by omega])
 have B:=fun i j (hi:i<l.length) (hj:j<l.length)=>qgs (S:=wh) (fun s=>[.i (i:Int),.i (j:Int),.i (l.length:Int),.i (i:Int),.i 3,.i (s:Int),.i 0,.r (rD l),.i 0,.i 0,.i 0,.b false,.i (l.length:Int),.r [[.i 0],[.i 1],[.i (-1)]]]) (fun s=>qpV l i j (sd s)) (dex l)
  [.i (i:Int),.i (j:Int),.i (l.length:Int),.i (i:Int),.i 0,.r (rD l),.i 0,.i 0,.i 0,.b false,.i (l.length:Int)] 3 (by omega)
  (fun s hs=>by
   rw[q1g];have hp:=qoE hl hn hi hj (sd s);have esd:cI [[.i 0],[.i 1],[.i (-1)]] (s:Int) 0=sd s:=rfl;unfold qpV;by_cases c:qgJ l i j (sd s)=true
   ·rw[if_pos c];simp only[STD,hp,c,esd,n3,show (s:Int)<3 by omega,show (0:Int)<=(s:Int) by omega,and_self,dex]
   ·rw[if_neg c];simp only[STD,hp,c,esd,n3,show (s:Int)<3 by omega,show (0:Int)<=(s:Int) by omega,and_self,q5J hs (show 3<9223372036854775808 by omega)];rfl)
  (by rw[q1g];simp only[STD,show ((3:Nat):Int)=3 from rfl,show ¬(3:Int)<3 by omega])
 have C:=fun i (hi:i<l.length)=>qgs (S:=we) (fun k=>[.i (i:Int),.i ((i+1+k:Nat):Int),.i (l.length:Int),.i (i:Int),.i 0,.r (rD l),.i 0,.i 0,.i 0,.b false,.i (l.length:Int)]) (fun k=>qfU l i (i+1+k)) (dex l)
  [.i (l.length:Int),.i (i:Int),.i 0,.r (rD l),.i 0,.i 0,.i 0,.b false,.i (l.length:Int)] (l.length-(i+1)) (by omega)
  (fun k hk=>by
   rw[q0X];have hj:i+1+k<l.length:=by omega
   have b:=B i (i+1+k) hi hj;rw[qqc] at b;simp only[show ((0:Nat):Int)=0 from rfl] at b;have w:=q5J hj big;cases hs:qfU l i (i+1+k) with
   | none=>
    rw[hs] at b;simp only[Option.elim] at b ⊢;simp only[STD,b,wY b,n3,show ((i+1+k:Nat):Int)<(l.length:Int) by omega,w];rfl
   | some v=>
    rw[hs] at b;simp only[Option.elim,dex] at b ⊢;simp only[STD,b,wY b,n3,show ((i+1+k:Nat):Int)<(l.length:Int) by omega,show ¬(1=0) by omega])
  (by rw[q0X];simp only[STD,show ¬((i+1+(l.length-(i+1)):Nat):Int)<(l.length:Int) by omega])
 have D:=qgs (S:=wC) (fun i=>[.i (l.length:Int),.i (i:Int),.i 0,.r (rD l),.i 0,.i 0,.i 0,.b false,.i (l.length:Int)]) (fun i=>q2S (fun k=>qfU l i (i+1+k)) 0 (l.length-(i+1))) (dex l)
  [.i 0,.r (rD l),.i 0,.i 0,.i 0,.b false,.i (l.length:Int)] l.length big
  (fun i hi=>by
   rw[q1U];have c:=C i hi;simp only[qyd] at c;have w:=q5J hi big;cases hs:q2S (fun k=>qfU l i (i+1+k)) 0 (l.length-(i+1)) with
   | none=>
    rw[hs] at c;simp only[Option.elim] at c ⊢;simp only[STD,w,c,wY c,show (i:Int)<(l.length:Int) by omega]
   | some v=>
    rw[hs] at c;simp only[Option.elim,dex] at c ⊢;simp only[STD,w,c,wY c,show (i:Int)<(l.length:Int) by omega,show ¬(1=0) by omega])
  (by rw[q1U];simp only[STD,show ¬(l.length:Int)<(l.length:Int) by omega])
 simp only[show ((0:Nat):Int)=0 from rfl] at A D;unfold qfI;cases hs:q2S (fun i=>qpV l i i 0) 0 l.length with
 | some v=>
  rw[hs] at A;simp only[Option.elim,dex] at A;simp only[STD,uh,A,wY A,show ¬(1=0) by omega,fW,Option.elim];rfl
 | none=>
  rw[hs] at A;simp only[Option.elim] at A;simp only[];cases hs':q2S (fun i=>q2S (fun k=>qfU l i (i+1+k)) 0 (l.length-(i+1))) 0 l.length with
  | none=>
   rw[hs'] at D;simp only[Option.elim] at D;simp only[STD,uh,A,wY A,D,wY D,fW,Option.elim];rfl
  | some v=>
   rw[hs'] at D;simp only[Option.elim,dex] at D;simp only[STD,uh,A,wY A,D,wY D,fW,Option.elim,show ¬(1=0) by omega];rfl
theorem qvV{d:DQ}(h:GD d):quW (tQ d.x) (tQ d.y) (tQ d.s)=0:=quX ((wl h.x).ok (by omega) (by omega)) ((wl h.y).ok (by omega) (by omega)) ((q4F h.s).ok (by omega) (by omega)) h.nn
noncomputable def cD(x:R)(i:Nat):Int:=quW (cS x (i:Int) 0) (cS x (i:Int) 1) (cS x (i:Int) 2)
noncomputable def lE(x:R):Int:=if 64<x.length then 5 else if q2N (cD x) x.length=0 then (if x.length=0 then 13 else 0) else q2N (cD x) x.length
theorem qmv(x:R)(h:64<x.length\/∀i,i<x.length->∀j,(cS x (i:Int) j).length<=1000000):(q1W [.r x]).run=some (0,[.i (lE x)]):=by
 rw[qkR];unfold lE;by_cases hn:64<x.length
 ·have:(64:Int)<qh x:=by unfold qh;omega
  simp only[STD,this,hn]
 ·have h':∀i,i<x.length->∀j,(cS x (i:Int) j).length<=1000000:=by
   rcases h with h|h
   ·omega
   ·exact h
  have hn':¬(64:Int)<qh x:=by unfold qh;omega
  have L:=qdv (S:=q1b) (fun k=>[.r x,.r x,.i (qh x),.i (k:Int)]) (cD x) [] [.r x] x.length (by omega)
   (fun i hi=>by
    rw[q9W];have c:=ql4 _ _ _ (h' i hi 0) (h' i hi 1) (h' i hi 2);have w:=q5J hi (show x.length<9223372036854775808 by omega);by_cases e:quW (cS x (i:Int) 0) (cS x (i:Int) 1) (cS x (i:Int) 2)=0
    ·simp only[STD,c,e,w,qhx hi,q0y,and_self,cD]
    ·simp only[STD,c,e,qhx hi,q0y,and_self,cD])
   (by rw[q9W];simp only[STD,qkN])
  simp only[show ((0:Nat):Int)=0 from rfl] at L;by_cases e:q2N (cD x) x.length=0
  ·rw[if_pos e] at L;by_cases z:x.length=0
   ·have:qh x=0:=by unfold qh;omega
    rw[if_neg hn,if_pos e,if_pos z];have L':=L;rw[this] at L';simp only[STD,this,show ¬(64:Int)<0 by omega,L',wY L']
   ·have:¬qh x=0:=by unfold qh;omega
    simp only[STD,hn',L,wY L,hn,e,z,this]
  ·rw[if_neg e] at L;simp only[STD,hn',L,wY L,hn,e,show ¬(1=0) by omega]
instance (s:qxA):Decidable (shT s):=by unfold shT;infer_instance
theorem qvm(x:R)(i j:Nat):cS x (i:Int) j=((x.getD i []).getD j (.i 0)).toS:=rfl
theorem qx9{l:List DQ}(hl:GDs l)(h0:l≠[])(hn:l.length<=64):lE (rD l)=0:=by
 have hlen:(rD l).length=l.length:=by simp[rD]
 have hz:l.length≠0:=fun h=>h0 (List.length_eq_zero_iff.1 h);unfold lE;rw[hlen,if_neg (by omega),if_neg hz,if_pos];refine qsk fun i hi=>?_;obtain⟨x1,x2,x3⟩:=qpU hi;unfold cD;rw[x1,x2,x3];exact qvV (hl.ix hi)
theorem quY{l:List DQ}(hl:GDs l):∀i,i<(rD l).length->∀j,(cS (rD l) (i:Int) j).length<=1000000:=by
 intro i hi j;have hi':i<l.length:=by simpa[rD] using hi
 obtain⟨x1,x2,x3⟩:=qpU hi';have g:=hl.ix hi'
 match j with
 | 0=>rw[x1];have:=qhd ((wl g.x).ok (by omega) (by omega));omega
 | 1=>rw[x2];have:=qhd ((wl g.y).ok (by omega) (by omega));omega
 | 2=>rw[x3];have:=qhd ((q4F g.s).ok (by omega) (by omega));omega
 | j+3=>
  rw[qvm];have e:(rD l).getD i []=qwV (ix l i):=by unfold rD ix;simp[hi']
  rw[e];simp[qwV,U.toS]
theorem qsI{l:List DQ}(hl:GDs l)(h0:l≠[])(hn:l.length<=64):(q1W [.r (rD l)]).run=some (0,[.i 0]):=by rw[qmv _ (.inr (quY hl)),qx9 hl h0 hn]
def cW(o:Option (Nat×Nat×Int)):List PV:=o.elim [.b false,.i 0,.i 0,.i 0,.i 0] (fun w=>[.b true,.i (w.1:Int),.i (w.2.1:Int),.i w.2.2,.i 0])
theorem qnY{l:List DQ}(hl:GDs l)(h0:l≠[])(hn:l.length<=64):(q1d [.r (rD l)]).run=some (0,cW (qfI l)):=by
 rw[qhq];have a:=qsI hl h0 hn;have b:=quL hl (by omega);cases hf:qfI l with
 | none=>
  rw[hf] at b;simp only[fW,Option.elim,qyn,qyN] at b;simp only[STD,a,b,cW,Option.elim]
 | some w=>
  rw[hf] at b;simp only[fW,Option.elim,qyn,qyN] at b;simp only[STD,a,b,cW,Option.elim]
def two(i j:Nat):R:=[[.i (i:Int)],[.i (j:Int)]]
def chk(x0 x1 x2 x3 x4 x5:Int)(x6:Bool):Int:=
 if ¬(-100000<=x0/\x0<=100000/\-100000<=x1/\x1<=100000/\1<=x2/\x2<=100000/\1<=x3/\x3<=100000) then 2
 else if x3<x2 then 9
 else if x4<0\/100000<x4\/(x6=false/\x2<=x4) then 2
 else if x5<0\/2<x5 then 1 else 0
theorem qeH(x:Int):(jp [.i x]).run=some (0,[.b (decide (-100000<=x/\x<=100000))]):=by rw[qnQ];simp only[qho,q8k,qd5];by_cases h:-100000<=x<;>simp[h,ile]
theorem qao(x:Int):(vz [.i x]).run=some (0,[.b (decide (1<=x/\x<=100000))]):=by rw[qkD];simp only[qho,q8k,qd5];by_cases h:1<=x<;>simp[h,ile]
theorem q58(x0 x1 x2 x3 x4 x5:Int)(x6:Bool):(vt [.i x0,.i x1,.i x2,.i x3,.i x4,.i x5,.b x6]).run=some (0,[.i (chk x0 x1 x2 x3 x4 x5 x6)]):=by
 rw[qit];simp only[qho,q8k,qlg (qeH _),gB,qqK (qeH _),qlg (qao _),qqK (qao _),qyT,PV.toB,if_true,qyw,decide_eq_false_iff_not,qhn,qd5];unfold chk;cases x6<;>simp only[reduceCtorEq,if_true,if_false,false_and,true_and,or_false]<;>repeat' split
 all_goals first|rfl|omega
theorem qgu{x0 x1 x2 x3 x4 x5:Int}{x6:Bool}(h:chk x0 x1 x2 x3 x4 x5 x6=0):-100000<=x0/\x0<=100000/\-100000<=x1/\x1<=100000/\1<=x2/\x2<=100000/\1<=x3/\x3<=100000/\x2<=x3/\0<=x4/\x4<=100000/\(x6=false->x4<x2)/\0<=x5/\x5<=2:=by
 unfold chk at h
 repeat' split at h
 all_goals first|omega|skip
 rename_i h1 h2 h3 h4;cases x6<;>simp at h3 ⊢<;>omega
def side(x5:Int)(x6:Bool):Int:=if (x5=2)=(x6=true) then -1 else 1
theorem qpD(x0 x1 x2 x3 x4 x5:Int)(x6:Bool)(h:0<=x5/\x5<=2):(q89 [.i x0,.i x1,.i x2,.i x3,.i x4,.i x5,.b x6]).run=some (0,[.i x0,.i x1,.i x2,.i x3,.i x4,.i x5,.b x6,.i (side x5 x6)]):=by
 rw[qnv];have h012:x5=0\/x5=1\/x5=2:=by omega
 cases x6<;>rcases h012 with rfl|rfl|rfl<;>rfl
theorem q40(x0 x1 x2 x3 x4 x5:Int)(x6:Bool)(x7 x8:Int):(vC [.i x0,.i x1,.i x2,.i x3,.i x4,.i x5,.b x6,.i x7,.i x8]).run=some (0,[.i (if x8<0 then x2 else x3)]):=by rw[q9O];simp only[qho,q8k,qhn];split<;>rfl
theorem qh5(x0 x1 x2 x3 x4 x5:Int)(x6:Bool):(vA [.i x0,.i x1,.i x2,.i x3,.i x4,.i x5,.b x6]).run=some (0,if chk x0 x1 x2 x3 x4 x5 x6=0 then [.i (if (x5=2)=(x6=true) then x2-x4 else x3+x4),.i 0] else [.i 0,.i (chk x0 x1 x2 x3 x4 x5 x6)]):=by
 rw[qg9];simp only[qho,q8k,gB,gI,qyT,PV.toB,PV.toI,if_true,qkp,qlg (q58 _ _ _ _ _ _ _),qqK (q58 _ _ _ _ _ _ _)];by_cases hc:chk x0 x1 x2 x3 x4 x5 x6=0
 ·obtain⟨h1,h2,h3,h4,h5,h6,h7,h8,h9,h10,h11,h12,h13,h14⟩:=qgu hc;have e:=qpD x0 x1 x2 x3 x4 x5 x6 ⟨h13,h14⟩;simp only[hc,ne_eq,not_true_eq_false,if_false,qlg e,qqK e,qyT,List.getD_cons_succ,if_true,qlg (q40 _ _ _ _ _ _ _ _ _),qqK (q40 _ _ _ _ _ _ _ _ _)];clear e hc;congr 4;unfold side;split
  ·have e1:q8T .i64 (-1) x4=-1*x4:=q3i (by omega);have e2:wT .i64 x2 (-1*x4)=x2+-1*x4:=vZ (by omega);rw[if_pos (show (-1:Int)<0 by decide),e1,e2];omega
  ·have e1:q8T .i64 1 x4=1*x4:=q3i (by omega);have e2:wT .i64 x3 (1*x4)=x3+1*x4:=vZ (by omega);rw[if_neg (show ¬(1:Int)<0 by decide),e1,e2];omega
 ·simp[hc]
def ext(x2 x3 x5:Int)(x6:Bool)(n:Int):Int:=if x5=0 then 0 else if (x5=1)=(x6=true) then x3-n else n-x2
def qob(a b c:Int):Int:=if -100000<=a/\a<=100000/\-100000<=b/\b<=100000/\1<=c/\c<=100000 then 0 else 2
theorem qeJ{a b c:Int}(h:qob a b c=0):-100000<=a/\a<=100000/\-100000<=b/\b<=100000/\1<=c/\c<=100000:=by
 unfold qob at h;split at h
 ·assumption
 ·omega
theorem qmj(a b c:Int):(q3L [.i a,.i b,.i c]).run=some (0,[.i (qob a b c)]):=by
 rw[qkm];simp only[STD,qeH,qao];unfold qob
 repeat' split
 all_goals first|rfl|omega
def qld(x0 x1 x2 x3 x4 x5:Int)(x6:Bool)(a b c:Int):Int:=if chk x0 x1 x2 x3 x4 x5 x6=0 then qob a b c else chk x0 x1 x2 x3 x4 x5 x6
theorem qqe{x0 x1 x2 x3 x4 x5:Int}{x6:Bool}{a b c:Int}(h:qld x0 x1 x2 x3 x4 x5 x6 a b c=0):chk x0 x1 x2 x3 x4 x5 x6=0/\qob a b c=0:=by
 unfold qld at h;split at h
 ·exact⟨by assumption,h⟩
 ·exact absurd h (by assumption)
theorem qfq(x0 x1 x2 x3 x4 x5:Int)(x6:Bool)(a b c:Int):(q01 [.i x0,.i x1,.i x2,.i x3,.i x4,.i x5,.b x6,.i a,.i b,.i c]).run=some (0,[.i (qld x0 x1 x2 x3 x4 x5 x6 a b c)]):=by rw[qkO];simp only[STD,q58,qmj];unfold qld;by_cases hc:chk x0 x1 x2 x3 x4 x5 x6=0<;>simp[hc]
def sq2(u v:Int):Int:=u*u+v*v
theorem qg0(x0 x1 x2 x3 x4 x5:Int)(x6:Bool)(a b c:Int):(z7 [.i x0,.i x1,.i x2,.i x3,.i x4,.i x5,.b x6,.i a,.i b,.i c]).run = some (0,if qld x0 x1 x2 x3 x4 x5 x6 a b c=0 then [.i (sq2 (a-x0) (b-x1)),.i 0] else [.i 0,.i (qld x0 x1 x2 x3 x4 x5 x6 a b c)]):=by
 rw[qeo];by_cases hc:qld x0 x1 x2 x3 x4 x5 x6 a b c=0
 ·obtain⟨c1,c2⟩:=qqe hc;obtain⟨h1,h2,h3,h4,_⟩:=qgu c1;obtain⟨k1,k2,k3,k4,_⟩:=qeJ c2;have e1:q3e .i64 a x0=a-x0:=yN (by omega);have e2:q3e .i64 b x1=b-x1:=yN (by omega);have b1:=qvr (a:=a-x0) (b:=a-x0) (A:=200000) (B:=200000) (by omega) (by omega) (by omega) (by omega);have b2:=qvr (a:=b-x1) (b:=b-x1) (A:=200000) (B:=200000) (by omega) (by omega) (by omega) (by omega);have e3:q8T .i64 (a-x0) (a-x0)=(a-x0)*(a-x0):=q3i (by omega);have e4:q8T .i64 (b-x1) (b-x1)=(b-x1)*(b-x1):=q3i (by omega);have e5:wT .i64 ((a-x0)*(a-x0)) ((b-x1)*(b-x1))=sq2 (a-x0) (b-x1):=vZ (by omega);simp only[STD,qfq,hc,qmF,e1,e2,e3,e4,e5]
 ·simp[qfq,hc,STD]
def qrs(l:R)(i:Nat):Int:=chk (cI l i 0) (cI l i 1) (cI l i 2) (cI l i 3) (cI l i 4) (cI l i 5) (cB l i 6)
def qqt(l:R)(i:Nat):Int:=qob (cI l i 0) (cI l i 1) (cI l i 2)
def zD(x y n:Int):DQ:=⟨(x:Rat),(y:Rat),Rat.divInt n 2*Rat.divInt n 2⟩
theorem qxi(n:Int):Rat.divInt (n*n) 4=Rat.divInt n 2*Rat.divInt n 2:=by rw[Rat.divInt_mul_divInt];rfl
theorem qoo{x:Int}(h:-999999<=x/\x<=999999):nl x<=6:=by
 have:=qas (m:=x) (n:=999999) (by omega);have e:nl 999999=6:=by decide
 omega
theorem qwb{x:Int}(h:-999999999999<=x/\x<=999999999999):nl x<=12:=by
 have:=qas (m:=x) (n:=999999999999) (by omega);have e:nl 999999999999=12:=by decide
 omega
theorem qtr{n:Int}(h:-999999<=n/\n<=999999):0<=n*n/\n*n<=999998000001:=by
 have b:=qvr (a:=n) (b:=n) (A:=999999) (B:=999999) (by omega) (by omega) (by omega) (by omega);refine⟨?_,by omega⟩;rcases Int.le_total 0 n with h0|h0
 ·exact qyU h0 h0
 ·exact Int.mul_nonneg_of_nonpos_of_nonpos h0 h0
theorem qqz{x:Int}(h:-999999<=x/\x<=999999):cls (x:Rat):=by refine .inl ⟨?_,by simp⟩;have:=qoo h;unfold qn;simp;omega
theorem qlN{n:Int}(h:-999999<=n/\n<=999999):qwp (Rat.divInt n 2*Rat.divInt n 2):=by
 rw[<-qxi];have r:=qtr h;have e:Rat.divInt (n*n) 4=mkRat (n*n) 4:=rfl;rw[e];have m:=q6C (n*n) 4;have l:=qwb (x:=n*n) (by omega);have d:dl 4=1:=by decide
 unfold qwp qn qd;omega
theorem qx3{x y n:Int}(hx:-999999<=x/\x<=999999)(hy:-999999<=y/\y<=999999)(hn:-999999<=n/\n<=999999):GD (zD x y n):=⟨qqz hx,qqz hy,qlN hn,qxp _⟩
theorem qmG{m n:Int}(hn0:n≠0)(hm:okL m)(hn:okL n):(q3S [.s (tI m),.s (tI n)]).run=some (0,[.s (tQ (Rat.divInt m n)),.i 0]):=by
 rw[qkq];have key:=wG (S:=uY) (fun i=>[.s (tI m),.s (tI n),.i 2,.i (i:Int),.r [[.s (tI m)],[.s (tI n)]]]) (0,[.s (tI m),.s (tI n)]) 2 (by omega) (fun i hi=>by
  rw[qa6];rcases (show i=0\/i=1 by omega) with rfl|rfl
  ·have e:cS [[.s (tI m)],[.s (tI n)]] ((0:Nat):Int) 0=tI m:=rfl;simp only[e,STD,q8t hm,show qh [[U.s (tI m)],[.s (tI n)]]=2 from rfl];rfl
  ·have e:cS [[.s (tI m)],[.s (tI n)]] ((1:Nat):Int) 0=tI n:=rfl;simp only[e,STD,q8t hn,show qh [[U.s (tI m)],[.s (tI n)]]=2 from rfl];rfl) (by rw[qa6];simp only[STD,show ((2:Nat):Int)=2 from rfl,show ¬(2:Int)<2 by omega])
 have key':(qm uY [.s (tI m),.s (tI n),.i (qh [[U.s (tI m)],[.s (tI n)]]),.i 0,.r [[.s (tI m)],[.s (tI n)]]]).run=some (0,[.s (tI m),.s (tI n)]):=key;have z:(seq (tI n) [48]=true)=False:=by rw[ja,q3v];exact eq_false hn0
 simp only[STD,key',wY key',z,(qdJ hn0 hm hn).1]
theorem qqn{m n:Int}(hn0:n≠0)(hm:-999999999999999<=m/\m<=999999999999999)(hn:-999999999999999<=n/\n<=999999999999999):(q7Z [.i m,.i n]).run=some (0,[.s (tQ (Rat.divInt m n)),.i 0]):=by
 have ok:∀k:Int,-999999999999999<=k/\k<=999999999999999->okL k:=fun k hk=>by
  have:=qas (m:=k) (n:=999999999999999) (by omega);have e:nl 999999999999999=15:=by decide
  unfold okL;omega
 rw[qnq];simp only[STD,q2Z m (by omega),q2Z n (by omega),qmG hn0 (ok m hm) (ok n hn)]
theorem qdM{m:Int}(hm:-999999999999999<=m/\m<=999999999999999):(q07 [.i m]).run=some (0,[.s (tQ (m:Rat))]):=by rw[qiy,qrB];simp only[STD,q2Z m (by omega)]
def qxw(x:Int):Prop:=-999999<=x/\x<=999999
theorem q2w(l:R):(qh l=0)=(l.length=0):=by unfold qh;exact propext ⟨fun h=>by omega,fun h=>by omega⟩
structure Rt (x0 x1:R):Prop where
 n:x0.length<=16
 e:x1.length=x0.length
 ne:x0.length≠0
 t:∀i,i<x0.length->qrs x0 i=0
 r:∀i,i<x0.length->qqt x1 i=0
 i:∀i:Nat,i<x0.length->cI x0 i 2<=cI x1 i 2/\cI x1 i 2<=cI x0 i 3
variable {i:Nat}
def ql3(x0 x1:R)(i:Nat):Int:=if qrs x0 i=0 then (if qrs x1 i=0 then (if cI x0 i 5=1/\cI x1 i 5=1 then (if (cI x0 i 0=cI x1 i 0/\cI x0 i 1=cI x1 i 1)/\cB x0 i 6≠cB x1 i 6 then 0 else 16) else 14) else qrs x1 i) else qrs x0 i
theorem qpM {x0 x1:R}(h:ql3 x0 x1 i=0):qrs x0 i=0/\qrs x1 i=0/\(cI x0 i 5=1/\cI x1 i 5=1)/\(cI x0 i 0=cI x1 i 0/\cI x0 i 1=cI x1 i 1)/\cB x0 i 6≠cB x1 i 6:=by
 unfold ql3 at h;split at h
 ·rename_i h1;split at h
  ·rename_i h2;split at h
   ·rename_i h3;split at h
    ·rename_i h4;exact⟨h1,h2,h3,h4.1,h4.2⟩
    ·omega
   ·omega
  ·rename_i h2;exact absurd h h2
 ·rename_i h1;exact absurd h h1
def q6t(x0 x1:R):Int:=if x0.length=0 then 13 else if 16<x0.length then 5 else if x1.length=x0.length then q2N (ql3 x0 x1) x0.length else 8
structure Jt (x0 x1:R):Prop where
 n:x0.length<=16
 ne:x0.length≠0
 e:x1.length=x0.length
 p:∀i,i<x0.length->ql3 x0 x1 i=0
theorem q8J {x0 x1:R}(h:q6t x0 x1=0):Jt x0 x1:=by
 unfold q6t at h;split at h
 ·omega
 ·rename_i h1;split at h
  ·omega
  ·rename_i h2;split at h
   ·rename_i h3;exact⟨by omega,h1,h3,fun i hi=>qcO h i hi⟩
   ·omega
def gau(l:R)(i:Nat):Int:=if cB l i 6=true then cI l i 3+cI l i 4 else cI l i 2-cI l i 4
theorem qwB {l:R}(h:cI l i 5=1):(if (cI l i 5=2)=(cB l i 6=true) then cI l i 2-cI l i 4 else cI l i 3+cI l i 4)=gau l i:=by unfold gau;rw[h];cases cB l i 6<;>simp
def mgA(x0 x1:R)(i:Nat):Int:=if cB x0 i 6=true then gau x1 i-gau x0 i else gau x0 i-gau x1 i
def mgL(x0 x1:R)(n:Nat):R:=wJ (fun i=>[.i (mgA x0 x1 i)]) n
def qtl(x0 x1:R):Bool:=decide (∀i,i<x0.length->0<=mgA x0 x1 i)
def qu6(l c:R)(i:Nat):Prop:=cI l i 2<=cI c i 2/\cI c i 2<=cI l i 3
instance (l c:R) (i:Nat):Decidable (qu6 l c i):=inferInstanceAs (Decidable (_/\_))
def qv1(x0 x1 x2 x3:R)(i:Nat):Int:=if qqt x2 i=0 then (if qqt x3 i=0 then (if qu6 x0 x2 i/\qu6 x1 x3 i then 0 else 14) else qqt x3 i) else qqt x2 i
theorem qss {x0 x1 x2 x3:R}(h:qv1 x0 x1 x2 x3 i=0):qqt x2 i=0/\qqt x3 i=0/\qu6 x0 x2 i/\qu6 x1 x3 i:=by
 unfold qv1 at h;split at h
 ·rename_i h1;split at h
  ·rename_i h2;split at h
   ·rename_i h3;exact⟨h1,h2,h3⟩
   ·omega
  ·rename_i h2;exact absurd h h2
 ·rename_i h1;exact absurd h h1
def quz(x0 x1 x2 x3:R):Int:=if q6t x0 x1=0 then (if x2.length=x0.length/\x3.length=x1.length then q2N (qv1 x0 x1 x2 x3) x0.length else 8) else q6t x0 x1
structure Gv (x0 x1 x2 x3:R):Prop where
 j:Jt x0 x1
 e2:x2.length=x0.length
 e3:x3.length=x0.length
 g:∀i,i<x0.length->qv1 x0 x1 x2 x3 i=0
theorem qqO {x0 x1 x2 x3:R}(h:quz x0 x1 x2 x3=0):Gv x0 x1 x2 x3:=by
 unfold quz at h;split at h
 ·rename_i h1;have j:=q8J h1;split at h
  ·rename_i h2;exact⟨j,h2.1,h2.2.trans j.e,fun i hi=>qcO h i hi⟩
  ·omega
 ·rename_i h1;exact absurd h h1
def qif(x0 x2 x3:R)(i:Nat):Int:=if cB x0 i 6=true then cI x3 i 2-cI x2 i 2 else cI x2 i 2-cI x3 i 2
def zA(x0 x2 x3:R)(i:Nat):DQ:=zD (cI x3 i 0-cI x2 i 0) (cI x3 i 1-cI x2 i 1) (qif x0 x2 x3 i)
def zAT(x0 x2 x3:R)(k:Nat):List DQ:=(List.range k).map (zA x0 x2 x3)
theorem qu7 (x0 x2 x3:R)(k:Nat):zAT x0 x2 x3 (k+1)=zAT x0 x2 x3 k++[zA x0 x2 x3 k]:=by unfold zAT;rw[List.range_succ,qyS];rfl
theorem qnf (x0 x2 x3:R)(k:Nat):(zAT x0 x2 x3 k).length=k:=by simp[zAT]
def qjE(x0 x2 x3:R):Option Nat:=q2S (fun i=>if qif x0 x2 x3 i<0 then some i else none) 0 x0.length
structure GvN (x0 x2 x3:R) (i:Nat):Prop where
 ax:-100000<=cI x2 i 0/\cI x2 i 0<=100000
 ay:-100000<=cI x2 i 1/\cI x2 i 1<=100000
 sa:1<=cI x2 i 2/\cI x2 i 2<=100000
 bx:-100000<=cI x3 i 0/\cI x3 i 0<=100000
 by_:-100000<=cI x3 i 1/\cI x3 i 1<=100000
 sb:1<=cI x3 i 2/\cI x3 i 2<=100000
 pl:-100000<=qif x0 x2 x3 i/\qif x0 x2 x3 i<=100000
theorem Gv.num {x0 x1 x2 x3:R}(h:Gv x0 x1 x2 x3)(hi:i<x0.length):GvN x0 x2 x3 i:=by obtain⟨h1,h2,_,_⟩:=qss (h.g i hi);obtain⟨a1,a2,a3,a4,a5,a6⟩:=qeJ h1;obtain⟨b1,b2,b3,b4,b5,b6⟩:=qeJ h2;refine⟨⟨a1,a2⟩,⟨a3,a4⟩,⟨a5,a6⟩,⟨b1,b2⟩,⟨b3,b4⟩,⟨b5,b6⟩,?_⟩;unfold qif;split<;>omega
theorem Gv.gd {x0 x1 x2 x3:R}(h:Gv x0 x1 x2 x3)(hi:i<x0.length):GD (zA x0 x2 x3 i):=by have n:=h.num hi;obtain⟨n1,n2,n3,n4,n5,n6,n7⟩:=n;exact qx3 (by omega) (by omega) (by omega)
theorem Gv.gds {x0 x1 x2 x3:R}(h:Gv x0 x1 x2 x3):GDs (zAT x0 x2 x3 x0.length):=fun d hd=>by obtain⟨i,hi,rfl⟩:=qyy.1 hd;exact h.gd (qyR.1 hi)
theorem Gv.nez {x0 x1 x2 x3:R}(h:Gv x0 x1 x2 x3):zAT x0 x2 x3 x0.length≠[]:=by intro e;have:=congrArg List.length e;rw[qnf] at this;exact h.j.ne this
theorem Gv.nn {x0 x1 x2 x3:R}(h:Gv x0 x1 x2 x3):∀d∈zAT x0 x2 x3 x0.length,0<=d.s:=fun d hd=>(h.gds d hd).nn
end Go.Eng

namespace Go.Eng
theorem qdk{p:Nat->Bool}:∀{n:Nat},(qh (pick p n)=0)↔∀i,i<n->p i=false
 | 0=>by simp[pick,qh]
 | n+1=>by
  have ih:=qdk (p:=p) (n:=n);unfold pick;by_cases hp:p n=true
  ·rw[if_pos hp];constructor
   ·intro h;unfold qh q1i at h;simp at h;omega
   ·intro h;rw[h n (by omega)] at hp;cases hp
  ·have hp':p n=false:=by simpa using hp
   rw[if_neg hp,ih];constructor
   ·intro h i hi;rcases qxG i n with h'|h'
    ·exact h i h'
    ·obtain rfl:i=n:=by omega
     exact hp'
   ·intro h i hi;exact h i (by omega)
def qw0(a0 a1 a2 a3 a4 a5:Int)(a6:Bool)(b0 b1 b2 b3 b4 b5:Int)(b6:Bool):Int:=if chk a0 a1 a2 a3 a4 a5 a6=0 then (if chk b0 b1 b2 b3 b4 b5 b6=0 then (if a5=1/\b5=1 then (if (a0=b0/\a1=b1)/\a6≠b6 then 0 else 16) else 14) else chk b0 b1 b2 b3 b4 b5 b6) else chk a0 a1 a2 a3 a4 a5 a6
theorem qpZ(e:Nat->Int):q2N e 2=if e 0=0 then e 1 else e 0:=by
 unfold q2N q2S q2S q2S qge;by_cases h0:e 0=0
 ·by_cases h1:e 1=0<;>simp[h0,h1]
 ·simp[h0]
theorem qgV(a0 a1 a2 a3 a4 a5:Int)(a6:Bool)(b0 b1 b2 b3 b4 b5:Int)(b6:Bool) :(uc [.i a0,.i a1,.i a2,.i a3,.i a4,.i a5,.b a6,.i b0,.i b1,.i b2,.i b3,.i b4,.i b5,.b b6]).run=some (0,[.i (qw0 a0 a1 a2 a3 a4 a5 a6 b0 b1 b2 b3 b4 b5 b6)]):=by
 rw[qfY];have key:=qdv (S:=jq) (fun i=>[.i 2,.i (i:Int),.i a0,.i a1,.i a2,.i a3,.i a4,.i a5,.b a6,.i b0,.i b1,.i b2,.i b3,.i b4,.i b5,.b b6,.r [[.i a0,.i a1,.i a2,.i a3,.i a4,.i a5,.b a6],[.i b0,.i b1,.i b2,.i b3,.i b4,.i b5,.b b6]]])
  (fun i=>if i=0 then chk a0 a1 a2 a3 a4 a5 a6 else chk b0 b1 b2 b3 b4 b5 b6) [] [.i a0,.i a1,.i a2,.i a3,.i a4,.i a5,.b a6,.i b0,.i b1,.i b2,.i b3,.i b4,.i b5,.b b6] 2 (by omega) (fun i hi=>by
  rw[q6U];simp only[q58,STD];rcases (show i=0\/i=1 by omega) with rfl|rfl
  ·rw[if_pos (show ((0:Nat):Int)<2 by omega),if_pos (show (0:Int)<=((0:Nat):Int)/\((0:Nat):Int)<qh [[U.i a0,.i a1,.i a2,.i a3,.i a4,.i a5,.b a6],[.i b0,.i b1,.i b2,.i b3,.i b4,.i b5,.b b6]] from⟨by omega,by show (0:Int)<2;omega⟩)];by_cases hc:chk a0 a1 a2 a3 a4 a5 a6=0
   ·rw[if_pos (show (if (0:Nat)=0 then chk a0 a1 a2 a3 a4 a5 a6 else chk b0 b1 b2 b3 b4 b5 b6)=0 from hc)];exact if_neg (fun h=>h hc)
   ·rw[if_neg (show ¬(if (0:Nat)=0 then chk a0 a1 a2 a3 a4 a5 a6 else chk b0 b1 b2 b3 b4 b5 b6)=0 from hc)];exact if_pos hc
  ·rw[if_pos (show ((1:Nat):Int)<2 by omega),if_pos (show (0:Int)<=((1:Nat):Int)/\((1:Nat):Int)<qh [[U.i a0,.i a1,.i a2,.i a3,.i a4,.i a5,.b a6],[.i b0,.i b1,.i b2,.i b3,.i b4,.i b5,.b b6]] from⟨by omega,by show (1:Int)<2;omega⟩)];by_cases hc:chk b0 b1 b2 b3 b4 b5 b6=0
   ·rw[if_pos (show (if (1:Nat)=0 then chk a0 a1 a2 a3 a4 a5 a6 else chk b0 b1 b2 b3 b4 b5 b6)=0 from hc)];exact if_neg (fun h=>h hc)
   ·rw[if_neg (show ¬(if (1:Nat)=0 then chk a0 a1 a2 a3 a4 a5 a6 else chk b0 b1 b2 b3 b4 b5 b6)=0 from hc)];exact if_pos hc) (by rw[q6U];simp only[STD,show ¬(((2:Nat):Int)<2) by omega])
 rw[qpZ] at key;simp only[show ((1:Nat)=0)=False by simp,if_true,if_false] at key;have key':(qm jq [.i (qh [[U.i a0,.i a1,.i a2,.i a3,.i a4,.i a5,.b a6],[.i b0,.i b1,.i b2,.i b3,.i b4,.i b5,.b b6]]),.i 0,.i a0,.i a1,.i a2,.i a3,.i a4,.i a5,.b a6,.i b0,.i b1,.i b2,.i b3,.i b4,.i b5,.b b6,.r [[.i a0,.i a1,.i a2,.i a3,.i a4,.i a5,.b a6],[.i b0,.i b1,.i b2,.i b3,.i b4,.i b5,.b b6]]]).run=_:=key;unfold qw0;by_cases ha:chk a0 a1 a2 a3 a4 a5 a6=0
 ·by_cases hb:chk b0 b1 b2 b3 b4 b5 b6=0
  ·simp only[ha,hb,if_true] at key';simp only[STD,key',wY key',ha,hb];by_cases c1:a5=1<;>by_cases c2:b5=1<;>by_cases c3:a0=b0<;>by_cases c4:a1=b1<;>by_cases c5:a6=b6<;>simp[c1,c2,c3,c4,c5]
  ·simp only[ha,hb,if_true,if_false] at key';simp only[STD,key',wY key',ha,hb];rfl
 ·simp only[ha,if_false] at key';simp only[STD,key',wY key',ha];rfl
theorem q6Z(l m:R):(qh l=qh m)=(l.length=m.length):=by unfold qh;exact propext ⟨fun h=>by omega,fun h=>by omega⟩
theorem qrm(l:R)(n:Nat):((n:Int)<qh l)=(n<l.length):=by unfold qh;exact propext ⟨fun h=>by omega,fun h=>by omega⟩
theorem j0(x0 x1:R)(h:x0.length<9223372036854775808):(wR [.r x0,.r x1]).run=some (0,[.i (q6t x0 x1)]):=by
 rw[qeq];unfold q6t;have g:=qrm x0 16;simp only[show ((16:Nat):Int)=16 from rfl] at g;by_cases h0:x0.length=0
 ·simp only[STD,q2w,h0]
 by_cases h1:16<x0.length
 ·simp only[STD,q2w,h0,g,h1]
 by_cases h2:x1.length=x0.length
 ·have key:=qdv (S:=jv) (fun i=>[.i (qh x0),.i (i:Int),.r x0,.r x1]) (ql3 x0 x1) [] [] x0.length h (fun i hi=>by
   rw[q4z];have a1:(i:Int)<qh x0:=by unfold qh;omega
   have a2:(i:Int)<qh x1:=by unfold qh;omega
   simp only[STD,a1,a2,q0y,and_self,q5J hi h,qgV];show (if ¬ql3 x0 x1 i=0 then some (2,[PV.i (ql3 x0 x1 i)]) else _)=_;by_cases c:ql3 x0 x1 i=0
   ·rw[if_neg (fun z=>z c),if_pos c]
   ·rw[if_pos c,if_neg c]) (by
   rw[q4z];simp only[STD,show ¬((x0.length:Int)<qh x0) by unfold qh;omega])
  simp only[show (((0:Nat)):Int)=0 from rfl] at key;by_cases c:q2N (ql3 x0 x1) x0.length=0
  ·rw[if_pos c] at key;simp only[STD,q2w,h0,g,h1,q6Z,h2,key,wY key,c]
  ·rw[if_neg c] at key;simp only[STD,q2w,h0,g,h1,q6Z,h2,key,wY key];rfl
 ·simp only[STD,q2w,h0,g,h1,q6Z,h2,show ¬(x0.length=x1.length) from fun e=>h2 e.symm]
structure JtN (x0 x1:R) (i:Nat):Prop where
 ga:-100000<=gau x0 i/\gau x0 i<=200000
 gb:-100000<=gau x1 i/\gau x1 i<=200000
 t0:qrs x0 i=0
 t1:qrs x1 i=0
 m0:cI x0 i 5=1
 m1:cI x1 i 5=1
theorem Jt.num{x0 x1:R}(h:Jt x0 x1){i:Nat}(hi:i<x0.length):JtN x0 x1 i:=by obtain⟨t0,t1,⟨m0,m1⟩,_,_⟩:=qpM (h.p i hi);obtain⟨a1,a2,a3,a4,a5,a6,a7,a8,a9,a10,a11,_⟩:=qgu t0;obtain⟨b1,b2,b3,b4,b5,b6,b7,b8,b9,b10,b11,_⟩:=qgu t1;refine⟨?_,?_,t0,t1,m0,m1⟩<;>unfold gau<;>split<;>omega
def qrJ(x0 x1:R):List PV:=if q6t x0 x1=0 then [.r (mgL x0 x1 x0.length),.i 0] else [.r [],.i (q6t x0 x1)]
theorem qls{l:R}{i:Nat}(ht:qrs l i=0)(hm:cI l i 5=1):(vA [.i (cI l i 0),.i (cI l i 1),.i (cI l i 2),.i (cI l i 3),.i (cI l i 4),.i (cI l i 5),.b (cB l i 6)]).run=some (0,[.i (gau l i),.i 0]):=by rw[qh5];have t:chk (cI l i 0) (cI l i 1) (cI l i 2) (cI l i 3) (cI l i 4) (cI l i 5) (cB l i 6)=0:=ht;rw[if_pos t,qwB hm]
theorem qgt{l:R}{n:Nat}(h:l.length<=n)(hn:n<=1000000)(x:U):qh l+qh [[x]]<=17592186044416:=by rw[qth];unfold qh;omega
theorem qde(x0 x1:R)(h:x0.length<9223372036854775808):(jU [.r x0,.r x1]).run=some (0,qrJ x0 x1):=by
 rw[qcr];unfold qrJ;by_cases hc:q6t x0 x1=0
 ·have j:=q8J hc;have hn:=j.n;have key:=wG (S:=wM) (fun i=>[.r x0,.i (qh x0),.i (i:Int),.r x0,.r x1,.r (mgL x0 x1 i)]) (0,[.r (mgL x0 x1 x0.length)]) x0.length h (fun i hi=>by
   rw[q3M];have a1:(i:Int)<qh x0:=by unfold qh;omega
   have a2:(i:Int)<qh x1:=by unfold qh;have:=j.e;omega
   have n:=j.num hi;obtain⟨n1,n2,n3,n4,n5,n6⟩:=n;have v0:=qls n3 n5;have v1:=qls n4 n6;have w0:wT .i64 0 0=0:=by decide
   have w1:q3e .i64 (gau x0 i) (gau x1 i)=gau x0 i-gau x1 i:=yN (by omega);have w2:q3e .i64 (gau x1 i) (gau x0 i)=gau x1 i-gau x0 i:=yN (by omega);have room:=fun x=>qgt (l:=mgL x0 x1 i) (n:=16) (by unfold mgL;rw[q3z];omega) (by omega) x;simp only[STD,a1,a2,q0y,and_self,v0,v1,w0,w1,w2,q5J hi h,room];have m:q1i (mgL x0 x1 i) [[.i (mgA x0 x1 i)]]=mgL x0 x1 (i+1):=qa8 _ i;rw[<-m];unfold mgA;cases cB x0 i 6<;>rfl) (by
   rw[q3M];simp only[STD,show ¬((x0.length:Int)<qh x0) by unfold qh;omega])
  have key':(qm wM [.r x0,.i (qh x0),.i 0,.r x0,.r x1,.r []]).run=some (0,[.r (mgL x0 x1 x0.length)]):=key;simp only[STD,j0 x0 x1 h,hc,key',wY key']
 ·simp only[STD,j0 x0 x1 h,hc]
theorem qbT(l:R)(h:l.length<=1000000):(qg [.r l]).run=some (0,[.r (pick (fun i=>decide (cI l i 0<0)) l.length)]):=by
 rw[uX];have key:=wG (S:=ql) (fun i=>[.r l,.i (qh l),.i (i:Int),.r (pick (fun i=>decide (cI l i 0<0)) i)]) (0,[.r (pick (fun i=>decide (cI l i 0<0)) l.length)]) l.length (by omega) (fun i hi=>by
  rw[wo];have a1:(i:Int)<qh l:=by unfold qh;omega
  have pl:=qkG (fun i=>decide (cI l i 0<0)) i;have room:=qgt (l:=pick (fun i=>decide (cI l i 0<0)) i) (n:=i) pl (by omega) (.i (i:Int));simp only[STD,a1,q0y,and_self,qby,q5J hi (by omega),room,pick];by_cases c:cI l i 0<0
  ·simp only[c,if_true]
  ·simp only[c,if_false]) (by
  rw[wo];simp only[STD,show ¬((l.length:Int)<qh l) by unfold qh;omega])
 have key':(qm ql [.r l,.i (qh l),.i 0,.r []]).run=some (0,[.r (pick (fun i=>decide (cI l i 0<0)) l.length)]):=key;simp only[STD,key']
def qv8(x0 x1:R):List PV:=if q6t x0 x1=0 then [.b (qtl x0 x1),.i 0] else [.b false,.i (q6t x0 x1)]
theorem qrR(x0 x1:R)(n:Nat):(mgL x0 x1 n).length=n:=by unfold mgL;exact q3z _ _
theorem qut(x0 x1:R){n i:Nat}(h:i<n):cI (mgL x0 x1 n) i 0=mgA x0 x1 i:=by unfold mgL;rw[q66 _ h];rfl
theorem qre(x0 x1:R):ieq (qh (pick (fun i=>decide (cI (mgL x0 x1 x0.length) i 0<0)) x0.length)) 0=qtl x0 x1:=by
 unfold ieq qtl;rw[Bool.eq_iff_iff,beq_iff_eq,qdk,decide_eq_true_iff];constructor
 ·intro hh i hi;have:=hh i hi;rw[decide_eq_false_iff_not,qut x0 x1 hi] at this;omega
 ·intro hh i hi;have:=hh i hi;rw[decide_eq_false_iff_not,qut x0 x1 hi];omega
theorem qhH(x0 x1:R)(h:x0.length<9223372036854775808):(kZ [.r x0,.r x1]).run=some (0,qv8 x0 x1):=by
 rw[qgh];unfold qv8;have m:=qde x0 x1 h;unfold qrJ at m;by_cases hc:q6t x0 x1=0
 ·have j:=q8J hc;rw[if_pos hc] at m;have f:=qbT (mgL x0 x1 x0.length) (by rw[qrR];have:=j.n;omega);rw[qrR] at f;simp only[STD,m,hc,f];rw[qre]
 ·rw[if_neg hc] at m;simp only[STD,m,hc]
theorem qt5(l c:R)(i:Nat)(x y:Int):(w9 [.i (cI l i 0),.i (cI l i 1),.i (cI l i 2),.i (cI l i 3),.i (cI l i 4),.i (cI l i 5),.b (cB l i 6),.i x,.i y,.i (cI c i 2)]).run=some (0,[.b (decide (qu6 l c i))]):=by
 rw[qeg];unfold qu6;by_cases h1:cI l i 2<=cI c i 2
 ·by_cases h2:cI c i 2<=cI l i 3
  ·simp only[STD,h1,h2,and_self,decide_true];rw[show ile (cI c i 2) (cI l i 3)=true from by simp[ile,h2]]
  ·simp only[STD,h1,h2,and_false,decide_false];rw[show ile (cI c i 2) (cI l i 3)=false from by simp[ile];omega]
 ·simp only[STD,h1,false_and,decide_false]
theorem qul{l c:R}{i:Nat}(ht:qrs l i=0):∃d,(z7 [.i (cI l i 0),.i (cI l i 1),.i (cI l i 2),.i (cI l i 3),.i (cI l i 4),.i (cI l i 5),.b (cB l i 6),.i (cI c i 0),.i (cI c i 1),.i (cI c i 2)]).run=some (0,[.i d,.i (qqt c i)]):=by
 rw[qg0];have t:chk (cI l i 0) (cI l i 1) (cI l i 2) (cI l i 3) (cI l i 4) (cI l i 5) (cB l i 6)=0:=ht;have e:qld (cI l i 0) (cI l i 1) (cI l i 2) (cI l i 3) (cI l i 4) (cI l i 5) (cB l i 6) (cI c i 0) (cI c i 1) (cI c i 2)=qqt c i:=by unfold qld;rw[if_pos t];rfl
 rw[e];by_cases hr:qqt c i=0
 ·rw[if_pos hr];exact⟨_,by rw[hr]⟩
 ·rw[if_neg hr];exact⟨_,rfl⟩
theorem q36(x0 x1 x2 x3:R)(h:x0.length<9223372036854775808):(yQ [.r x0,.r x1,.r x2,.r x3]).run=some (0,[.i (quz x0 x1 x2 x3)]):=by
 rw[qe1];unfold quz;by_cases hc:q6t x0 x1=0
 ·have j:=q8J hc;have je:=j.e;by_cases h2:x2.length=x0.length
  ·by_cases h3:x3.length=x1.length
   ·have key:=qdv (S:=j5) (fun i=>[.i (qh x0),.i (i:Int),.r x0,.r x1,.r x2,.r x3]) (qv1 x0 x1 x2 x3) [] [] x0.length h (fun i hi=>by
     rw[q3O];have a0:(i:Int)<qh x0:=by unfold qh;omega
     have a1:(i:Int)<qh x1:=by unfold qh;omega
     have a2:(i:Int)<qh x2:=by unfold qh;omega
     have a3:(i:Int)<qh x3:=by unfold qh;omega
     have n:=j.num hi;obtain⟨d0,v0⟩:=qul (c:=x2) n.t0;obtain⟨d1,v1⟩:=qul (c:=x3) n.t1;simp only[STD,a0,a1,a2,a3,q0y,and_self,v0,v1,qt5,q5J hi h];unfold qv1;by_cases c1:qqt x2 i=0
     ·by_cases c2:qqt x3 i=0
      ·by_cases c3:qu6 x0 x2 i
       ·by_cases c4:qu6 x1 x3 i<;>simp[c1,c2,c3,c4]
       ·simp[c1,c2,c3]
      ·simp[c1,c2]
     ·simp[c1]) (by
     rw[q3O];simp only[STD,show ¬((x0.length:Int)<qh x0) by unfold qh;omega])
    simp only[show (((0:Nat)):Int)=0 from rfl] at key;by_cases c:q2N (qv1 x0 x1 x2 x3) x0.length=0
    ·rw[if_pos c] at key;simp only[STD,j0 x0 x1 h,hc,q6Z,h2,h3,key,wY key,c,and_self]
    ·rw[if_neg c] at key;simp only[STD,j0 x0 x1 h,hc,q6Z,h2,h3,key,wY key,and_self];rfl
   ·simp only[STD,j0 x0 x1 h,hc,q6Z,h2,h3,and_false]
  ·simp only[STD,j0 x0 x1 h,hc,q6Z,h2,false_and]
 ·simp only[STD,j0 x0 x1 h,hc]
def plL(x0 x2 x3:R)(n:Nat):R:=wJ (fun i=>[.i (qif x0 x2 x3 i)]) n
theorem qgI(x0 x2 x3:R)(n:Nat):(plL x0 x2 x3 n).length=n:=by unfold plL;exact q3z _ _
theorem qux(x0 x2 x3:R){n i:Nat}(h:i<n):cI (plL x0 x2 x3 n) i 0=qif x0 x2 x3 i:=by unfold plL;rw[q66 _ h];rfl
theorem qmM{x0 x1 x2 x3:R}(g:Gv x0 x1 x2 x3):(vX [.r x0,.r x1,.r x2,.r x3]).run=some (0,[.r (plL x0 x2 x3 x0.length)]):=by
 rw[qeF];have hn:=g.j.n;have key:=wG (S:=vJ) (fun i=>[.r x0,.i (qh x0),.i (i:Int),.r x2,.r x3,.r (plL x0 x2 x3 i)]) (0,[.r (plL x0 x2 x3 x0.length)]) x0.length (by omega) (fun i hi=>by
  rw[q5B];have a0:(i:Int)<qh x0:=by unfold qh;omega
  have a2:(i:Int)<qh x2:=by unfold qh;have:=g.e2;omega
  have a3:(i:Int)<qh x3:=by unfold qh;have:=g.e3;omega
  obtain⟨_,_,n3,_,_,n6,_⟩:=g.num hi;have w1:q3e .i64 (cI x2 i 2) (cI x3 i 2)=cI x2 i 2-cI x3 i 2:=yN (by omega);have w2:q3e .i64 0 (cI x2 i 2-cI x3 i 2)=cI x3 i 2-cI x2 i 2:=by rw[qsn (by omega)];omega
  have room:=fun x=>qgt (l:=plL x0 x2 x3 i) (n:=16) (by rw[qgI];omega) (by omega) x;simp only[STD,a0,a2,a3,q0y,and_self,w1,w2,q5J hi (show x0.length<9223372036854775808 by omega),room];have m:q1i (plL x0 x2 x3 i) [[.i (qif x0 x2 x3 i)]]=plL x0 x2 x3 (i+1):=qa8 _ i;rw[<-m];unfold qif;cases cB x0 i 6<;>rfl) (by
  rw[q5B];simp only[STD,show ¬((x0.length:Int)<qh x0) by unfold qh;omega])
 have key':(qm vJ [.r x0,.i (qh x0),.i 0,.r x2,.r x3,.r []]).run=some (0,[.r (plL x0 x2 x3 x0.length)]):=key;simp only[STD,key']
theorem qvI(l m:List DQ):rD (l++m)=rD l++rD m:=qyS
theorem qsK(l:List DQ)(d:DQ):q1i (rD l) [[.s (tQ d.x),.s (tQ d.y),.s (tQ d.s)]]=rD (l++[d]):=by rw[qvI];rfl
theorem qvc(x0 x2 x3:R){i n:Nat}(hi:i<n)(hn:n<=16)(x:List U):qh (rD (zAT x0 x2 x3 i))+qh [x]<=2932031007402:=by rw[uh,qnf];unfold qh;simp;omega
theorem qtn{n:Int}(h:qxw n):bnd 10 10 (Rat.divInt n 2):=by
 have m:=q6C n 2;have l:=qoo (x:=n) h;have d:dl 2=1:=by decide
 have e:Rat.divInt n 2=mkRat n 2:=rfl;rw[e];unfold bnd qn qd;omega
theorem qg6{x0 x1 x2 x3:R}(g:Gv x0 x1 x2 x3):(uO [.r x0,.r x1,.r x2,.r x3]).run=some (0,[.r (rD (zAT x0 x2 x3 x0.length))]):=by
 rw[qet];have hn:=g.j.n;have key:=wG (S:=vO) (fun i=>[.r (plL x0 x2 x3 x0.length),.i (qh (plL x0 x2 x3 x0.length)),.i (i:Int),.r x2,.r x3,.r (rD (zAT x0 x2 x3 i))]) (0,[.r (rD (zAT x0 x2 x3 x0.length))]) x0.length (by omega) (fun i hi=>by
  rw[q6c];have a1:(i:Int)<qh (plL x0 x2 x3 x0.length):=by unfold qh;rw[qgI];omega
  have a2:(i:Int)<qh x2:=by unfold qh;have:=g.e2;omega
  have a3:(i:Int)<qh x3:=by unfold qh;have:=g.e3;omega
  obtain⟨n1,n2,n3,n4,n5,n6,n7⟩:=g.num hi;have w1:q3e .i64 (cI x3 i 0) (cI x2 i 0)=cI x3 i 0-cI x2 i 0:=yN (by omega);have w2:q3e .i64 (cI x3 i 1) (cI x2 i 1)=cI x3 i 1-cI x2 i 1:=yN (by omega);have o:=qqn (m:=qif x0 x2 x3 i) (n:=2) (by omega) (by omega) (by omega);have hb:=qtn (n:=qif x0 x2 x3 i) (by unfold qxw;omega);have m:=qio hb hb (by omega) (by omega);have u1:=qdM (m:=cI x3 i 0-cI x2 i 0) (by omega);have u2:=qdM (m:=cI x3 i 1-cI x2 i 1) (by omega);have room:=fun x=>qvc x0 x2 x3 hi hn x;simp only[STD,a1,a2,a3,q0y,and_self,qux x0 x2 x3 hi,w1,w2,o,m,u1,u2,room,q5J hi (show x0.length<9223372036854775808 by omega)];have row:=qsK (zAT x0 x2 x3 i) (zA x0 x2 x3 i);rw[<-qu7] at row;rw[<-row];rfl) (by
  rw[q6c];simp only[STD,show ¬((x0.length:Int)<qh (plL x0 x2 x3 x0.length)) by unfold qh;rw[qgI];omega])
 have key':(qm vO [.r (plL x0 x2 x3 x0.length),.i (qh (plL x0 x2 x3 x0.length)),.i 0,.r x2,.r x3,.r []]).run=some (0,[.r (rD (zAT x0 x2 x3 x0.length))]):=key;simp only[STD,qmM g,key']
theorem qjI{p:Nat->Bool}:∀{n:Nat},(q2S (fun i=>if p i=true then some i else none) 0 n=none/\pick p n=[])\/∃i r,q2S (fun i=>if p i=true then some i else none) 0 n=some i/\pick p n=[.i (i:Int)]::r
 | 0=>.inl ⟨rfl,rfl⟩
 | n+1=>by
  have split:q2S (fun i=>if p i=true then some i else none) 0 (n+1)=(q2S (fun i=>if p i=true then some i else none) 0 n).or (if p n=true then some n else none):=by
   have key:∀k i,q2S (fun i=>if p i=true then some i else none) i (k+1)=(q2S (fun i=>if p i=true then some i else none) i k).or (if p (i+k)=true then some (i+k) else none):=by
    intro k;induction k with
    | zero=>intro i;simp only[q2S,qyd];by_cases c:p i=true<;>simp[c]
    | succ k ih=>
     intro i;rw[q2S];by_cases c:p i=true
     ·simp[q2S,c]
     ·have c':p i=false:=by simpa using c
      simp only[c',qy5,if_false];rw[ih (i+1)];simp only[q2S,c',qy5,if_false];rw[show i+1+k=i+(k+1) by omega]
   have:=key n 0
   rwa [qym] at this
  rcases qjI (p:=p) (n:=n) with⟨h1,h2⟩|⟨i,r,h1,h2⟩
  ·rw[split,h1];unfold pick;by_cases c:p n=true
   ·rw[if_pos c,if_pos c,h2];exact .inr ⟨n,[],rfl,rfl⟩
   ·rw[if_neg c,if_neg c,h2];exact .inl ⟨rfl,rfl⟩
  ·rw[split,h1];unfold pick;by_cases c:p n=true
   ·rw[if_pos c,if_pos c,h2];exact .inr ⟨i,r++[[.i (n:Int)]],rfl,rfl⟩
   ·rw[if_neg c,if_neg c,h2];exact .inr ⟨i,r,rfl,rfl⟩
theorem qq5(x0 x2 x3:R):(qjE x0 x2 x3=none/\pick (fun i=>decide (cI (plL x0 x2 x3 x0.length) i 0<0)) x0.length=[])\/∃i r,qjE x0 x2 x3=some i/\pick (fun i=>decide (cI (plL x0 x2 x3 x0.length) i 0<0)) x0.length=[.i (i:Int)]::r:=by
 have e:qjE x0 x2 x3=q2S (fun i=>if decide (cI (plL x0 x2 x3 x0.length) (i:Int) 0<0)=true then some i else none) 0 x0.length:=by unfold qjE;refine qeA fun j _ hj=>?_;rw[qux x0 x2 x3 (show j<x0.length by omega)];simp only[decide_eq_true_eq]
 rw[e];exact qjI
def qxa(x0 x1 x2 x3:R):List PV:=if quz x0 x1 x2 x3=0 then (qjE x0 x2 x3).elim (cW (qfI (zAT x0 x2 x3 x0.length))) (fun _=>[.b false,.i 0,.i 0,.i 0,.i 0]) else [.b false,.i 0,.i 0,.i 0,.i (quz x0 x1 x2 x3)]
theorem qhP{x0 x1 x2 x3:R}(g:Gv x0 x1 x2 x3):(qg [.r (plL x0 x2 x3 x0.length)]).run=some (0,[.r (pick (fun i=>decide (cI (plL x0 x2 x3 x0.length) i 0<0)) x0.length)]):=by
 have f:=qbT (plL x0 x2 x3 x0.length) (by rw[qgI];have:=g.j.n;omega)
 rwa [qgI] at f
theorem qcU(x0 x1 x2 x3:R)(h:x0.length<9223372036854775808):(vb [.r x0,.r x1,.r x2,.r x3]).run=some (0,qxa x0 x1 x2 x3):=by
 rw[qbA];unfold qxa;by_cases hc:quz x0 x1 x2 x3=0
 ·have g:=qqO hc;have hn:=g.j.n;have c:=qnY g.gds g.nez (by rw[qnf];omega);rcases qq5 x0 x2 x3 with⟨t1,t2⟩|⟨i,r,t1,t2⟩
  ·simp only[STD,q36 x0 x1 x2 x3 h,hc,qmM g,qhP g,t1,t2,show ¬((0:Int)<qh []) by unfold qh;simp,qg6 g,c];cases qfI (zAT x0 x2 x3 x0.length)<;>rfl
  ·simp only[STD,q36 x0 x1 x2 x3 h,hc,qmM g,qhP g,t1,t2,show ((0:Int)<qh ([U.i (i:Int)]::r)) by unfold qh;simp<;>omega]
 ·simp only[STD,q36 x0 x1 x2 x3 h,hc]
def qsW(lo hi:Int):Int:=if (-100000<=lo/\lo<=100000)/\(-100000<=hi/\hi<=100000) then (if hi<lo then 9 else 0) else 2
def thE(l:R)(i:Nat):Int:=if qsW (cI l i 0) (cI l i 1)=0 then (if cI l i 0<1 then 2 else 0) else qsW (cI l i 0) (cI l i 1)
def thC(l:R):Int:=if l.length=0 then 13 else if 16<l.length then 5 else q2N (thE l) l.length
theorem qgr(x:Int):(zF [.i x]).run=some (0,[.b (decide (-100000<=x/\x<=100000))]):=by
 rw[qct];by_cases h1:-100000<=x
 ·by_cases h2:x<=100000
  ·simp only[STD,h1,h2,and_self,decide_true];rw[show ile x 100000=true from by simp[ile,h2]]
  ·simp only[STD,h1,h2,and_false,decide_false];rw[show ile x 100000=false from by simp[ile];omega]
 ·simp only[STD,h1,false_and,decide_false]
theorem q7S(lo hi:Int):(zV [.i lo,.i hi]).run=some (0,[.i (qsW lo hi)]):=by
 rw[qdl];unfold qsW;by_cases h1:-100000<=lo/\lo<=100000
 ·by_cases h2:-100000<=hi/\hi<=100000
  ·by_cases h3:hi<lo
   ·simp only[STD,qgr,h1,h2,h3,and_self]
   ·simp only[STD,qgr,h1,h2,h3,and_self]
  ·simp only[STD,qgr,h1,h2,and_self,and_false]
 ·simp only[STD,qgr,h1,false_and]
def qh3(f:Nat->Int):Nat->Int
 | 0=>0
 | n+1=>wT .i64 (qh3 f n) (f n)
theorem quS(l:R)(i:Nat):thE l i=if qsW (cI l i 0) (cI l i 1)=0 then (if cI l i 0<1 then 2 else 0) else qsW (cI l i 0) (cI l i 1):=rfl
theorem qfe(l:R)(h:l.length<9223372036854775808):(qP [.r l]).run=some (0,[.i (thC l)]):=by
 rw[q8R];unfold thC;have g:=qrm l 16;simp only[show ((16:Nat):Int)=16 from rfl] at g;by_cases h0:l.length=0
 ·simp only[STD,q2w,h0]
 by_cases h1:16<l.length
 ·simp only[STD,q2w,h0,g,h1]
 have key:=qdv (S:=wc) (fun i=>[.r l,.i (qh l),.i (i:Int)]) (thE l) [] [] l.length h (fun i hi=>by
  rw[q0V];have a1:(i:Int)<qh l:=qhx hi;simp only[STD,a1,q0y,and_self,q7S,q5J hi h,quS];by_cases c:qsW (cI l i 0) (cI l i 1)=0
  ·by_cases d:cI l i 0<1
   ·simp[c,d]
   ·simp[c,d]
  ·simp[c]) (by
  rw[q0V];simp only[STD,qkN])
 simp only[show (((0:Nat)):Int)=0 from rfl] at key;by_cases c:q2N (thE l) l.length=0
 ·rw[if_pos c] at key;simp only[STD,q2w,h0,g,h1,key,wY key,c]
 ·rw[if_neg c] at key;simp only[STD,q2w,h0,g,h1,key,wY key,show ¬((1:Nat)=0) by omega]
def qsV(l:R)(n:Nat):Int:=qh3 (fun i=>cI l i 0) n
def qiF(l:R)(n:Nat):Int:=qh3 (fun i=>cI l i 1) n
def qkr(l:R):List PV:=if thC l=0 then [.i (qsV l l.length),.i (qiF l l.length),.i 0] else [.i 0,.i 0,.i (thC l)]
theorem qe9(l:R)(h:l.length<9223372036854775808):(jN [.r l]).run=some (0,qkr l):=by
 rw[qcl];unfold qkr;by_cases hc:thC l=0
 ·have key:=wG (S:=wN) (fun i=>[.r l,.i (qh l),.i (i:Int),.i 0,.i 0,.i (qsV l i),.i (qiF l i)]) (0,[.i 0,.i 0,.i (qsV l l.length),.i (qiF l l.length)]) l.length h (fun i hi=>by
   rw[q3N];have a1:(i:Int)<qh l:=qhx hi;simp only[STD,a1,q0y,and_self,q5J hi h];rfl) (by
   rw[q3N];simp only[STD,qkN])
  have key':(qm wN [.r l,.i (qh l),.i 0,.i 0,.i 0,.i 0,.i 0]).run=some (0,[.i 0,.i 0,.i (qsV l l.length),.i (qiF l l.length)]):=key;simp only[STD,qfe l h,hc,key']
 ·simp only[STD,qfe l h,hc]
def qnX(l m:R)(i:Nat):Bool:=decide (cI m i 0<cI l i 0\/cI l i 1<cI m i 0)
def qpr(m:R)(n:Nat):Int:=qh3 (fun i=>cI m i 0) n
theorem qs5(l m:R){i:Nat}(s:Int)(hi:i<l.length):(zU [.i (i:Int),.i (cI m i 0),.i s,.r l]).run=some (0,[.b (qnX l m i),.i (wT .i64 s (cI m i 0)),.r l]):=by
 rw[qbL];have a1:(i:Int)<qh l:=qhx hi;unfold qnX;by_cases c:cI m i 0<cI l i 0
 ·simp only[STD,a1,q0y,and_self,c,true_or,decide_true]
 ·simp only[STD,a1,q0y,and_self,c,false_or];rfl
theorem qey(l m:R)(e:m.length=l.length)(hn:l.length<=1000000):(qw [.r m,.i 0,.r l]).run=some (0,[.r (pick (qnX l m) l.length),.i (qpr m l.length),.r l]):=by
 rw[uI];have key:=wG (S:=qk) (fun i=>[.r m,.i (qh m),.i (i:Int),.i (qpr m i),.r l,.r (pick (qnX l m) i)]) (0,[.i (qpr m l.length),.r l,.r (pick (qnX l m) l.length)]) l.length (by omega) (fun i hi=>by
  rw[wu];have a1:(i:Int)<qh m:=qhx (by omega);have pl:=qkG (qnX l m) i;have room:=qgt (l:=pick (qnX l m) i) (n:=i) pl (by omega) (.i (i:Int));simp only[STD,a1,q0y,and_self,qs5 l m _ hi,q5J hi (show l.length<9223372036854775808 by omega),room,pick];cases qnX l m i<;>rfl) (by
  rw[wu];simp only[STD,show ¬((l.length:Int)<qh m) by unfold qh;omega])
 have key':(qm qk [.r m,.i (qh m),.i 0,.i 0,.r l,.r []]).run=some (0,[.i (qpr m l.length),.r l,.r (pick (qnX l m) l.length)]):=key;simp only[STD,key']
def qwW(l m:R):Prop:=∀i,i<l.length->qnX l m i=false
instance (l m:R):Decidable (qwW l m):=inferInstanceAs (Decidable (∀i,i<l.length->_))
def qmQ(l m:R):List PV:=if thC l=0 then (if m.length=l.length then (if qwW l m then [.i (qpr m l.length),.i 0] else [.i 0,.i 14]) else [.i 0,.i 8]) else [.i 0,.i (thC l)]
theorem qqA{l:R}(h:thC l=0):l.length≠0/\l.length<=16/\∀i,i<l.length->thE l i=0:=by
 unfold thC at h;split at h
 ·omega
 ·rename_i h0;split at h
  ·omega
  ·exact⟨h0,by omega,fun i hi=>qcO h i hi⟩
theorem qew(l m:R)(h:l.length<9223372036854775808):(v7 [.r l,.r m]).run=some (0,qmQ l m):=by
 rw[qdD];unfold qmQ;by_cases hc:thC l=0
 ·obtain⟨_,h16,_⟩:=qqA hc;by_cases he:m.length=l.length
  ·have f:=qey l m he (by omega);by_cases ha:qwW l m
   ·have z:qh (pick (qnX l m) l.length)=0:=qdk.2 ha;simp only[STD,qfe l h,hc,q6Z,he,f,z,ha,show ¬((0:Int)<0) by omega]
   ·have z:(0:Int)<qh (pick (qnX l m) l.length):=by have:=qo1 (pick (qnX l m) l.length);have:qh (pick (qnX l m) l.length)≠0:=fun e=>ha (qdk.1 e);omega
    simp only[STD,qfe l h,hc,q6Z,he,f,z,ha]
  ·simp only[STD,qfe l h,hc,q6Z,he]
 ·simp only[STD,qfe l h,hc]
def jA:R:=[[.i 0,.i 0,.i 100,.i 104,.i 4,.i 1,.b false],[.i 1000,.i 0,.i 100,.i 104,.i 4,.i 1,.b false]]
def jB:R:=[[.i 0,.i 0,.i 90,.i 92,.i 4,.i 1,.b true],[.i 1000,.i 0,.i 90,.i 92,.i 4,.i 1,.b true]]
def mA:R:=[[.i 2,.i 0,.i 100],[.i 998,.i 0,.i 100]]
def mB(w:Int):R:=[[.i (-w),.i 0,.i 92],[.i (1000+w),.i 0,.i 92]]
theorem quP:(q5R []).run=some (0,[.r jA,.r jB]):=by rw[qly];have L:=wG (S:=q0w) (fun i=>[.i 2,.i (i:Int),.r [[.i 0],[.i 1000]],.r (jA.take i),.r (jB.take i)]) (0,[.r jA,.r jB]) 2 (by omega) (fun i hi=>by rw[qca];rcases (show i=0\/i=1 by omega) with rfl|rfl<;>rfl) (by rw[qca];rfl);have L':(qm q0w [.i (qh [[U.i 0],[.i 1000]]),.i 0,.r [[.i 0],[.i 1000]],.r [],.r []]).run=some (0,[.r jA,.r jB]):=L;simp only[STD,L']
theorem qwx(w:Int)(h:0<=w/\w<=1000):(uR [.i w]).run=some (0,[.r mA,.r (mB w)]):=by rw[qf3,yN (by omega),vZ (by omega)];unfold mA mB;rw[show (0:Int)-w=-w by omega];rfl
theorem ej:q6t jA jB=0:=by decide +kernel
theorem es:qtl jA jB=true:=by decide +kernel
theorem eg2:quz jA jB mA (mB 2)=0:=by decide +kernel
theorem et2:qjE jA mA (mB 2)=none:=by decide +kernel
theorem ef2:(qfI (zAT jA mA (mB 2) 2)).isSome=true:=by decide +kernel
theorem em:mgL jA jB 2=[[.i 0],[.i 0]]:=by
 have h0:mgA jA jB 0=0:=by decide +kernel
 have h1:mgA jA jB 1=0:=by decide +kernel
 unfold mgL wJ;rw[show List.range 2=[0,1] from rfl];simp only[qyp,List.map_nil,h0,h1]
theorem quA:jA.length<9223372036854775808:=by show 2<_;omega
section
variable {x0 x1 x2 x3:R} {k:Nat}
end
theorem qcy:(ue []).run=some (0,[.b true]):=by
 rw[qgf];have S:=qhH jA jB quA;have T2:=qcU jA jB mA (mB 2) quA;unfold qv8 at S;unfold qxa at T2;have l2:jA.length=2:=rfl;rw[if_pos ej,es] at S;rw[if_pos eg2,et2,l2] at T2;obtain⟨w,f2⟩:∃w,qfI (zAT jA mA (mB 2) 2)=some w:=Option.isSome_iff_exists.1 ef2;rw[f2] at T2;have T2':(vb [.r jA,.r jB,.r mA,.r (mB 2)]).run=some (0,[.b true,.i (w.1:Int),.i (w.2.1:Int),.i w.2.2,.i 0]):=T2;have m2:=qwx 2 (by omega);have w0:wT .i64 0 0=0:=by decide
 simp only[STD,quP,S,T2',m2,w0]
end Go.Eng

namespace Go.Eng
def qwR:List UInt8:=[65,66,67,68,69,70,71,72,73,74]
def q3x(l:R)(i:Nat):List U:=[.s [nmC i],.s [nmC (i+1)],.i 2,.i (cI l i 0),.i (cI l i 1)]
def yo(i:Nat):List U:=[.i (i:Int),.b false]
theorem qsy:∀i:Nat,i<10->qbE qwR (i:Int) ((i+1:Nat):Int)=[nmC i]:=by decide
theorem qug:∀k:Nat,k<10->upc (nmC k)/\nmC k≠nmC (k+1):=by unfold upc;decide
def qsX(l:R):Prop:=l.length≠0/\l.length<=9/\∀i,i<l.length->1<=cI l i 0/\cI l i 0<=cI l i 1/\cI l i 1<=100000
theorem qvo{l:R}(h:thC l=0)(h9:l.length<=9):qsX l:=by
 obtain⟨h0,_,he⟩:=qqA h;refine⟨h0,h9,fun i hi=>?_⟩;have e:=he i hi;unfold thE at e;by_cases q:qsW (cI l i 0) (cI l i 1)=0
 ·rw[if_pos q] at e;unfold qsW at q;by_cases z:(-100000<=cI l i 0/\cI l i 0<=100000)/\(-100000<=cI l i 1/\cI l i 1<=100000)
  ·rw[if_pos z] at q;have a:1<=cI l i 0:=by
    by_cases y:cI l i 0<1
    ·rw[if_pos y] at e;omega
    ·omega
   by_cases y:cI l i 1<cI l i 0
   ·rw[if_pos y] at q;omega
   ·exact⟨a,by omega,z.2.2⟩
  ·rw[if_neg z] at q;omega
 ·rw[if_neg q] at e;exact absurd e q
theorem qrb(l:R)(h9:l.length<=9)(a b:Int):(qm zK [.r l,.s qwR,.r l,.i (qh l),.i 0,.i a,.i b,.i 0,.i 0,.r [],.r []]).run=some (0,[.r l,.i a,.i b,.i 0,.i 0,.r (wJ (q3x l) l.length),.r (wJ yo l.length)]):=by
 have key:=wG (S:=zK) (fun i=>[.r l,.s qwR,.r l,.i (qh l),.i (i:Int),.i a,.i b,.i 0,.i 0,.r (wJ (q3x l) i),.r (wJ yo i)]) (0,[.r l,.i a,.i b,.i 0,.i 0,.r (wJ (q3x l) l.length),.r (wJ yo l.length)]) l.length (by omega) (fun i hi=>by
  rw[q2y];have a1:(i:Int)<qh l:=qhx hi;have s1:wT .i64 (i:Int) 1=((i+1:Nat):Int):=q5J hi (by omega);have s2:wT .i64 (i:Int) 2=((i+1+1:Nat):Int):=by rw[vZ (by omega)];omega
  have t1:=qsy i (by omega);have t2:=qsy (i+1) (by omega);have e:zG qwR=10:=rfl;have r1:qh (wJ (q3x l) i)+qh [[U.s [nmC i],U.s [nmC (i+1)],U.i 2,U.i (cI l i 0),U.i (cI l i 1)]]<=2513169434916:=qh1 hi (by omega) (q3x l i);have r2:qh (wJ yo i)+qh [[U.i (i:Int),U.b false]]<=8796093022208:=qh1 hi (by omega) (yo i);have m1:q1i (wJ (q3x l) i) [[U.s [nmC i],U.s [nmC (i+1)],U.i 2,U.i (cI l i 0),U.i (cI l i 1)]]=wJ (q3x l) (i+1):=qa8 (q3x l) i;have m2:q1i (wJ yo i) [[U.i (i:Int),U.b false]]=wJ yo (i+1):=qa8 yo i;simp only[STD,a1,q0y,and_self,s1,s2,t1,t2,e,r1,r2,m1,m2,show ((i+1:Nat):Int)<=10 by omega,show (i:Int)<=((i+1:Nat):Int) by omega,show ((i+1+1:Nat):Int)<=10 by omega,show ((i+1:Nat):Int)<=((i+1+1:Nat):Int) by omega]) (by
  rw[q2y];simp only[STD,qkN])
 exact key
section
variable {l:R}
theorem qr8(h:qsX l){i:Nat}(hi:i<l.length):(ua [.s [nmC i],.s [nmC (i+1)],.i 2,.i (cI l i 0),.i (cI l i 1)]).run=some (0,[.i 0]):=by obtain⟨_,h9,hl⟩:=h;have b:=hl i hi;obtain⟨u1,u2⟩:=qug i (by omega);obtain⟨u3,_⟩:=qug (i+1) (by omega);have c:upc (nmC i)/\upc (nmC (i+1))/\nmC i≠nmC (i+1)/\(2:Int)=2/\-100000<=cI l i 0/\cI l i 0<=cI l i 1/\cI l i 1<=100000:=⟨u1,u3,u2,rfl,by omega,b.2.1,b.2.2⟩;show (if upc (nmC i)/\upc (nmC (i+1))/\nmC i≠nmC (i+1)/\(2:Int)=2/\-100000<=cI l i 0/\cI l i 0<=cI l i 1/\cI l i 1<=100000 then (.leaf (0,[.i 0]):TR) else .fail).run=_;rw[if_pos c];rfl
theorem qvi(h:qsX l):(q3Y [.r (wJ (q3x l) l.length)]).run=some (0,[.i 0]):=by
 rw[qjM];have key:=wG (S:=q16) (fun i=>[.r (wJ (q3x l) l.length),.i (l.length:Int),.i (i:Int)]) (0,[]) l.length (by have:=h.2.1;omega) (fun i hi=>by
  rw[qan];have v:=qr8 h hi;have c0:=qkS (q3x l) hi 0;have c1:=qkS (q3x l) hi 1;have c2:=q66 (q3x l) hi 2;have c3:=q66 (q3x l) hi 3;have c4:=q66 (q3x l) hi 4;have a1:(i:Int)<(l.length:Int):=by omega
  simp only[show ((q3x l i).getD 0 (.i 0)).toS=[nmC i] from rfl,show ((q3x l i).getD 1 (.i 0)).toS=[nmC (i+1)] from rfl,show ((q3x l i).getD 2 (.i 0)).toI=2 from rfl,show ((q3x l i).getD 3 (.i 0)).toI=cI l i 0 from rfl,show ((q3x l i).getD 4 (.i 0)).toI=cI l i 1 from rfl] at c0 c1 c2 c3 c4;simp only[STD,q11,a1,q0y,and_self,c0,c1,c2,c3,c4,v,q5J hi (show l.length<9223372036854775808 by have:=h.2.1;omega)]) (by
  rw[qan];simp only[STD,show ¬((l.length:Int)<(l.length:Int)) by omega])
 simp only[show (((0:Nat)):Int)=0 from rfl] at key;simp only[STD,q11,show ¬((256:Int)<(l.length:Int)) by have:=h.2.1;omega,key,wY key]
theorem qvb(h:qsX l):(q6p [.r (wJ (q3x l) l.length),.r (wJ yo l.length)]).run=some (0,[.i 0]):=by
 obtain⟨h0,h9,hl⟩:=h;have c:qwY (wJ (q3x l) l.length) (wJ yo l.length):=by
  refine⟨by rw[q3z];omega,by rw[q3z];exact h9,by rw[q3z,q3z],fun k hk=>?_,fun k hk=>?_⟩
  ·rw[q3z] at hk;exact⟨qkS (q3x l) hk 0,qkS (q3x l) hk 1,q66 (q3x l) hk 2⟩
  ·rw[q3z] at hk;exact⟨q66 yo hk 0,qqM yo hk 1⟩
 show (qmo _).run=_;unfold qmo;simp only[c,if_true];rfl
theorem qk0(h:qsX l):(uF [.r (wJ (q3x l) l.length),.r (wJ yo l.length),.i 0,.i 0]).run=some (0,[.i 0]):=by
 have k:(q43 [.r (wJ (q3x l) l.length),.r (wJ yo l.length)]).run=some (0,[.i 0]):=by rw[qkQ];simp only[STD,qvi h,qvb h]
 rw[qiC];simp only[STD,k,q7S,show qsW 0 0=0 by decide]
end
end Go.Eng

namespace Go.Eng
theorem qui(a b:Int):(zr [.i a,.i b,.i 1]).run=some (0,[.i a]):=by rw[qfx];simp only[STD,show ¬((1:Int)<0) by omega]
theorem qwO(a b:Int):(zr [.i a,.i b,.i (-1)]).run=some (0,[.i b]):=by rw[qfx];simp only[STD,show (-1:Int)<0 by omega]
theorem qsa(a b:Int):(zH [.i a,.i b,.i 1]).run=some (0,[.i b]):=by rw[qjO];simp only[STD,show q3e .i64 0 1=-1 by decide,qwO]
theorem qoA{x:Int}(h:-100000<=x/\x<=100000):q8T .i64 1 x=x:=by rw[q3i (by omega)];omega
section
variable {l:R}
theorem qj1{n i:Nat}(hi:i<n):cI (wJ yo n) (i:Int) 0=i/\cB (wJ yo n) (i:Int) 1=false:=⟨q66 yo hi 0,qqM yo hi 1⟩
theorem qhv{i:Nat}(hi:i<l.length):cI (wJ (q3x l) l.length) (i:Int) 3=cI l i 0/\cI (wJ (q3x l) l.length) (i:Int) 4=cI l i 1:=⟨q66 (q3x l) hi 3,q66 (q3x l) hi 4⟩
theorem qqJ(h:qsX l):(j7 [.r (wJ (q3x l) l.length),.r (wJ yo l.length),.i 0,.i 0]).run=some (0,[.i (qsV l l.length),.i (qiF l l.length)]):=by
 rw[qaT];obtain⟨_,h9,hl⟩:=h;have key:=wG (S:=ze) (fun i=>[.r (wJ yo l.length),.i (l.length:Int),.i (i:Int),.r (wJ (q3x l) l.length),.r (wJ yo l.length),.i 0,.i 0,.i 0,.i 0,.i (qsV l i),.i (qiF l i),.r (wJ (q3x l) l.length),.r (wJ yo l.length),.i 0,.i 0])
  (0,[.r (wJ (q3x l) l.length),.r (wJ yo l.length),.i 0,.i 0,.i 0,.i 0,.i (qsV l l.length),.i (qiF l l.length),.r (wJ (q3x l) l.length),.r (wJ yo l.length),.i 0,.i 0]) l.length (by omega) (fun i hi=>by
  rw[q0x];obtain⟨c0,c1⟩:=qj1 hi;obtain⟨d0,d1⟩:=qhv (l:=l) hi;have b:=hl i hi;have a1:(i:Int)<(l.length:Int):=by omega
  have w0:=qoA (x:=cI l i 0) (by omega);have w1:=qoA (x:=cI l i 1) (by omega);simp only[STD,q11,a1,q0y,and_self,c0,c1,d0,d1,qui,qsa,w0,w1,q5J hi (show l.length<9223372036854775808 by omega)];rfl) (by
  rw[q0x];simp only[STD,show ¬((l.length:Int)<(l.length:Int)) by omega])
 have key':(qm ze [.r (wJ yo l.length),.i (l.length:Int),.i 0,.r (wJ (q3x l) l.length),.r (wJ yo l.length),.i 0,.i 0,.i 0,.i 0,.i 0,.i 0,.r (wJ (q3x l) l.length),.r (wJ yo l.length),.i 0,.i 0]).run=_:=key;simp only[STD,q11,key']
theorem qsR(h:qsX l):(q1c [.r (wJ (q3x l) l.length),.r (wJ yo l.length),.i 0,.i 0]).run=some (0,[.i (qsV l l.length),.i (qiF l l.length),.i 0]):=by rw[qgZ];simp only[STD,qk0 h,qqJ h]
def qk1(v:Nat->Int)(i:Nat):List U:=[.i (v i)]
def qsM(l:R)(v:Nat->Int)(k i:Nat):List U:=[.i (if i<k then v i else cI l i 0)]
theorem qta(v:Nat->Int){n k:Nat}(hk:k<n):q9e (wJ (qsM l v k) n) (k:Int) 0 [.i (v k)]=wJ (qsM l v (k+1)) n:=by
 have e:(wJ (qsM l v k) n).getD k []=[.i (cI l k 0)]:=by unfold wJ qsM;simp[hk]
 unfold q9e;rw[qy1,e,show qjF [U.i (cI l k 0)] 0 [U.i (v k)]=[U.i (v k)] from rfl];apply qyc;intro i;unfold wJ qsM;rw[qzl];by_cases hi:k=i
 ·subst hi;simp[hk]
 ·rw[if_neg hi];by_cases hn:i<n
  ·simp only[qxZ,qz8 hn,qy0];by_cases hik:i<k
   ·rw[if_pos hik,if_pos (by omega)]
   ·rw[if_neg hik,if_neg (by omega)]
  ·rw[qxR (by simp;omega),qxR (by simp;omega)]
theorem qu4(v:Nat->Int)(n:Nat):wJ (qsM l v 0) n=wJ (qk1 fun i=>cI l i 0) n:=qjq fun i _=>by unfold qsM qk1;rw[if_neg (Nat.not_lt_zero i)]
theorem quR(v:Nat->Int)(n:Nat):wJ (qsM l v n) n=wJ (qk1 v) n:=qjq fun i hi=>by unfold qsM qk1;rw[if_pos hi]
theorem quf(h:qsX l)(e:Int)(v:Nat->Int)(he:(e=1/\∀i,v i=cI l i 1)\/(e=0/\∀i,v i=cI l i 0)) :(vG [.r (wJ (q3x l) l.length),.r (wJ yo l.length),.i 0,.i 0,.i e]).run=some (0,[.r (wJ (qk1 v) l.length)]):=by
 rw[qcP];obtain⟨_,h9,hl⟩:=h;have key:=wG (S:=wH) (fun i=>[.r (wJ (q3x l) l.length),.i (l.length:Int),.i (i:Int),.r (wJ (q3x l) l.length),.r (wJ yo l.length),.i 0,.i 0,.i e,.r (wJ (qk1 fun i=>cI l i 0) i)])
  (0,[.r (wJ (q3x l) l.length),.r (wJ yo l.length),.i 0,.i 0,.i e,.r (wJ (qk1 fun i=>cI l i 0) l.length)]) l.length (by omega) (fun i hi=>by
  rw[q3Z];obtain⟨d0,d1⟩:=qhv (l:=l) hi;have a1:(i:Int)<(l.length:Int):=by omega
  have r1:qh (wJ (qk1 fun i=>cI l i 0) i)+qh [[U.i (cI l i 0)]]<=17592186044416:=qh1 hi (by omega) _;have m1:q1i (wJ (qk1 fun i=>cI l i 0) i) [[U.i (cI l i 0)]]=wJ (qk1 fun i=>cI l i 0) (i+1):=qa8 _ i;simp only[STD,q11,a1,q0y,and_self,d0,m1,q5J hi (show l.length<9223372036854775808 by omega)];simp only[q11] at r1;simp only[STD,r1]) (by
  rw[q3Z];simp only[STD,show ¬((l.length:Int)<(l.length:Int)) by omega])
 have key':(qm wH [.r (wJ (q3x l) l.length),.i (l.length:Int),.i 0,.r (wJ (q3x l) l.length),.r (wJ yo l.length),.i 0,.i 0,.i e,.r []]).run=_:=key;have key2:=wG (S:=zw) (fun k=>[.r (wJ yo l.length),.i (l.length:Int),.i (k:Int),.r (wJ (q3x l) l.length),.r (wJ yo l.length),.i 0,.i 0,.i e,.r (wJ (qsM l v k) l.length),.r (wJ (q3x l) l.length),.r (wJ yo l.length),.i 0,.i 0])
  (0,[.r (wJ (q3x l) l.length),.r (wJ yo l.length),.i 0,.i 0,.i e,.r (wJ (qsM l v l.length) l.length),.r (wJ (q3x l) l.length),.r (wJ yo l.length),.i 0,.i 0]) l.length (by omega) (fun k hk=>by
  rw[q1T];obtain⟨c0,c1⟩:=qj1 hk;obtain⟨d0,d1⟩:=qhv (l:=l) hk;have a1:(k:Int)<(l.length:Int):=by omega
  have s:=qta (l:=l) v hk;rcases he with⟨rfl,hv⟩|⟨rfl,hv⟩
  ·rw[hv k] at s;simp only[STD,q11,a1,q0y,and_self,c0,c1,d0,d1,qsa,s,q5J hk (show l.length<9223372036854775808 by omega)]
  ·rw[hv k] at s;simp only[STD,q11,a1,q0y,and_self,c0,c1,d0,d1,qui,s,q5J hk (show l.length<9223372036854775808 by omega),show ¬((0:Int)=1) by omega]) (by
  rw[q1T];simp only[STD,show ¬((l.length:Int)<(l.length:Int)) by omega])
 rw[quR] at key2;have key2':(qm zw [.r (wJ yo l.length),.i (l.length:Int),.i 0,.r (wJ (q3x l) l.length),.r (wJ yo l.length),.i 0,.i 0,.i e,.r (wJ (qk1 fun i=>cI l i 0) l.length),.r (wJ (q3x l) l.length),.r (wJ yo l.length),.i 0,.i 0]).run=some (0,[.r (wJ (q3x l) l.length),.r (wJ yo l.length),.i 0,.i 0,.i e,.r (wJ (qk1 v) l.length),.r (wJ (q3x l) l.length),.r (wJ yo l.length),.i 0,.i 0]):=by rw[<-qu4 v];exact key2
 simp only[STD,q11,key',key2']
theorem qlx(h:qsX l)(b:Bool):(ka [.r (wJ (q3x l) l.length),.r (wJ yo l.length),.i 0,.i 0,.b b]).run=some (0,[.r (wJ (qk1 fun i=>cI l i (if b=true then 1 else 0)) l.length),.i 0]):=by
 rw[qhT];cases b with
 | true=>
  have k:=quf h 1 (fun i=>cI l i 1) (.inl ⟨rfl,fun _=>rfl⟩);simp only[STD,qk0 h,k]
 | false=>
  have k:=quf h 0 (fun i=>cI l i 0) (.inr ⟨rfl,fun _=>rfl⟩);simp only[STD,qk0 h,k]
end
end Go.Eng

namespace Go.Eng
theorem qhL{f g:Nat->Int}:∀n:Nat,(∀i,i<n->f i=g i)->qh3 f n=qh3 g n
 | 0,_=>rfl
 | n+1,h=>by
  unfold qh3;rw[h n (by omega),qhL n fun i hi=>h i (by omega)]
theorem qoy(v:Nat->Int){n i:Nat}(hi:i<n):cI (wJ (qk1 v) n) (i:Int) 0=v i:=q66 (qk1 v) hi 0
theorem qgR{l:R}(h:qsX l)(hc:thC l=0)(v:Nat->Int)(hv:∀i,i<l.length->cI l i 0<=v i/\v i<=cI l i 1):(v7 [.r l,.r (wJ (qk1 v) l.length)]).run=some (0,[.i (qh3 v l.length),.i 0]):=by
 have H:=qew l (wJ (qk1 v) l.length) (by have:=h.2.1;omega);unfold qmQ at H;have ha:qwW l (wJ (qk1 v) l.length):=fun i hi=>by unfold qnX;rw[qoy v hi];have:=hv i hi;exact decide_eq_false (by omega)
 rw[if_pos hc,if_pos (q3z _ _),if_pos ha] at H;rw[H];have e:qpr (wJ (qk1 v) l.length) l.length=qh3 v l.length:=qhL _ fun i hi=>qoy v hi;rw[e]
theorem qd0(x0:R)(_:UFit (.sl [(.int .i64),(.int .i64)]) (.l x0))(wex0:x0.length*16<=140737488351232):(j9 [.r x0]).run=some (0,[.b true]):=by
 have hl:x0.length<9223372036854775808:=by omega
 have H:=qe9 x0 hl;unfold qkr at H;rw[qa0];by_cases hc:thC x0=0
 ·rw[if_pos hc] at H;by_cases h9:x0.length<=9
  ·have h:=qvo hc h9;have L:=qrb x0 h9 (qsV x0 x0.length) (qiF x0 x0.length);unfold qwR at L;have A:=qsR h;have B:=qlx h false;have C:=qlx h true;have P:=qgR h hc (fun i=>cI x0 i 0) (fun i hi=>⟨qxT _,(h.2.2 i hi).2.1⟩);have Q:=qgR h hc (fun i=>cI x0 i 1) (fun i hi=>⟨(h.2.2 i hi).2.1,qxT _⟩);have n9:¬(9:Int)<qh x0:=by unfold qh;omega
   have w0:wT .i64 0 0=0:=by decide
   simp only[qy5,if_false] at B;simp only[if_true] at C;simp only[STD,H,n9,L,A,B,C,P,Q,w0,qcy];have a:qh3 (fun i=>cI x0 i 0) x0.length=qsV x0 x0.length:=rfl;have b:qh3 (fun i=>cI x0 i 1) x0.length=qiF x0 x0.length:=rfl;simp only[a,b,and_self,if_true]
  ·have n9:(9:Int)<qh x0:=by unfold qh;omega
   simp only[STD,H,n9,qcy]
 ·rw[if_neg hc] at H;simp only[STD,H,hc,qcy]
end Go.Eng

