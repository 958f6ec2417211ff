/- Texts of the proof, merged: what the code computes, and plain laws. No statement stands here. -/
import Derived.Test.YtjdhkocjkfdebaaGreatDoorG5
namespace Go.Eng
variable {n:Nat}
def dch(d:Nat):UInt8:=UInt8.ofNat (48+d)
def dv(c:UInt8):Nat:=c.toNat-48
def q6D(s:qNX):Prop:=∀c,c∈s->48<=c.toNat/\c.toNat<=57
def val(s:qNX):Nat:=s.foldl (fun a c=>10*a+dv c) 0
def tNf:Nat->Nat->List UInt8
 | 0,_=>[]
 | f+1,n=>if n<10 then [dch n] else tNf f (n/10)++[dch (n%10)]
def tN(n:Nat):List UInt8:=tNf (n+1) n
def tI(n:Int):List UInt8:=if n<0 then 45::tN n.natAbs else tN n.natAbs
theorem q2x {d:Nat}(h:d<10):(dch d).toNat=48+d:=by unfold dch;rw[UInt8.toNat_ofNat'];omega
theorem qpE {d:Nat}(h:d<10):dv (dch d)=d:=by unfold dv;rw[q2x h];omega
theorem qK1 {c:UInt8}(h1:48<=c.toNat)(h2:c.toNat<=57):dch (dv c)=c:=by apply qQ1.1;rw[q2x (by unfold dv;omega)];unfold dv;omega
theorem qni (s:qNX)(c:UInt8):val (s++[c])=10*val s+dv c:=by simp[val,List.foldl_append]
theorem qrH:∀(t:qNX) (a:Nat),t.foldl (fun a c=>10*a+dv c) a=a*10^t.length+val t
 | [],a=>by simp[val]
 | c::t,a=>by
  have h1:=qrH t (10*a+dv c);have h2:=qrH t (10*0+dv c);have h3:val (c::t)=t.foldl (fun a c=>10*a+dv c) (10*0+dv c):=rfl;rw[h3,h2,qPN,h1,qOt,qPm];grind
theorem qy6 (s t:qNX):val (s++t)=val s*10^t.length+val t:=by
 have h:val (s++t)=t.foldl (fun a c=>10*a+dv c) (val s):=by simp[val,List.foldl_append]
 rw[h,qrH]
theorem q6B (c:UInt8)(t:qNX):val (c::t)=dv c*10^t.length+val t:=by have:=qy6 [c] t;simpa[val] using this
theorem qf9:val []=0:=rfl
theorem qC2 (c:UInt8):val [c]=dv c:=by simp[val]
theorem qr4:q6D []:=fun c h=>by cases h
theorem q01 {c:UInt8}{s:qNX}:q6D (c::s)↔(48<=c.toNat/\c.toNat<=57)/\q6D s:=by unfold q6D;simp
theorem q9O {s t:qNX}:q6D (s++t)↔q6D s/\q6D t:=by unfold q6D;simp only[qOn];exact⟨fun h=>⟨fun c hc=>h c (.inl hc),fun c hc=>h c (.inr hc)⟩,fun h c hc=>hc.elim (h.1 c) (h.2 c)⟩
theorem qEJ {c:UInt8}(h:48<=c.toNat/\c.toNat<=57):dv c<10:=by unfold dv;omega
theorem q6Q:∀{s:qNX},q6D s->val s<10^s.length
 | [],_=>by simp[val]
 | c::s,h=>by
  obtain⟨h1,h2⟩:=q01.1 h;have ih:=q6Q h2;have hd:=qEJ h1;rw[q6B,qOt,qPm];have:dv c*10^s.length<=9*10^s.length:=qOq _ (by omega);omega
theorem qy4 {d:Nat}(h:d<10):q6D [dch d]:=by intro c hc;simp at hc;subst hc;rw[q2x h];omega
theorem qK0:∀(f g n:Nat),n<f->n<g->tNf f n=tNf g n
 | 0,_,n,h,_=>by omega
 | _,0,n,_,h=>by omega
 | f+1,g+1,n,h1,h2=>by
  unfold tNf;by_cases h:n<10
  ·rw[if_pos h,if_pos h]
  ·rw[if_neg h,if_neg h,qK0 f g (n/10) (by omega) (by omega)]
theorem qzZ (h:n<10):tN n=[dch n]:=by unfold tN tNf;rw[if_pos h]
theorem qBx (h:10<=n):tN n=tN (n/10)++[dch (n%10)]:=by
 have:tN n=tNf n (n/10)++[dch (n%10)]:=by show tNf (n+1) n=_;rw[tNf,if_neg (by omega)]
 rw[this,qK0 n (n/10+1) (n/10) (by omega) (by omega)];rfl
theorem qxN (n:Nat):q6D (tN n)/\tN n≠[]/\val (tN n)=n:=by
 induction n using Nat.strongRecOn with
 | _ n ih=>
  by_cases h:n<10
  ·rw[qzZ h];exact⟨qy4 h,by simp,by rw[qC2,qpE h]⟩
  ·rw[qBx (by omega)];obtain⟨h1,h2,h3⟩:=ih (n/10) (by omega);refine⟨q9O.2 ⟨h1,qy4 (by omega)⟩,by simp,?_⟩;rw[qni,h3,qpE (by omega)];omega
theorem zL (n:Nat):q6D (tN n):=(qxN n).1
theorem qta (n:Nat):tN n≠[]:=(qxN n).2.1
theorem q04 (n:Nat):val (tN n)=n:=(qxN n).2.2
theorem qkD (n:Nat):0<(tN n).length:=qPA.2 (qta n)
theorem q2r:∀(k n:Nat),n<10^(k+1)->(tN n).length<=k+1
 | 0,n,h=>by rw[qzZ (by simpa using h)];simp
 | k+1,n,h=>by
  by_cases h10:n<10
  ·rw[qzZ h10];simp
  ·rw[qBx (by omega),qOh];have:=q2r k (n/10) (by rw[qPm] at h;omega);simp;omega
theorem qA6:∀(k n:Nat),10^k<=n->k<(tN n).length
 | 0,n,_=>qkD n
 | k+1,n,h=>by
  have hp:0<10^k:=Nat.pow_pos (by omega);rw[qPm] at h;rw[qBx (by omega),qOh];have:=qA6 k (n/10) (by omega);simp;omega
theorem q6z {k n:Nat}(h:(tN n).length<=k):n<10^k:=by have:=q6Q (zL n);rw[q04] at this;exact qOG this (qPs (by omega) h)
def lead(s:qNX):Prop:=s.length=1\/s.getD 0 0≠48
theorem qCy {s:qNX}(hd:q6D s)(hn:s≠[])(h:s.getD 0 0≠48):10^(s.length-1)<=val s:=by
 cases s with
 | nil=>exact absurd rfl hn
 | cons c s=>
  obtain⟨h1,h2⟩:=q01.1 hd;simp at h;have hc:1<=dv c:=by unfold dv;have:c.toNat≠48:=fun e=>h (qQ1.1 (by simpa using e));omega
  rw[q6B,qOt,qQd];have:1*10^s.length<=dv c*10^s.length:=qOq _ hc;omega
theorem qK3:∀(n:Nat) {s:qNX},s.length=n+1->q6D s->lead s->tN (val s)=s
 | 0,s,hl,hd,_=>by
  match s,hl with
  | [c],_=>
   have h1:=(q01.1 hd).1;rw[qC2,qzZ (qEJ h1),qK1 h1.1 h1.2]
 | n+1,s,hl,hd,hz=>by
  obtain⟨i,c,rfl⟩:∃i c,s=i++[c]:=⟨s.dropLast,s.getLast (by intro h;simp[h] at hl),(List.dropLast_concat_getLast _).symm⟩;have hil:i.length=n+1:=by simpa using hl
  obtain⟨h1,h2⟩:=q9O.1 hd;have hc:=(q01.1 h2).1;have hi:i≠[]:=by intro h;simp[h] at hil
  have hz0:i.getD 0 0≠48:=by
   rcases hz with hz|hz
   ·exact absurd (by simpa using hz) hi
   ·cases i with
    | nil=>exact absurd rfl hi
    | cons a i=>simpa using hz
  have hv:1<=val i:=qO2 (Nat.one_le_pow _ _ (by omega)) (qCy h1 hi hz0);have hd10:=qEJ hc;rw[qni,qBx (n:=10*val i+dv c) (by omega),show (10*val i+dv c)/10=val i by omega,show (10*val i+dv c)%10=dv c by omega,qK1 hc.1 hc.2,qK3 n hil h1 (.inr hz0)]
theorem qtq {s:qNX}(hd:q6D s)(hn:s≠[])(hz:lead s):s=tN (val s):=(qK3 (s.length-1) (by have:=qPA.2 hn;omega) hd hz).symm
theorem qwp {m n:Nat}(h:tN m=tN n):m=n:=by rw[<-q04 m,h,q04]
theorem qF3 (n:Nat):lead (tN n):=by
 induction n using Nat.strongRecOn with
 | _ n ih=>
  by_cases h:n<10
  ·rw[qzZ h];exact .inl rfl
  ·rw[qBx (by omega)];right;by_cases h2:n/10<10
   ·rw[qzZ h2];intro e;have:(dch (n/10)).toNat=48:=by
     have e':dch (n/10)=48:=by simpa using e
     rw[e'];rfl
    rw[q2x h2] at this;omega
   ·have h3:(tN (n/10)).length≠1:=by have:=qA6 1 (n/10) (by omega);omega
    rcases ih (n/10) (by omega) with h4|h4
    ·exact absurd h4 h3
    ·cases hq:tN (n/10) with
     | nil=>exact absurd hq (qta _)
     | cons a i=>rw[hq] at h4;simpa using h4
theorem qLg (t:qNX):slt [] t=!t.isEmpty:=by cases t<;>rfl
theorem qIe (a b:UInt8)(s t:qNX):slt (a::s) (b::t)=(decide (a<b)||(a==b&&slt s t)):=by unfold slt;simp only[Op.bytesLess]
theorem qBn:∀{s t:qNX},q6D s->q6D t->s.length=t.length->((slt s t=true)=(val s<val t))
 | [],[],_,_,_=>by simp[qLg,qf9]
 | a::s,b::t,h1,h2,hl=>by
  obtain⟨ha,hs⟩:=q01.1 h1;obtain⟨hb,ht⟩:=q01.1 h2;have hl':s.length=t.length:=by simpa using hl
  have ih:=qBn hs ht hl';have v1:=q6Q hs;have v2:=q6Q ht;rw[qIe,q6B,q6B,hl'];rw[hl'] at v1;have hab:(a<b)=(dv a<dv b):=by unfold dv;rw[UInt8.lt_iff_toNat_lt];simp only[eq_iff_iff];omega
  have hab2:(a=b)=(dv a=dv b):=by unfold dv;rw[<-qQ1];simp only[eq_iff_iff];omega
  simp only[qPp,decide_eq_true_eq,qOd,beq_iff_eq,eq_iff_iff,ih,hab,hab2];generalize 10^t.length=p at *;generalize dv a=x at *;generalize dv b=y at *;constructor
  ·rintro (h|⟨rfl,h⟩)
   ·have:=qOq p (show x+1<=y by omega);rw[qOf] at this;omega
   ·omega
  ·intro h;rcases Nat.lt_trichotomy x y with h3|h3|h3
   ·exact .inl h3
   ·subst h3;exact .inr ⟨rfl,by omega⟩
   ·have:=qOq p (show y+1<=x by omega);rw[qOf] at this;omega
theorem uv {m n:Nat}(h:m<=n):(tN m).length<=(tN n).length:=by
 rcases qO6 (tN n).length (tN m).length with h1|h1
 ·have h2:=q6z (qO0 (tN n).length);have h3:0<(tN n).length:=qkD n;have:=q2r ((tN n).length-1) m (by rw[Nat.sub_add_cancel h3];omega);omega
 ·exact h1
theorem qBs (m n:Nat):((tN m).length<(tN n).length\/(tN m).length=(tN n).length/\slt (tN m) (tN n)=true)↔m<n:=by
 constructor
 ·rintro (h|⟨h1,h2⟩)
  ·rcases qO6 m n with h3|h3
   ·exact h3
   ·have:=uv h3;omega
  ·rw[qBn (zL m) (zL n) h1,q04,q04] at h2;exact h2
 ·intro h;have h1:=uv (Nat.le_of_lt h);rcases qO6 (tN m).length (tN n).length with h3|h3
  ·exact .inl h3
  ·have h4:(tN m).length=(tN n).length:=by omega
   exact .inr ⟨h4,by rw[qBn (zL m) (zL n) h4,q04,q04];exact h⟩
theorem qCS (s:qNX):val (48::s)=val s:=by rw[q6B];simp[dv]
theorem qrA (n:Nat)(s:qNX):val (List.replicate n 48++s)=val s:=by
 induction n with
 | zero=>rfl
 | succ n ih=>rw[qPn,qPo,qCS,ih]
theorem qoo (n:Nat):q6D (List.replicate n 48):=by intro c hc;rw[(qQ9.1 hc).2];decide
def rI(l:List Int):R:=l.map fun v=>[.i v]
theorem qet (l:List Int):qg (rI l)=l.length:=by simp[qg,rI]
theorem qGY (l:List Int):(rI l).length=l.length:=by simp[rI]
theorem qCc (l:List Int)(i:Int):cI (rI l) i 0=l.getD i.toNat 0:=by unfold cI zH rI;simp only[qNZ,qO8];cases l[i.toNat]?<;>rfl
theorem qET (x v:U):qAp [x] 0 [v]=[v]:=rfl
theorem qzF (l:List Int)(i v:Int):qaz (rI l) i 0 [.i v]=rI (l.set i.toNat v):=by
 unfold qaz rI;apply qOR;intro j;by_cases hj:j=i.toNat
 ·subst hj;by_cases hl:i.toNat<l.length
  ·simp[hl,qET]
  ·rw[qOl (by simp;omega),qOl (by simp;omega)]
 ·rw[qO1 (qOr hj),qO8,qO8,qO1 (qOr hj)]
theorem qlO (n v:Int):q3f n [.i v]=rI (List.replicate n.toNat v):=by simp[q3f,rI]
theorem qMW (l:List Int):qp2 (rI l)=l.map fun v=>UInt8.ofNat v.toNat:=by unfold qp2 rI;rw[List.map_map];rfl
theorem qMv (l:List Int)(i:Int)(s:qNX):qAC (rI l) i s=rI (l.take i.toNat++s.map (fun c=>(c.toNat:Int))++l.drop (i.toNat+s.length)):=by unfold qAC rI;simp[List.map_take,List.map_drop]
theorem qow (s:qNX):qp2 (rI (s.map fun c=>(c.toNat:Int)))=s:=by
 rw[qMW,List.map_map];have:((fun v:Int=>UInt8.ofNat v.toNat)∘fun c:UInt8=>(c.toNat:Int))=id:=by funext c;simp
 rw[this,List.map_id]
theorem qsZ {s:qNX}{i:Nat}(h:i<s.length):sat s (i:Int)=(s[i].toNat:Int):=by unfold sat;simp[h]
theorem zM (s t:qNX):(seq s t=true)=(s=t):=by simp[seq]
theorem qKO {x:Int}(h:48<=x/\x<=255):zY .u8 x 48=x-48:=by unfold zY IntKind.wrap;simp[IntKind.signed,IntKind.bits];omega
theorem qwr {x:Int}(h:0<=x/\x<=255):q2I .u8 x=x:=by unfold q2I IntKind.wrap;simp[IntKind.signed,IntKind.bits];omega
theorem qr0 (a b:Nat):qby (a:Int) (b:Int)=((a%b:Nat):Int):=by unfold qby;rw[Int.tmod_eq_emod_of_nonneg (by omega)];rfl
theorem qCT {a b:Nat}(h:a<9223372036854775808):qcl .i64 (a:Int) (b:Int)=((a/b:Nat):Int):=by unfold qcl;rw[Int.tdiv_eq_ediv_of_nonneg (by omega)];have:(a:Int)/(b:Int)=((a/b:Nat):Int):=rfl;have h2:a/b<=a:=qPS a b;rw[this];generalize a/b=q at *;unfold IntKind.wrap;simp[IntKind.signed,IntKind.bits];omega
theorem jh {S:List PV->TR}(I Q:Nat->List PV->Prop)(hn:n<9223372036854775808)(h:∀k ps,k<=n->I k ps->(∃k' qs,k'<k/\(S ps).run=some (0,qs)/\I k' qs)\/∃j qs,(S ps).run=some (j+1,qs)/\Q j qs) {ps:List PV} (h0:I n ps):∃j qs,(qf S ps).run=some (j,qs)/\Q j qs:=by
 have key:∀m k ps,k<=n->k<m->I k ps->∃j qs,(qmr S m ps).run=some (j,qs)/\Q j qs:=by
  intro m;induction m with
  | zero=>intro k ps _ h;omega
  | succ m ih=>
   intro k ps hk hm hI;rcases h k ps hk hI with⟨k',qs,h1,h2,h3⟩|⟨j,qs,h1,h2⟩
   ·obtain⟨j,rs,g1,g2⟩:=ih k' qs (by omega) (by omega) h3;exact⟨j,rs,by rw[qwS h2];exact g1,g2⟩
   ·exact⟨j,qs,qnh h1,h2⟩
 exact key qpA n ps (qO0 _) (Nat.lt_trans hn (by unfold qpA;decide)) h0
end Go.Eng

namespace Go.Eng
variable {i:Nat}
theorem qbQ {m:Int}(h:m<0):tI m=45::tN m.natAbs:=by unfold tI;rw[if_pos h]
theorem qlb {m:Int}(h:¬m<0):tI m=tN m.natAbs:=by unfold tI;rw[if_neg h]
theorem q1o (n:Nat):tI (n:Int)=tN n:=by rw[qlb (by omega)];rfl
theorem qBG:tN 0=[48]:=rfl
theorem qjz {s:qNX}(hd:q6D s)(hn:s≠[]):∃c t,s=c::t/\48<=c.toNat/\c.toNat<=57:=by
 cases s with
 | nil=>exact absurd rfl hn
 | cons c t=>exact⟨c,t,rfl,(q01.1 hd).1⟩
theorem qzX (m:Int):(tI m).length<=(tN m.natAbs).length+1:=by unfold tI;split<;>simp
theorem qzN (m:Int):0<(tI m).length:=by have:=qkD m.natAbs;unfold tI;split<;>simp<;>omega
theorem qyP {m n:Int}(h:tI m=tI n):m=n:=by
 have key:∀{m n:Int},m<0->¬n<0->tI m≠tI n:=by intro m n h1 h2 e;rw[qbQ h1,qlb h2] at e;obtain⟨c,t,hc,h3,h4⟩:=qjz (zL n.natAbs) (qta _);rw[hc] at e;have:=(List.cons.inj e).1;rw[<-this] at h3;exact absurd h3 (by decide)
 by_cases h1:m<0<;>by_cases h2:n<0
 ·rw[qbQ h1,qbQ h2] at h;have:=qwp (List.cons.inj h).2;omega
 ·exact absurd h (key h1 h2)
 ·exact absurd h.symm (key h2 h1)
 ·rw[qlb h1,qlb h2] at h;have:=qwp h;omega
theorem qDB (m:Int):(sat (tI m) 0=45)=(m<0):=by
 by_cases h:m<0
 ·rw[qbQ h];simp[sat,h]
 ·rw[qlb h];obtain⟨c,t,hc,h3,h4⟩:=qjz (zL m.natAbs) (qta _);rw[hc];simp[sat,h];omega
theorem wt (m:Int):(qw [.s (tI m)]).run=some (0,[.s (tN m.natAbs)]):=by
 rw[qyf];have hp:=qzN m;have hne:¬tI m=[]:=fun h=>by rw[h] at hp;simp at hp
 have h1:(0:Int)<qu (tI m):=by unfold qu;omega
 have h2:(1:Int)<=qu (tI m):=by omega
 simp only[STD,zM,hne,h1,h2,qDB,qOF,show (0:Int)<=qu (tI m) by omega,and_self,show (0:Int)<=1 by omega];by_cases h:m<0
 ·rw[if_pos h,qbQ h];simp[qdh,qu]
 ·rw[if_neg h,qlb h]
theorem vN (m:Int):(qy [.s (tI m)]).run=some (0,[.b (decide (m<0))]):=by
 rw[qu7];have hp:=qzN m;have h1:(0:Int)<qu (tI m):=by unfold qu;omega
 have h2:ieq (sat (tI m) 0) 45=decide (m<0):=by have:=qDB m;by_cases h:m<0<;>simp[ieq,h] at this ⊢<;>exact this
 simp only[STD,h1,h2,qOF,and_self]
theorem kd (n:Nat)(b:Bool)(hl:(tN n).length<=100000000):(z6 [.s (tN n),.b b]).run=some (0,[.s (tI (if b then -(n:Int) else n))]):=by
 rw[qrW];have h1:qu [45]+qu (tN n)<=140737488355328:=by show (1:Int)+((tN n).length:Int)<=_;omega
 have h0:(tN n=[48])=(n=0):=by rw[<-qBG];exact propext ⟨fun h=>qwp h,fun h=>by rw[h]⟩
 simp only[STD,zM,h1,h0];cases b with
 | false=>simp[q1o]
 | true=>
  by_cases hn:n=0
  ·subst hn;simp[tI,qBG]
  ·have:(-(n:Int))<0:=by omega
   simp[hn,qbQ this,qeJ]
theorem qd3 (m:Int)(hl:(tN m.natAbs).length<=100000000):(wI [.s (tI m)]).run=some (0,[.s (tI (-m))]):=by
 rw[qrM];simp only[STD,wt,vN,kd _ _ hl];have e:(if ¬m<0 then -(m.natAbs:Int) else (m.natAbs:Int))=-m:=by
  by_cases h:m<0
  ·rw[if_neg (by simp[h])];omega
  ·rw[if_pos (by simp[h])];omega
 rw[e]
theorem q9L {s:qNX}(h:i<s.length):val (s.take (i+1))=10*val (s.take i)+dv s[i]:=by rw[List.take_add_one,qO5 h,Option.toList_some,qni]
theorem qAh {s:qNX}(h:q6D s)(i:Nat):q6D (s.take i):=fun c hc=>h c (qQ6 hc)
theorem qGC {s:qNX}(h:q6D s)(i:Nat):q6D (s.drop i):=fun c hc=>h c (qQ7 hc)
theorem qrf {s:qNX}(h:q6D s)(hi:i<s.length):48<=s[i].toNat/\s[i].toNat<=57:=h _ (qOI hi)
theorem qCj {s:qNX}(h:q6D s)(hi:i<s.length):q2I .i64 (zY .u8 (sat s (i:Int)) 48)=(dv s[i]:Int)/\dv s[i]<10:=by have hd:=qrf h hi;rw[qsZ hi,qKO (by omega),qx8 (by omega)];unfold dv;omega
theorem qkp (m:Int)(hl:(tN m.natAbs).length<=18):(ki [.s (tI m)]).run=some (0,[.i m]):=by
 rw[qsJ];have hd:=zL m.natAbs;have k:=qq (S:=q1i) (fun i=>[.s (tI m),.i (val ((tN m.natAbs).take i):Int),.s (tN m.natAbs),.i (i:Int)]) (0,[.s (tI m),.i (m.natAbs:Int)]) (tN m.natAbs).length (by omega) (fun i hi=>by
  rw[qdF];obtain⟨e1,e2⟩:=qCj hd hi;have hv:=q6Q (qAh hd i);have hv2:10^((tN m.natAbs).take i).length<=100000000000000000:=qO2 (qPs (n:=10) (by omega) (show _<=17 by rw[qOX];omega)) (by decide);have hv3:=qOG hv hv2;clear hv hv2;have hlt:(i:Int)<qu (tN m.natAbs):=by unfold qu;omega
  have e3:qm .i64 (wL .i64 10 (val ((tN m.natAbs).take i):Int)) (dv (tN m.natAbs)[i]:Int)=((10*val ((tN m.natAbs).take i)+dv (tN m.natAbs)[i]:Nat):Int):=by rw[q0G (by omega),qK (by omega)];omega
  simp only[STD,hlt,qaW,and_self,e1,vX hi (by omega),q9L hi,e3]) (by
  rw[qdF];have:¬((tN m.natAbs).length:Int)<qu (tN m.natAbs):=by unfold qu;omega
  simp only[STD,this,qP9,q04])
 have k':(qf q1i [.s (tI m),.i 0,.s (tN m.natAbs),.i 0]).run=_:=k;have hm:m.natAbs<1000000000000000000:=qOG (q6z hl) (by decide);have hneg:m<0->zY .i64 0 (m.natAbs:Int)=m:=fun h=>by rw[qBe (by omega)];omega
 have hpos:¬m<0->(m.natAbs:Int)=m:=fun h=>by omega
 clear hm k hd;simp only[STD,wt,k',vN];by_cases h:m<0
 ·rw[if_pos h,hneg h]
 ·rw[if_neg h,hpos h]
theorem q5H (m n:Int):(jp [.s (tI m),.s (tI n)]).run=some (0,if (tN m.natAbs).length<=18/\(tN n.natAbs).length<=18 then [.i m,.i n,.b true] else [.i 0,.i 0,.b false]):=by
 rw[qtU];have e:∀t:List UInt8,(18<qu t)=¬(t.length<=18):=fun t=>by unfold qu;simp only[eq_iff_iff];omega
 by_cases h1:(tN m.natAbs).length<=18
 ·by_cases h2:(tN n.natAbs).length<=18
  ·simp only[STD,wt,e,h1,h2,qkp m h1,qkp n h2,and_self]
  ·simp only[STD,wt,e,h1,h2,and_false]
 ·simp only[STD,wt,e,h1,false_and]
theorem qxT {d:Int}(h0:0<=d)(h:d<10):qp2 [[.i (q2I .u8 (qm .i64 48 d))]]=[dch d.toNat]:=by rw[qK (by omega),qwr (by omega)];show [UInt8.ofNat (48+d).toNat]=[UInt8.ofNat (48+d.toNat)];rw[show (48+d).toNat=48+d.toNat by omega]
theorem qGR {S:List PV->TR}(hS:∀(y0:Int) (y1:qNX),S [.i y0,.s y1]=(.br (ilt 9 y0) (.br (ile ((qu (qp2 [[(.i (q2I .u8 (qm .i64 48 (qby y0 10))))]]))+(qu y1)) 140737488355328) (.leaf (0,[(.i (qcl .i64 y0 10)),(.s (qeJ (qp2 [[(.i (q2I .u8 (qm .i64 48 (qby y0 10))))]]) y1))])) .fail) (.leaf (1,[(.i y0),(.s y1)]))))(n:Nat) (hn:n<9223372036854775808):∃(a:Nat) (r:qNX),(qf S [.i (n:Int),.s []]).run=some (0,[.i (a:Int),.s r])/\a<10/\tN n=tN a++r:=by
 have hlen:(tN n).length<=19:=q2r 18 n (by omega);obtain⟨j,qs,h1,h2⟩:=jh (S:=S) (fun k ps=>∃(r:qNX),ps=[.i (k:Int),.s r]/\tN n=tN k++r) (fun j qs=>∃(a:Nat) (r:qNX),j=0/\qs=[.i (a:Int),.s r]/\a<10/\tN n=tN a++r) hn (fun k ps hk ⟨r,hps,ht⟩=>by
  subst hps;by_cases h9:k<10
  ·right;have:¬(9:Int)<(k:Int):=by omega
   exact⟨0,_,by rw[hS];simp only[STD,this],k,r,rfl,rfl,h9,ht⟩
  ·left;have h9':(9:Int)<(k:Int):=by omega
   have hr:qby (k:Int) 10=((k%10:Nat):Int):=qr0 k 10;have hq:qcl .i64 (k:Int) 10=((k/10:Nat):Int):=qCT (b:=10) (by omega);have hd:qp2 [[(.i (q2I .u8 (qm .i64 48 (qby (k:Int) 10))))]]=[dch (k%10)]:=by rw[hr,qxT (by omega) (by omega)];rfl
   have hrl:r.length<=19:=by have:=congrArg List.length ht;rw[qOh] at this;omega
   have hle:qu [dch (k%10)]+qu r<=140737488355328:=by show (1:Int)+(r.length:Int)<=_;omega
   refine⟨k/10,[.i ((k/10:Nat):Int),.s ([dch (k%10)]++r)],by omega,?_,_,rfl,?_⟩
   ·rw[hS];simp only[STD,h9',hd,hq,hle];rfl
   ·rw[ht,qBx (by omega),qOu]) (ps:=[.i (n:Int),.s []]) ⟨[],rfl,by simp⟩
 obtain⟨a,r,rfl,rfl,h3,h4⟩:=h2;exact⟨a,r,h1,h3,h4⟩
theorem qHJ {a:Nat}{r:qNX}(ha:a<10):qeJ (qp2 [[(.i (q2I .u8 (qm .i64 48 (a:Int))))]]) r=tN a++r:=by rw[qxT (by omega) (by omega),qzZ ha];rfl
theorem qMh {a:Nat}{r:qNX}(ha:a<10)(hr:r.length<=1000):qu (qp2 [[(.i (q2I .u8 (qm .i64 48 (a:Int))))]])+qu r<=140737488355328:=by rw[qxT (by omega) (by omega)];show (1:Int)+(r.length:Int)<=_;omega
theorem qJO {x:Int}(h1:-9223372036854775808<x)(h2:x<=9223372036854775807):zY .i64 0 x=-x:=qBe (by omega)
theorem qMO (n:Nat)(hn:n<9223372036854775808):(q7k [.i (n:Int)]).run=some (0,[.s (tN n)])/\(zR [.i (n:Int)]).run=some (0,[.s (tN n)]):=by
 obtain⟨a,r,h1,h2,h3⟩:=qGR quM n hn;obtain⟨a',r',h1',h2',h3'⟩:=qGR qy2 n hn;have hlen:(tN n).length<=19:=q2r 18 n (by omega);have hr:r.length<=1000:=by have:=congrArg List.length h3;rw[qOh] at this;omega
 have hr':r'.length<=1000:=by have:=congrArg List.length h3';rw[qOh] at this;omega
 have hneg:zY .i64 0 (n:Int)=-(n:Int):=qJO (by omega) (by omega);have h0:((n:Int)=-(n:Int))=(n=0):=by simp only[eq_iff_iff];omega
 have hlt:¬(n:Int)<0:=by omega
 have hz:((n:Int)=0)=(n=0):=by simp only[eq_iff_iff];omega
 constructor
 ·rw[qz5];simp only[STD,hneg,h0,hz,hlt,h1,qHJ h2,qMh h2 hr,<-h3];by_cases h:n=0<;>simp[h]
 ·rw[qru];simp only[STD,hneg,h0,hz,hlt,h1',qHJ h2',qMh h2' hr',<-h3'];by_cases h:n=0<;>simp[h]
theorem q1x (n:Int)(h1:-9223372036854775808<n)(h2:n<=9223372036854775807):(zR [.i n]).run=some (0,[.s (tI n)]):=by
 by_cases h:n<0
 ·obtain⟨a,ha⟩:∃a:Nat,n=-(a:Int):=⟨n.natAbs,by omega⟩;subst ha;have hneg:zY .i64 0 (-(a:Int))=(a:Int):=by rw[qJO (by omega) (by omega)];omega
  have hlen:(tN a).length<=19:=q2r 18 a (by omega);have ht:=qd3 (a:Int) (by simp;omega);rw[q1o] at ht;rw[qru];have e1:¬(-(a:Int)=(a:Int)):=by omega
  simp only[STD,hneg,h,e1,(qMO a (by omega)).1,ht]
 ·obtain⟨a,rfl⟩:∃a:Nat,n=(a:Int):=⟨n.toNat,by omega⟩;rw[(qMO a (by omega)).2,q1o]
theorem qhx (m n:Nat):(q4H [.s (tN m),.s (tN n)]).run=some (0,[.b (decide (m<n))]):=by
 rw[qyi];have h:=qBs m n;have e1:(qu (tN m)<qu (tN n))=((tN m).length<(tN n).length):=by unfold qu;simp only[eq_iff_iff];omega
 have e2:(qu (tN m)=qu (tN n))=((tN m).length=(tN n).length):=by unfold qu;simp only[eq_iff_iff];omega
 simp only[STD,e1,e2];by_cases h1:(tN m).length<(tN n).length
 ·have:m<n:=h.1 (.inl h1);simp[h1,this]
 ·by_cases h2:(tN m).length=(tN n).length
  ·cases hs:slt (tN m) (tN n) with
   | true=>simp[h2,h.1 (.inr ⟨h2,hs⟩)]
   | false=>
    have:¬m<n:=fun hh=>by rcases h.2 hh with h3|⟨_,h3⟩<;>simp_all
    simp[h2,this]
  ·have:¬m<n:=fun hh=>by rcases h.2 hh with h3|⟨h3,_⟩<;>omega
   simp[h1,h2,this]
end Go.Eng

namespace Go.Eng
variable {k:Nat}
theorem qpS (s:qNX)(n:Nat)(h0:0<n)(hn:n<=1000000000)(hl:s.length<=n):(q8c [.s s,.i (n:Int)]).run=some (0,[.s (List.replicate (n-s.length) 48++s)]):=by
 rw[qyu];have k:=qq (S:=q3V) (fun i=>[.s s,.i (n:Int),.i (i:Int),.r (rI (List.replicate i 48++List.replicate (n-i) 0))]) (0,[.s s,.i (n:Int),.r (rI (List.replicate n 48))]) n (by omega) (fun i hi=>by
  rw[qip];have h1:(i:Int)<(n:Int):=by omega
  have h2:(i:Int)<qg (rI (List.replicate i 48++List.replicate (n-i) 0)):=by rw[qet];simp;omega
  have h3:(List.replicate i (48:Int)++List.replicate (n-i) 0).set (i:Int).toNat 48=List.replicate (i+1) 48++List.replicate (n-(i+1)) 0:=by rw[qO9,List.set_append_right _ _ (by simp),List.length_replicate,qOK];rw[show n-i=(n-(i+1))+1 by omega,qPn,qOe,List.replicate_succ'];simp
  simp only[STD,h1,h2,qaW,and_self,vX hi (by omega),qzF,h3]) (by
  rw[qip];simp only[STD,Int.lt_irrefl,qOK,List.replicate_zero,qOZ])
 have k':(qf q3V [.s s,.i (n:Int),.i 0,.r (rI (List.replicate n 0))]).run=some (0,[.s s,.i (n:Int),.r (rI (List.replicate n 48))]):=by simpa using k
 have e1:zY .i64 (n:Int) (qu s)=((n-s.length:Nat):Int):=by rw[zc (by unfold qu;omega)];unfold qu;omega
 have e2:(0:Int)<=(n:Int):=by omega
 have e3:(n:Int)<=140737488355328:=by omega
 have e4:(0:Int)<qg (rI (List.replicate n 48)):=by rw[qet,List.length_replicate];omega
 have e5:((n-s.length:Nat):Int)<=qg (rI (List.replicate n 48)):=by rw[qet,List.length_replicate];omega
 have e6:qu s<=qB6 (qg (rI (List.replicate n 48))) ((n-s.length:Nat):Int):=by rw[qet,List.length_replicate];unfold qB6 qu;omega
 have e7:qp2 (rI (List.take ((n-s.length:Nat):Int).toNat (List.replicate n 48)++s.map (fun c=>(c.toNat:Int))++List.drop (((n-s.length:Nat):Int).toNat+s.length) (List.replicate n 48)))=List.replicate (n-s.length) 48++s:=by
  rw[qO9,List.take_replicate,List.drop_replicate,qOY (by omega),show n-(n-s.length+s.length)=0 by omega,List.replicate_zero,qOZ];have:List.replicate (n-s.length) (48:Int)=(List.replicate (n-s.length) (48:UInt8)).map fun c=>(c.toNat:Int):=by rw[List.map_replicate];rfl
  rw[this,<-qOk,qow]
 simp only[STD,qlO,qO9,e2,e3,and_self,k',e4,e5,e1,qaW,e6,qMv];rw[qO9] at e7;rw[e7]
theorem qbW {s:qNX}(hd:q6D s)(hn:s≠[])(hl:s.length<=1000000000):(uR [.s s]).run=some (0,[.s (tN (val s))]):=by
 rw[qxY];obtain⟨j,qs,h1,h2⟩:=jh (S:=q7F) (fun k ps=>∃t:List UInt8,ps=[.s t]/\t.length=k/\q6D t/\t≠[]/\val t=val s) (fun j qs=>j=0/\qs=[.s (tN (val s))]) (n:=s.length) (by omega) (fun k ps hk ⟨t,hps,hlk,hdt,hnt,hv⟩=>by
  subst hps;have hp:0<t.length:=qPA.2 hnt;have hs0:(0:Int)<qu t:=by unfold qu;omega
  rw[qth];by_cases h1:1<t.length
  ·have hs1:(1:Int)<qu t:=by unfold qu;omega
   obtain⟨c,u,rfl⟩:∃c u,t=c::u:=by
    cases t with
    | nil=>exact absurd rfl hnt
    | cons c u=>exact⟨c,u,rfl⟩
   have hsat:sat (c::u) 0=(c.toNat:Int):=by simp[sat]
   by_cases h48:c=48
   ·left;subst h48;have hu:u≠[]:=by intro h;subst h;simp at h1
    refine⟨u.length,[.s u],by simp at hlk;omega,?_,u,rfl,rfl,(q01.1 hdt).2,hu,by rw[<-hv,qCS]⟩;have hsub:qdh (48::u) 1 (qu (48::u))=u:=by simp[qdh,qu]
    have h48':(((48:UInt8).toNat:Nat):Int)=48:=rfl;simp only[STD,hs1,hs0,hsat,h48',qOF,and_self,Int.le_of_lt hs1,Int.le_of_lt hs0,show (0:Int)<=1 by omega,hsub]
   ·right;have hne:¬((c.toNat:Int)=48):=fun h=>h48 (qQ1.1 (by show c.toNat=48;omega));refine⟨0,[.s (c::u)],?_,rfl,?_⟩
    ·simp only[STD,hs1,hs0,hsat,hne,qOF,and_self]
    ·rw[<-hv,<-qtq hdt hnt (.inr (by simpa using h48))]
  ·right;have hs1:¬(1:Int)<qu t:=by unfold qu;omega
   refine⟨0,[.s t],?_,rfl,?_⟩
   ·simp only[STD,hs1]
   ·rw[<-hv,<-qtq hdt hnt (.inl (by omega))]) (ps:=[.s s]) ⟨s,rfl,rfl,hd,hn,rfl⟩
 obtain⟨rfl,rfl⟩:=h2;simp only[STD,h1]
theorem qIY {x y:UInt8}(hx:48<=x.toNat/\x.toNat<=57)(hy:48<=y.toNat/\y.toNat<=57)(c:Nat)(hc:c<=1)(add:Bool) :∃(d:UInt8) (c':Nat),(48<=d.toNat/\d.toNat<=57)/\c'<=1/\(q7N [.i x.toNat,.i y.toNat,.i (c:Int),.b add]).run=some (0,[.i d.toNat,.i (c':Int)]) /\(if add then dv x+dv y+c=dv d+10*c' else dv x+10*c'=dv y+c+dv d):=by
 have ex:q2I .i64 (zY .u8 (x.toNat:Int) 48)=(dv x:Int):=by rw[qKO (by omega),qx8 (by omega)];unfold dv;omega
 have ey:q2I .i64 (zY .u8 (y.toNat:Int) 48)=(dv y:Int):=by rw[qKO (by omega),qx8 (by omega)];unfold dv;omega
 have lx:=qEJ hx;have ly:=qEJ hy;have mk:∀v:Nat,v<10->((dch v).toNat:Int)=48+v:=fun v hv=>by rw[q2x hv];omega
 rw[qs7];simp only[STD,ex,ey];cases add with
 | true=>
  simp only[STD];have e1:qm .i64 (qm .i64 (dv x:Int) (dv y:Int)) (c:Int)=((dv x+dv y+c:Nat):Int):=by rw[qK (x:=(dv x:Int)) (by omega),qK (by omega)];omega
  rw[e1];by_cases h9:9<dv x+dv y+c
  ·have h9':(9:Int)<((dv x+dv y+c:Nat):Int):=by omega
   refine⟨dch (dv x+dv y+c-10),1,by rw[q2x (by omega)];omega,by omega,?_,by rw[qpE (by omega)];omega⟩;rw[if_pos h9',qK (by omega),zc (by omega),qwr (by omega),mk _ (by omega)];rw[show (48:Int)+((dv x+dv y+c:Nat):Int)-10=48+((dv x+dv y+c-10:Nat):Int) by omega];rfl
  ·have h9':¬(9:Int)<((dv x+dv y+c:Nat):Int):=by omega
   have h0:¬((dv x+dv y+c:Nat):Int)<0:=by omega
   refine⟨dch (dv x+dv y+c),0,by rw[q2x (by omega)];omega,by omega,?_,by rw[qpE (by omega)];omega⟩;rw[if_neg h9',if_neg h0,qK (by omega),qwr (by omega),mk _ (by omega)];rfl
 | false=>
  simp only[STD];have e1:zY .i64 (zY .i64 (dv x:Int) (dv y:Int)) (c:Int)=(dv x:Int)-dv y-c:=by rw[zc (x:=(dv x:Int)) (by omega),zc (by omega)]
  rw[e1];have h9':¬(9:Int)<(dv x:Int)-dv y-c:=by omega
  rw[if_neg h9'];by_cases h0:(dv x:Int)-dv y-c<0
  ·refine⟨dch (dv x+10-dv y-c),1,by rw[q2x (by omega)];omega,by omega,?_,?_⟩
   ·rw[if_pos h0,qK (x:=48) (by omega),qK (by omega),qwr (by omega),mk _ (by omega)];rw[show (48:Int)+((dv x:Int)-dv y-c)+10=48+((dv x+10-dv y-c:Nat):Int) by omega];rfl
   ·rw[qpE (by omega)];omega
  ·refine⟨dch (dv x-dv y-c),0,by rw[q2x (by omega)];omega,by omega,?_,?_⟩
   ·rw[if_neg h0,qK (by omega),qwr (by omega),mk _ (by omega)];rw[show (48:Int)+((dv x:Int)-dv y-c)=48+((dv x-dv y-c:Nat):Int) by omega];rfl
   ·rw[qpE (by omega)];omega
theorem qFk {s:qNX}(h:k<s.length):s.drop k=s[k]::s.drop (k+1):=(List.drop_eq_getElem_cons h)
theorem qD5 {s:qNX}(h:k<s.length):val (s.drop k)=dv s[k]*10^(s.length-(k+1))+val (s.drop (k+1)):=by rw[qFk h,q6B,qPX]
theorem qAl {a b:qNX}{n:Nat}(ha:q6D a)(hb:q6D b)(hla:a.length=n)(hlb:b.length=n)(hn:n<=100000001)(add:Bool) :∃(t:qNX) (c:Nat),(qf q2w [.s a,.s b,.b add,.i 0,.i ((n:Int)-1),.r (rI (List.replicate n 0))]).run=some (0,[.r (rI (t.map fun c=>(c.toNat:Int)))])/\q6D t/\t.length=n /\(if add then val a+val b=val t+c*10^n else val a+c*10^n=val b+val t):=by
 obtain⟨j,qs,h1,h2⟩:=jh (S:=q2w) (fun k ps=>∃(t:qNX) (c:Nat),ps=[.s a,.s b,.b add,.i (c:Int),.i ((k:Int)-1),.r (rI (List.replicate k 0++t.map fun c=>(c.toNat:Int)))]/\c<=1/\q6D t/\k+t.length=n /\
   (if add then val (a.drop k)+val (b.drop k)=val t+c*10^(n-k) else val (a.drop k)+c*10^(n-k)=val (b.drop k)+val t))
  (fun j qs=>j=0/\∃(t:qNX) (c:Nat),qs=[.r (rI (t.map fun c=>(c.toNat:Int)))]/\q6D t/\t.length=n/\(if add then val a+val b=val t+c*10^n else val a+c*10^n=val b+val t)) (n:=n) (by omega) (fun k ps hk ⟨t,c,hps,hc,hdt,hlt,hrel⟩=>by
  subst hps;rw[qqs];cases k with
  | zero=>
   right;have:¬(0:Int)<=((0:Nat):Int)-1:=by omega
   refine⟨0,[.r (rI (t.map fun c=>(c.toNat:Int)))],?_,rfl,t,c,rfl,hdt,by omega,by simpa using hrel⟩;simp only[STD,this,List.replicate_zero,qPi]
  | succ k=>
   left;have e0:((k+1:Nat):Int)-1=(k:Int):=by omega
   rw[e0];have hka:k<a.length:=by omega
   have hkb:k<b.length:=by omega
   obtain⟨d,c',hd,hc',hrun,hcol⟩:=qIY (qrf ha hka) (qrf hb hkb) c hc add;have h3:(k:Int)<qu a:=by unfold qu;omega
   have h4:(k:Int)<qu b:=by unfold qu;omega
   have h5:(k:Int)<qg (rI (List.replicate (k+1) 0++t.map fun c=>(c.toNat:Int))):=by rw[qet];simp;omega
   have h6:(List.replicate (k+1) (0:Int)++t.map fun c=>(c.toNat:Int)).set (k:Int).toNat (d.toNat:Int)=List.replicate k 0++(d::t).map fun c=>(c.toNat:Int):=by rw[qO9,List.replicate_succ',qOu,List.set_append_right _ _ (by simp),List.length_replicate,qOK];rfl
   have h7:zY .i64 (k:Int) 1=(k:Int)-1:=zc (by omega);refine⟨k,[.s a,.s b,.b add,.i (c':Int),.i ((k:Int)-1),.r (rI (List.replicate k 0++(d::t).map fun c=>(c.toNat:Int)))],by omega,?_,d::t,c',rfl,hc',q01.2 ⟨hd,hdt⟩,by simp;omega,?_⟩
   ·simp only[STD,qaW,h3,h4,h5,and_self,qsZ hka,qsZ hkb,hrun,qzF,h6,h7]
   ·rw[qD5 hka,qD5 hkb,q6B,hla,hlb,show t.length=n-(k+1) by omega,show n-k=(n-(k+1))+1 by omega,qPm];generalize 10^(n-(k+1))=p at *;cases add with
    | true=>
     simp only[↓reduceIte] at hrel hcol ⊢;have:=congrArg (·*p) hcol;simp only[qOf] at this;grind
    | false=>
     simp only[qOC,↓reduceIte] at hrel hcol ⊢;have:=congrArg (·*p) hcol;simp only[qOf] at this;grind) (ps:=[.s a,.s b,.b add,.i 0,.i ((n:Int)-1),.r (rI (List.replicate n 0))]) ⟨[],0,by simp,by omega,qr4,by simp,by
    rw[qPD (by omega),qPD (by omega)];cases add<;>simp[qf9]⟩
 obtain⟨rfl,t,c,rfl,h3,h4,h5⟩:=h2;exact⟨t,c,h1,h3,h4,h5⟩
theorem qHP {m n t c p:Nat}{add:Bool}(hm:m<p)(hn:n<p)(ht:t<p*10)(h4:if add then m+n=t+c*(p*10) else m+c*(p*10)=n+t)(hle:add=false->n<=m):t=if add then m+n else m-n:=by
 have hc0:c=0:=by
  rcases qP6 c with h|h
  ·exact h
  ·exfalso;have h5:1*(p*10)<=c*(p*10):=qOq (p*10) h;cases add with
   | true=>simp only[↓reduceIte] at h4;omega
   | false=>simp only[qOC,↓reduceIte] at h4;have:=hle rfl;omega
 subst hc0;cases add with
 | true=>simp only[↓reduceIte] at h4 ⊢;omega
 | false=>simp only[qOC,↓reduceIte] at h4 ⊢;omega
theorem qwY (a b:Nat):quL (a:Int) (b:Int)=((max a b:Nat):Int):=by unfold quL;split<;>omega
theorem qa0 (m n:Nat)(add:Bool)(hm:(tN m).length<=100000000)(hn:(tN n).length<=100000000)(hle:add=false->n<=m) :(uI [.s (tN m),.s (tN n),.b add]).run=some (0,[.s (tN (if add then m+n else m-n))]):=by
 rw[qu0];obtain⟨N,hN⟩:∃N,N=max (tN m).length (tN n).length+1:=⟨_,rfl⟩;have l1:(tN m).length<=N-1:=by omega
 have l2:(tN n).length<=N-1:=by omega
 have l3:N=N-1+1:=by omega
 have p1:10^(tN m).length<=10^(N-1):=qPs (Nat.succ_pos 9) l1;have p2:10^(tN n).length<=10^(N-1):=qPs (Nat.succ_pos 9) l2;have p3:10^N=10^(N-1)*10:=(congrArg (10^·) l3).trans (qPm (n:=10) (m:=N-1));have e0:qm .i64 (quL (qu (tN m)) (qu (tN n))) 1=(N:Int):=by unfold qu;rw[qwY,qK (by omega)];omega
 have e1:zY .i64 (N:Int) 1=(N:Int)-1:=zc (by omega);have e2:(0:Int)<=(N:Int)/\(N:Int)<=140737488355328:=by omega
 have wa:=qpS (tN m) N (by omega) (by omega) (by omega);have wb:=qpS (tN n) N (by omega) (by omega) (by omega);have hda:q6D (List.replicate (N-(tN m).length) 48++tN m):=q9O.2 ⟨qoo _,zL _⟩;have hdb:q6D (List.replicate (N-(tN n).length) 48++tN n):=q9O.2 ⟨qoo _,zL _⟩;obtain⟨t,c,h1,h2,h3,h4⟩:=qAl (n:=N) hda hdb (by simp;omega) (by simp;omega) (by omega) add;rw[qrA,qrA,q04,q04] at h4;have ht:t≠[]:=by intro h;subst h;simp at h3;omega
 have hb:=qbW h2 ht (by omega);have e3:q3f (N:Int) [.i 0]=rI (List.replicate N 0):=by rw[qlO];rfl
 have hvm:=q6Q (zL m);have hvn:=q6Q (zL n);have hvt:=q6Q h2;rw[q04] at hvm hvn;rw[h3] at hvt;rw[p3] at h4 hvt;have q1:=qOG hvm p1;have q2:=qOG hvn p2;clear hvm hvn p1 p2 p3;have hval:val t=if add then m+n else m-n:=qHP q1 q2 hvt h4 hle
 rw[hval] at hb;simp only[STD,e0,wa,wb,e1,e2,and_self,e3,h1,qow,hb]
theorem qBb (m n:Nat):(tN (m+n)).length<=max (tN m).length (tN n).length+1:=by have h1:=q6Q (zL m);have h2:=q6Q (zL n);rw[q04] at h1 h2;have p1:10^(tN m).length<=10^(max (tN m).length (tN n).length):=qPs (by omega) (by omega);have p2:10^(tN n).length<=10^(max (tN m).length (tN n).length):=qPs (by omega) (by omega);exact q2r _ _ (by rw[qPm];omega)
theorem qtt (m n:Nat):(tN (m*n)).length<=(tN m).length+(tN n).length:=by
 have h1:=q6Q (zL m);have h2:=q6Q (zL n);rw[q04] at h1 h2;have h3:=qkD m;have h4:=qkD n;have:m*n<10^((tN m).length+(tN n).length):=by rw[Nat.pow_add];exact Nat.mul_lt_mul'' h1 h2
 have:=q2r ((tN m).length+(tN n).length-1) (m*n) (by rwa [show (tN m).length+(tN n).length-1+1=(tN m).length+(tN n).length by omega]);omega
def nl(m:Int):Nat:=(tN m.natAbs).length
theorem qt6 (m:Int):0<nl m:=qkD _
theorem qrN (m:Int):nl (-m)=nl m:=by unfold nl;rw[Int.natAbs_neg]
theorem qzT (m n:Int):nl (m+n)<=max (nl m) (nl n)+1:=by unfold nl;exact qO2 (uv (Int.natAbs_add_le m n)) (qBb _ _)
theorem yZ (m n:Int):nl (m*n)<=nl m+nl n:=by unfold nl;rw[qPc];exact qtt _ _
theorem qNu {m:Int}(h:nl m<=k):m.natAbs<10^k:=q6z h
theorem qqa (m n:Int)(hm:nl m<=100000000-1)(hn:nl n<=100000000-1):(q4R [.s (tI m),.s (tI n)]).run=some (0,[.s (tI (m+n))]):=by
 rw[qwD];have hm':(tN m.natAbs).length<=100000000-1:=hm;have hn':(tN n.natAbs).length<=100000000-1:=hn;have lt:=qzT m n;by_cases hb:(tN m.natAbs).length<=18/\(tN n.natAbs).length<=18
 ·have b1:m.natAbs<1000000000000000000:=qOG (q6z hb.1) (by decide);have b2:n.natAbs<1000000000000000000:=qOG (q6z hb.2) (by decide);have e1:qm .i64 m n=m+n:=qK (by omega);have e2:=q1x (m+n) (by omega) (by omega);clear b1 b2;have hbr:=q5H m n;rw[if_pos hb] at hbr;simp only[STD,hbr,e1,e2]
 ·have hbr:=q5H m n;rw[if_neg hb] at hbr;have hP:=qa0 m.natAbs n.natAbs true (by omega) (by omega) (fun h=>by cases h);simp only[↓reduceIte] at hP;simp only[STD,hbr,wt,vN,qhx,decide_eq_decide,hP];have la:=qBb m.natAbs n.natAbs;by_cases hs:(m<0)=(n<0)
  ·have hs':(m<0↔n<0):=by rw[hs]
   rw[if_pos hs'];simp only[kd _ _ (show (tN (m.natAbs+n.natAbs)).length<=100000000 by omega),STD];have e:(if m<0 then -((m.natAbs+n.natAbs:Nat):Int) else ((m.natAbs+n.natAbs:Nat):Int))=m+n:=by
    by_cases h:m<0
    ·rw[if_pos h];have:=hs'.1 h;omega
    ·rw[if_neg h];have:¬n<0:=fun q=>h (hs'.2 q);omega
   rw[e]
  ·have hs':¬(m<0↔n<0):=fun h=>hs (propext h);rw[if_neg hs'];by_cases hlt:m.natAbs<n.natAbs
   ·have hP2:=qa0 n.natAbs m.natAbs false (by omega) (by omega) (fun _=>by omega);simp only[qOC,↓reduceIte] at hP2;have ls:(tN (n.natAbs-m.natAbs)).length<=100000000:=qO2 (uv (Nat.sub_le _ _)) (by omega);simp only[STD,hlt,hP2,kd _ _ ls];have e:(if n<0 then -((n.natAbs-m.natAbs:Nat):Int) else ((n.natAbs-m.natAbs:Nat):Int))=m+n:=by
     by_cases h:n<0
     ·rw[if_pos h];have:¬m<0:=fun q=>hs' ⟨fun _=>h,fun _=>q⟩;omega
     ·rw[if_neg h];have:m<0:=by
       rcases Decidable.em (m<0) with q|q
       ·exact q
       ·exact absurd ⟨fun x=>absurd x q,fun x=>absurd x h⟩ hs'
      omega
    rw[e]
   ·have hP2:=qa0 m.natAbs n.natAbs false (by omega) (by omega) (fun _=>by omega);simp only[qOC,↓reduceIte] at hP2;have ls:(tN (m.natAbs-n.natAbs)).length<=100000000:=qO2 (uv (Nat.sub_le _ _)) (by omega);simp only[STD,hlt,hP2,kd _ _ ls];have e:(if m<0 then -((m.natAbs-n.natAbs:Nat):Int) else ((m.natAbs-n.natAbs:Nat):Int))=m+n:=by
     by_cases h:m<0
     ·rw[if_pos h];have:¬n<0:=fun q=>hs' ⟨fun _=>q,fun _=>h⟩;omega
     ·rw[if_neg h];have:n<0:=by
       rcases Decidable.em (n<0) with q|q
       ·exact q
       ·exact absurd ⟨fun x=>absurd x h,fun x=>absurd x q⟩ hs'
      omega
    rw[e]
theorem qa3 (m n:Int)(hm:nl m<=100000000-1)(hn:nl n<=100000000-1):(jn [.s (tI m),.s (tI n)]).run=some (0,[.s (tI (m-n))]):=by rw[qvf];have ht:=qd3 n (by have:(tN n.natAbs).length<=100000000-1:=hn;omega);have hp:=qqa m (-n) hm (by rw[qrN];exact hn);rw[<-Int.sub_eq_add_neg] at hp;simp only[STD,ht,hp]
def sgn(n:Int):Int:=if n<0 then -1 else if n=0 then 0 else 1
theorem qn3 (m n:Int)(hm:nl m<=100000000-1)(hn:nl n<=100000000-1):(q2R [.s (tI m),.s (tI n)]).run=some (0,[.i (sgn (m-n))]):=by
 rw[qup];have h0:(tI (m-n)=[48])=(m-n=0):=by have:tI 0=[48]:=rfl;rw[<-this];exact propext ⟨fun h=>qyP h,fun h=>by rw[h]⟩
 simp only[STD,qa3 m n hm hn,zM,h0,vN];unfold sgn;by_cases h1:m-n=0
 ·rw[if_pos h1,if_neg (by omega),if_pos h1]
 ·rw[if_neg h1];by_cases h2:m-n<0
  ·rw[if_pos h2,if_pos h2]
  ·rw[if_neg h2,if_neg h2,if_neg h1]
end Go.Eng

namespace Go.Eng
def wv(l:List Int):Int:=l.foldl (fun a x=>10*a+x) 0
theorem qwG:∀(t:List Int) (a:Int),t.foldl (fun a x=>10*a+x) a=a*10^t.length+wv t
 | [],a=>by simp[wv]
 | c::t,a=>by
  have h1:=qwG t (10*a+c);have h2:=qwG t (10*0+c);have h3:wv (c::t)=t.foldl (fun a x=>10*a+x) (10*0+c):=rfl;rw[h3,h2,qPN,h1,qOt,Int.pow_succ];grind
theorem qpl(c:Int)(t:List Int):wv (c::t)=c*10^t.length+wv t:=by have h3:wv (c::t)=t.foldl (fun a x=>10*a+x) (10*0+c):=rfl;rw[h3,qwG];grind
theorem qMP:wv []=0:=rfl
theorem qI8(n:Nat):wv (List.replicate n 0)=0:=by
 induction n with
 | zero=>rfl
 | succ n ih=>rw[qPn,qpl,ih];simp
theorem qJT:∀(l:List Int) (j:Nat) (hj:j<l.length) (y:Int),wv (l.set j y)=wv l+(y-l[j])*10^(l.length-(j+1))
 | [],j,hj,y=>by simp at hj
 | c::t,0,hj,y=>by
  rw[qOe,qpl,qpl];simp only[List.getElem_cons_zero,qOt,qQd,qOS];grind
 | c::t,j+1,hj,y=>by
  have hj':j<t.length:=by simpa using hj
  rw[qOg,qpl,qpl,qJT t j hj' y,qPb];simp only[List.getElem_cons_succ,qOt];rw[show t.length+1-(j+1+1)=t.length-(j+1) by omega];grind
theorem qKl{l:List Int}{k:Nat}(h:k<l.length):wv (l.drop k)=l[k]*10^(l.length-(k+1))+wv (l.drop (k+1)):=by rw[List.drop_eq_getElem_cons h,qpl,qPX]
theorem jm{l:List Int}{j:Nat}(h:j<l.length):l.getD j 0=l[j]:=by simp[h]
theorem qt7{n i:Nat}(h:i<n):(10:Int)^(n-i)=10^(n-(i+1))*10:=by rw[<-Int.pow_succ];congr 1;omega
theorem qHv{V A Q B:Int}:V*(Q*10)*B+A*B*Q=(10*V+A)*Q*B:=by grind
theorem qKI{P Q A V y:Int}:A*(10*V+y)*P*Q=A*V*(P*10)*Q+A*y*(P*Q):=by grind
theorem qxP{l:List Int}{j:Nat}{y B:Int}(h:∀x,x∈l->0<=x/\x<=B)(hy:0<=y/\y<=B):∀x,x∈l.set j y->0<=x/\x<=B:=by
 intro x hx;rcases qQe hx with h1|h1
 ·exact h x h1
 ·rw[h1];exact hy
theorem qEO{a b:qNX}(ha:q6D a)(hb:q6D b){i:Nat}(hi:i<a.length)(hla:a.length<=1000000)(hlb:b.length<=1000000){cols:List Int}(hc:cols.length=a.length+b.length){C:Nat}(hC:C<=1000000000000)(hB:∀x,x∈cols->0<=x/\x<=81*(C:Int)) :∃cols':List Int,(qf kX [.s a,.s b,.i (i:Int),.i 0,.r (rI cols)]).run=some (0,[.s a,.s b,.i (i:Int),.r (rI cols')])/\cols'.length=a.length+b.length /\(∀x,x∈cols'->0<=x/\x<=81*((C+b.length:Nat):Int))/\wv cols'=wv cols+(dv a[i]:Int)*(val b:Int)*10^(a.length-(i+1)):=by
 obtain⟨j,qs,h1,h2⟩:=jh (S:=kX) (fun K ps=>∃(k:Nat) (cs:List Int),K+k=b.length/\ps=[.s a,.s b,.i (i:Int),.i (k:Int),.r (rI cs)]/\cs.length=a.length+b.length /\
   (∀x,x∈cs->0<=x/\x<=81*((C+k:Nat):Int))/\wv cs=wv cols+(dv a[i]:Int)*(val (b.take k):Int)*10^(b.length-k)*10^(a.length-(i+1)))
  (fun j qs=>j=0/\∃cs:List Int,qs=[.s a,.s b,.i (i:Int),.r (rI cs)]/\cs.length=a.length+b.length /\
   (∀x,x∈cs->0<=x/\x<=81*((C+b.length:Nat):Int))/\wv cs=wv cols+(dv a[i]:Int)*(val b:Int)*10^(a.length-(i+1))) (n:=b.length) (by omega) (fun K ps hK ⟨k,cs,hkK,hps,hlen,hbd,hw⟩=>by
  subst hps;rw[qmY];cases K with
  | zero=>
   right;obtain rfl:k=b.length:=by omega
   have:¬(b.length:Int)<qu b:=by unfold qu;omega
   refine⟨0,[.s a,.s b,.i (i:Int),.r (rI cs)],?_,rfl,cs,rfl,hlen,hbd,?_⟩
   ·simp only[STD,this]
   ·rw[hw,qP9,qOK];grind
  | succ K=>
   left;have hk:k<b.length:=by omega
   have g1:(k:Int)<qu b:=by unfold qu;omega
   have g2:(i:Int)<qu a:=by unfold qu;omega
   have e1:qm .i64 (qm .i64 (i:Int) (k:Int)) 1=((i+k+1:Nat):Int):=by rw[qK (x:=(i:Int)) (by omega),qK (by omega)];omega
   have hj:i+k+1<cs.length:=by omega
   have g3:((i+k+1:Nat):Int)<qg (rI cs):=by rw[qet];omega
   obtain⟨da,la⟩:=qCj ha hi;obtain⟨db,lb⟩:=qCj hb hk;have hx:=hbd _ (qOI hj);have hmul:dv a[i]*dv b[k]<=9*9:=qOB (by omega) (by omega);have e2:wL .i64 (dv a[i]:Int) (dv b[k]:Int)=((dv a[i]*dv b[k]:Nat):Int):=by rw[q0G (by rw[<-qOM];omega)];simp
   have e3:qm .i64 cs[i+k+1] ((dv a[i]*dv b[k]:Nat):Int)=cs[i+k+1]+((dv a[i]*dv b[k]:Nat):Int):=qK (by omega);have e4:=vX hk (by omega);refine⟨K,[.s a,.s b,.i (i:Int),.i ((k+1:Nat):Int),.r (rI (cs.set (i+k+1) (cs[i+k+1]+((dv a[i]*dv b[k]:Nat):Int))))],by omega,?_,k+1,_,by omega,rfl,by simpa using hlen,?_,?_⟩
   ·simp only[STD,g1,g2,qaW,and_self,e1,g3,da,db,e2,qCc,qO9,jm hj,e3,e4,qzF]
   ·refine qxP (fun x hx=>?_) ?_
    ·have:=hbd x hx;omega
    ·omega
   ·rw[qJT _ _ hj,hw,q9L hk,hlen];have p1:=qt7 hk;have p2:(10:Int)^(a.length+b.length-(i+k+1+1))=10^(b.length-(k+1))*10^(a.length-(i+1)):=by rw[<-Int.pow_add];congr 1;omega
    rw[p1,p2];generalize (10:Int)^(b.length-(k+1))=P;generalize (10:Int)^(a.length-(i+1))=Q;simp only[qPR,qOM];generalize (dv a[i]:Int)=A;generalize (dv b[k]:Int)=y;generalize (val (b.take k):Int)=V;generalize cs[i+k+1]=c;have:=qKI (P:=P) (Q:=Q) (A:=A) (V:=V) (y:=y);grind) (ps:=[.s a,.s b,.i (i:Int),.i 0,.r (rI cols)]) ⟨0,cols,by omega,rfl,hc,by simpa using hB,by simp[qf9]⟩
 obtain⟨rfl,cs,rfl,h3,h4,h5⟩:=h2;exact⟨cs,h1,h3,h4,h5⟩
theorem qDY{a b:qNX}(ha:q6D a)(hb:q6D b)(hla:a.length<=1000000)(hlb:b.length<=1000000) :∃cols:List Int,(qf q0n [.s a,.s b,.i 0,.r (rI (List.replicate (a.length+b.length) 0))]).run=some (0,[.r (rI cols)])/\cols.length=a.length+b.length /\(∀x,x∈cols->0<=x/\x<=81000000000000)/\wv cols=(val a:Int)*(val b:Int):=by
 have hsq:∀i,i<=a.length->i*b.length<=1000000000000:=fun i hi=>by have:=qOB (show i<=1000000 by omega) hlb;omega
 obtain⟨j,qs,h1,h2⟩:=jh (S:=q0n) (fun K ps=>∃(i:Nat) (cs:List Int),K+i=a.length/\ps=[.s a,.s b,.i (i:Int),.r (rI cs)]/\cs.length=a.length+b.length /\
   (∀x,x∈cs->0<=x/\x<=81*((i*b.length:Nat):Int))/\wv cs=(val (a.take i):Int)*10^(a.length-i)*(val b:Int))
  (fun j qs=>j=0/\∃cs:List Int,qs=[.r (rI cs)]/\cs.length=a.length+b.length/\(∀x,x∈cs->0<=x/\x<=81000000000000)/\wv cs=(val a:Int)*(val b:Int)) (n:=a.length) (by omega) (fun K ps hK ⟨i,cs,hiK,hps,hlen,hbd,hw⟩=>by
  subst hps;rw[qnK];have hs:=hsq i (by omega);cases K with
  | zero=>
   right;obtain rfl:i=a.length:=by omega
   have:¬(a.length:Int)<qu a:=by unfold qu;omega
   refine⟨0,[.r (rI cs)],?_,rfl,cs,rfl,hlen,fun x hx=>?_,?_⟩
   ·simp only[STD,this]
   ·have:=hbd x hx;omega
   ·rw[hw,qP9,qOK];grind
  | succ K=>
   left;have hi:i<a.length:=by omega
   have g1:(i:Int)<qu a:=by unfold qu;omega
   obtain⟨cs',q1,q2,q3,q4⟩:=qEO ha hb hi hla hlb hlen (C:=i*b.length) hs hbd;have e4:=vX hi (by omega);refine⟨K,[.s a,.s b,.i ((i+1:Nat):Int),.r (rI cs')],by omega,?_,i+1,cs',by omega,rfl,q2,?_,?_⟩
   ·simp only[STD,g1,q1,e4]
   ·rw[qOf,qPz];exact q3
   ·rw[q4,hw,q9L hi];rw[qt7 hi,qPR,qOM];exact qHv) (ps:=[.s a,.s b,.i 0,.r (rI (List.replicate (a.length+b.length) 0))]) ⟨0,List.replicate (a.length+b.length) 0,by omega,rfl,by simp,fun x hx=>by rw[(qQ9.1 hx).2];omega,by rw[qI8];simp[qf9]⟩
 obtain⟨rfl,cs,rfl,h3,h4,h5⟩:=h2;exact⟨cs,h1,h3,h4,h5⟩
theorem qDO{cols:List Int}{N:Nat}(hl:cols.length=N)(hN:N<=2000000)(hB:∀x,x∈cols->0<=x/\x<=81000000000000) :∃(t:qNX) (c:Nat),(qf ut [.i 0,.i ((N:Int)-1),.r (rI cols),.r (rI (List.replicate N 0))]).run=some (0,[.r (rI (t.map fun c=>(c.toNat:Int)))])/\q6D t/\t.length=N/\wv cols=(val t:Int)+(c:Int)*10^N:=by
 obtain⟨j,qs,h1,h2⟩:=jh (S:=ut) (fun K ps=>∃(t:qNX) (c:Nat),ps=[.i (c:Int),.i ((K:Int)-1),.r (rI cols),.r (rI (List.replicate K 0++t.map fun c=>(c.toNat:Int)))]/\c<=81000000000000/\q6D t/\K+t.length=N /\
   wv (cols.drop K)=(val t:Int)+(c:Int)*10^(N-K))
  (fun j qs=>j=0/\∃(t:qNX) (c:Nat),qs=[.r (rI (t.map fun c=>(c.toNat:Int)))]/\q6D t/\t.length=N/\wv cols=(val t:Int)+(c:Int)*10^N) (n:=N) (by omega) (fun K ps hK ⟨t,c,hps,hc,hdt,hlt,hrel⟩=>by
  subst hps;rw[qls];cases K with
  | zero=>
   right;have:¬(0:Int)<=((0:Nat):Int)-1:=by omega
   refine⟨0,[.r (rI (t.map fun c=>(c.toNat:Int)))],?_,rfl,t,c,rfl,hdt,by omega,by simpa using hrel⟩;simp only[STD,this,List.replicate_zero,qPi]
  | succ K=>
   left;have e0:((K+1:Nat):Int)-1=(K:Int):=by omega
   rw[e0];have hk:K<cols.length:=by omega
   obtain⟨x,hx⟩:∃x:Nat,cols[K]=(x:Int)/\x<=81000000000000:=by have:=hB _ (qOI hk);exact⟨cols[K].toNat,by omega,by omega⟩
   have e1:qm .i64 (c:Int) (x:Int)=((c+x:Nat):Int):=by rw[qK (by omega)];omega
   have e2:qcl .i64 ((c+x:Nat):Int) 10=(((c+x)/10:Nat):Int):=qCT (b:=10) (by omega);have e3:qby ((c+x:Nat):Int) 10=(((c+x)%10:Nat):Int):=qr0 _ 10;have e4:q2I .u8 (qm .i64 48 (((c+x)%10:Nat):Int))=((dch ((c+x)%10)).toNat:Int):=by rw[qK (by omega),qwr (by omega),q2x (by omega)];omega
   have h3:(K:Int)<qg (rI cols):=by rw[qet];omega
   have h5:(K:Int)<qg (rI (List.replicate (K+1) 0++t.map fun c=>(c.toNat:Int))):=by rw[qet];simp;omega
   have h6:(List.replicate (K+1) (0:Int)++t.map fun c=>(c.toNat:Int)).set K ((dch ((c+x)%10)).toNat:Int)=List.replicate K 0++(dch ((c+x)%10)::t).map fun c=>(c.toNat:Int):=by rw[List.replicate_succ',qOu,List.set_append_right _ _ (by simp),List.length_replicate,qOK];rfl
   have h7:zY .i64 (K:Int) 1=(K:Int)-1:=zc (by omega);refine⟨K,[.i (((c+x)/10:Nat):Int),.i ((K:Int)-1),.r (rI cols),.r (rI (List.replicate K 0++(dch ((c+x)%10)::t).map fun c=>(c.toNat:Int)))],by omega,?_,_,_,rfl,by omega,q01.2 ⟨by rw[q2x (by omega)];omega,hdt⟩,by simp;omega,?_⟩
   ·simp only[STD,qaW,h3,h5,and_self,qCc,qO9,jm hk,hx.1,e1,e2,e3,e4,qzF,h6,h7]
   ·rw[qKl hk,hrel,q6B,hx.1,hl,qpE (by omega),show t.length=N-(K+1) by omega];rw[qt7 (show K<N by omega)];have e:((c+x:Nat):Int)=10*(((c+x)/10:Nat):Int)+(((c+x)%10:Nat):Int):=by omega
    simp only[qPR,qOM,Int.natCast_pow] at e ⊢;generalize hP:(10:Int)^(N-(K+1))=P at *;generalize (((c+x)/10:Nat):Int)=q at *;generalize (((c+x)%10:Nat):Int)=r at *;have:(c:Int)=10*q+r-x:=by omega
    rw[this];grind) (ps:=[.i 0,.i ((N:Int)-1),.r (rI cols),.r (rI (List.replicate N 0))]) ⟨[],0,by simp,by omega,qr4,by simp,by
    rw[qPD (by omega)];simp[qf9,qMP]⟩
 obtain⟨rfl,t,c,rfl,h3,h4,h5⟩:=h2;exact⟨t,c,h1,h3,h4,h5⟩
theorem qsq(m n:Nat)(hm:(tN m).length<=1000000)(hn:(tN n).length<=1000000):(q6w [.s (tN m),.s (tN n)]).run=some (0,[.s (tN (m*n))]):=by
 rw[qqo];obtain⟨cols,c1,c2,c3,c4⟩:=qDY (zL m) (zL n) hm hn;obtain⟨N,hN⟩:∃N,N=(tN m).length+(tN n).length:=⟨_,rfl⟩;have hp:=qkD m;rw[<-hN] at c1 c2;obtain⟨t,c,t1,t2,t3,t4⟩:=qDO c2 (by omega) c3;have ht:t≠[]:=by intro h;subst h;simp at t3;omega
 have hb:=qbW t2 ht (by omega);have e0:qm .i64 (qu (tN m)) (qu (tN n))=(N:Int):=by unfold qu;rw[qK (by omega)];omega
 have e1:(0:Int)<=(N:Int)/\(N:Int)<=17592186044416:=by omega
 have e1':(0:Int)<=(N:Int)/\(N:Int)<=140737488355328:=by omega
 have e2:q3f (N:Int) [.i 0]=rI (List.replicate N 0):=by rw[qlO];rfl
 have e3:qg (rI cols)=(N:Int):=by rw[qet,c2]
 have e4:zY .i64 (N:Int) 1=(N:Int)-1:=zc (by omega);have hval:val t=m*n:=by
  have v1:=q6Q (zL m);have v2:=q6Q (zL n);have v3:=q6Q t2;rw[t3] at v3;rw[c4,q04,q04] at t4;rw[q04] at v1 v2;have v4:m*n<10^N:=by rw[hN,Nat.pow_add];exact Nat.mul_lt_mul'' v1 v2
  have t5:m*n=val t+c*10^N:=by
   have:((m*n:Nat):Int)=((val t+c*10^N:Nat):Int):=by simpa using t4
   omega
  clear t4 c4 v1 v2;generalize 10^N=P at *;rcases qP6 c with h|h
  ·subst h;omega
  ·have:=qOq P h;omega
 rw[hval] at hb;simp only[STD,e0,e1,e1',and_self,e2,c1,e3,e4,t1,qow,hb]
theorem qnY(m n:Int)(hm:nl m<=1000000)(hn:nl n<=1000000):(vG [.s (tI m),.s (tI n)]).run=some (0,[.s (tI (m*n))]):=by
 rw[qva];have hm':(tN m.natAbs).length<=1000000:=hm;have hn':(tN n.natAbs).length<=1000000:=hn;have hbr:=q5H m n;have hP:=qsq m.natAbs n.natAbs hm' hn';have lm:=qtt m.natAbs n.natAbs;have hS:=fun b=>kd (m.natAbs*n.natAbs) b (by omega);have tm:=qzX m;have tn:=qzX n;have e0:qm .i64 (qu (tI m)) (qu (tI n))=(((tI m).length+(tI n).length:Nat):Int):=by unfold qu;rw[qK (by omega)];omega
 have sg:(if (¬((m<0)=(n<0))) then -((m.natAbs*n.natAbs:Nat):Int) else ((m.natAbs*n.natAbs:Nat):Int))=m*n:=by
  by_cases h1:m<0<;>by_cases h2:n<0
  ·simp only[h1,h2,not_true_eq_false,if_false];rw[qOM,show (m.natAbs:Int)=-m by omega,show (n.natAbs:Int)=-n by omega];grind
  ·simp only[h1,h2];rw[if_pos (by simp),qOM,show (m.natAbs:Int)=-m by omega,show (n.natAbs:Int)=n by omega];grind
  ·simp only[h1,h2];rw[if_pos (by simp),qOM,show (m.natAbs:Int)=m by omega,show (n.natAbs:Int)=-n by omega];grind
  ·simp only[h1,h2,not_true_eq_false,if_false];rw[qOM,show (m.natAbs:Int)=m by omega,show (n.natAbs:Int)=n by omega]
 by_cases hb:(tN m.natAbs).length<=18/\(tN n.natAbs).length<=18
 ·rw[if_pos hb] at hbr;by_cases h18:(tI m).length+(tI n).length<=18
  ·have h18':(((tI m).length+(tI n).length:Nat):Int)<=18:=by omega
   have lmn:(tN (m*n).natAbs).length<=18:=by
    rw[qPc];have h3:∀q:Int,(tN q.natAbs).length<=(tI q).length:=fun q=>by unfold tI;split<;>simp
    have:=h3 m;have:=h3 n;omega
   have b1:(m*n).natAbs<1000000000000000000:=qOG (q6z lmn) (by decide);have e1:wL .i64 m n=m*n:=q0G (by omega);have e2:=q1x (m*n) (by omega) (by omega);clear b1;simp only[STD,hbr,e0,h18',e1,e2]
  ·have h18':¬(((tI m).length+(tI n).length:Nat):Int)<=18:=by omega
   simp only[STD,hbr,e0,h18',wt,hP,vN,hS,decide_eq_decide];rw[<-sg];simp only[eq_iff_iff]
 ·rw[if_neg hb] at hbr;simp only[STD,hbr,wt,hP,vN,hS,decide_eq_decide];rw[<-sg];simp only[eq_iff_iff]
theorem qLJ{x:Int}(h:0<=x/\x<=254):qm .u8 x 1=x+1:=by unfold qm IntKind.wrap;simp[IntKind.signed,IntKind.bits];omega
theorem qAX(a q:qNX)(i:Int){b x0:Nat}(hb:0<b)(hx:x0<10*b)(lb:(tN b).length<=1000000)(lx:(tN x0).length<=1000002) :(qf uD [.s a,.s (tN b),.s q,.s (tN x0),.i i,.i 48]).run=some (0,[.s a,.s (tN b),.s q,.s (tN (x0%b)),.i i,.i (48+((x0/b:Nat):Int))]):=by
 obtain⟨j,qs,h1,h2⟩:=jh (S:=uD) (fun k ps=>∃x c:Nat,ps=[.s a,.s (tN b),.s q,.s (tN x),.i i,.i (48+(c:Int))]/\x+c*b=x0/\c+k=10/\c<=9)
  (fun j qs=>j=0/\qs=[.s a,.s (tN b),.s q,.s (tN (x0%b)),.i i,.i (48+((x0/b:Nat):Int))]) (n:=10) (by omega) (fun k ps hk ⟨x,c,hps,he,hck,hc⟩=>by
  subst hps;rw[qlp];have hxl:x<=x0:=by rw[<-he];exact Nat.le_add_right _ _
  have hP:=qa0 x b false (by have:=uv hxl;omega) (by omega);by_cases hlt:x<b
  ·right;refine⟨0,[.s a,.s (tN b),.s q,.s (tN x),.i i,.i (48+(c:Int))],?_,rfl,?_⟩
   ·simp only[STD,qhx,hlt,decide_true]
   ·have e1:x0/b=c:=by rw[<-he,Nat.add_mul_div_right _ _ hb,Nat.div_eq_of_lt hlt,qOS]
    have e2:x0%b=x:=by rw[<-he,Nat.add_mul_mod_self_right,Nat.mod_eq_of_lt hlt]
    rw[e1,e2]
  ·left;have hge:b<=x:=by omega
   have hP:=hP (fun _=>hge);simp only[qOC,↓reduceIte] at hP;have hc9:c+1<10:=by apply Nat.lt_of_mul_lt_mul_right (a:=b);have:(c+1)*b=c*b+b:=Nat.succ_mul c b;omega
   refine⟨k-1,[.s a,.s (tN b),.s q,.s (tN (x-b)),.i i,.i (48+((c+1:Nat):Int))],by omega,?_,x-b,c+1,rfl,?_,by omega,by omega⟩
   ·simp only[STD,qhx,hlt,decide_false,hP,qLJ (show (0:Int)<=48+(c:Int)/\48+(c:Int)<=254 by omega)];rw[show (48+(c:Int)+1)=48+((c+1:Nat):Int) by omega]
   ·have:(c+1)*b=c*b+b:=Nat.succ_mul c b;omega) (ps:=[.s a,.s (tN b),.s q,.s (tN x0),.i i,.i 48]) ⟨x0,0,by simp,by simp,by omega,by omega⟩
 obtain⟨rfl,rfl⟩:=h2;exact h1
theorem qJp{s:qNX}{i:Nat}(h:i<s.length):qdh s (i:Int) (((i+1:Nat):Int))=[s[i]]:=by unfold qdh;simp only[qO9];rw[List.take_succ_eq_append_getElem h,List.drop_append_of_le_length (by simp;omega)];rw[List.drop_of_length_le (by simp;omega)];rfl
theorem qsm{m n:Nat}(hn:0<n)(lm:(tN m).length<=1000000)(ln:(tN n).length<=1000000) :(q5E [.s (tN m),.s (tN n)]).run=some (0,[.s (tN (m/n)),.s (tN (m%n))]):=by
 rw[qqO];have hdm:=zL m;obtain⟨j,qs,h1,rfl,q,h2,h3,h4,h5⟩:=jh (S:=q2N) (fun k ps=>∃(i r:Nat) (q:qNX),ps=[.s (tN m),.s (tN n),.s q,.s (tN r),.i (i:Int)]/\i+k=(tN m).length/\q.length=i/\q6D q/\val q*n+r=val ((tN m).take i)/\r<n)
  (fun j qs=>j=0/\∃q:List UInt8,qs=[.s q,.s (tN (m%n))]/\q.length=(tN m).length/\q6D q/\val q=m/n) (n:=(tN m).length) (by omega) (fun k ps hk ⟨i,r,q,hps,hik,hql,hdq,hv,hr⟩=>by
  subst hps;rw[qmT];by_cases hi:i<(tN m).length
  ·left;have hc:=qrf hdm hi;have hw:qm .i64 (i:Int) 1=((i+1:Nat):Int):=by rw[qK (by omega)];omega
   have hlr:(tN r).length<=(tN n).length:=uv (by omega);have hd10:=qEJ hc;have hB:=qbW (s:=tN r++[(tN m)[i]]) (q9O.2 ⟨zL r,fun c hcc=>by simp at hcc;subst hcc;exact hc⟩) (by simp) (by simp;omega);rw[qni,q04] at hB;have lx:(tN (10*r+dv (tN m)[i])).length<=1000002:=by
    have h10:10*r+dv (tN m)[i]<=10*n:=by omega
    have e10:(tN (10*n)).length<=(tN 10).length+(tN n).length:=qtt 10 n;have e11:(tN 10).length=2:=by decide
    have:=uv h10;omega
   have hI:=qAX (tN m) q (i:Int) hn (x0:=10*r+dv (tN m)[i]) (by omega) ln lx;have hq10:(10*r+dv (tN m)[i])/n<10:=by rw[Nat.div_lt_iff_lt_mul hn];omega
   have hd1:(i:Int)<qu (tN m):=by unfold qu;omega
   have hd2:((i+1:Nat):Int)<=qu (tN m):=by unfold qu;omega
   have hrs:qp2 [[.i (48+(((10*r+dv (tN m)[i])/n:Nat):Int))]]=[dch ((10*r+dv (tN m)[i])/n)]:=by simp only[qp2,qP5,List.map_nil,qPr,U.toI,dch];congr 2
   have hl1:qu (tN r)+qu [(tN m)[i]]<=140737488355328:=by unfold qu;simp;omega
   have hl2:qu q+qu [dch ((10*r+dv (tN m)[i])/n)]<=140737488355328:=by unfold qu;simp;omega
   refine⟨k-1,[.s (tN m),.s (tN n),.s (q++[dch ((10*r+dv (tN m)[i])/n)]),.s (tN ((10*r+dv (tN m)[i])%n)),.i ((i+1:Nat):Int)],by omega,?_,i+1,_,_,rfl,by omega,by simp[hql],?_,?_,qPg _ hn⟩
   ·simp only[STD,hw,hd1,hd2,qJp hi,hl1,qeJ,hB,hI,hrs,hl2,show (0:Int)<=(i:Int) by omega,show (0:Int)<=((i+1:Nat):Int) by omega,show (i:Int)<=((i+1:Nat):Int) by omega,and_self]
   ·exact q9O.2 ⟨hdq,qy4 hq10⟩
   ·rw[qni,qpE hq10,q9L hi,<-hv];have hdm:=qPZ (10*r+dv (tN m)[i]) n;generalize (10*r+dv (tN m)[i])/n=c at *;generalize (10*r+dv (tN m)[i])%n=e at *;have e1:(10*val q+c)*n=10*(val q*n)+n*c:=by rw[qOf,Nat.mul_assoc,Nat.mul_comm c n]
    omega
  ·right;have hie:i=(tN m).length:=by omega
   have hd1:¬((i:Int)<qu (tN m)):=by unfold qu;omega
   rw[hie,qP9,q04] at hv;have e1:m/n=val q:=by rw[<-hv,Nat.add_comm,Nat.add_mul_div_right _ _ hn,Nat.div_eq_of_lt hr,qOS]
   have e2:m%n=r:=by rw[<-hv,Nat.add_comm,Nat.add_mul_mod_self_right,Nat.mod_eq_of_lt hr]
   refine⟨0,[.s q,.s (tN r)],?_,rfl,q,by rw[e2],by omega,hdq,e1.symm⟩;simp only[STD,hd1]) (ps:=[.s (tN m),.s (tN n),.s [],.s [48],.i 0]) ⟨0,0,[],rfl,by omega,rfl,qr4,by simp[qf9],hn⟩
 subst h2;have hB:=qbW (s:=q) h4 (by intro h;subst h;have:=qkD m;simp at h3;omega) (by omega);rw[h5] at hB;simp only[STD,h1,hB]
def fq(m n:Int):Int:=if 0<n then m/n else (-m)/(-n)
theorem qo9{m n q:Int}(h:(0<n/\q*n<=m/\m<q*n+n)\/(n<0/\q*n+n<m/\m<=q*n)):fq m n=q:=by
 unfold fq;rcases h with⟨h0,h1,h2⟩|⟨h0,h1,h2⟩
 ·rw[if_pos h0];exact((Int.ediv_emod_unique (r:=m-q*n) h0).2 ⟨by rw[qP7];omega,by omega,by omega⟩).1
 ·rw[if_neg (by omega)];have e:-n*q=-(q*n):=by rw[Int.neg_mul,qP7]
  exact((Int.ediv_emod_unique (r:=q*n-m) (show 0 < -n by omega)).2 ⟨by omega,by omega,by omega⟩).1
theorem qqX{n q:Int}(h:n≠0):fq (q*n) n=q:=by
 apply qo9;rcases Int.lt_or_lt_of_ne h with h|h
 ·exact .inr ⟨h,by omega,by omega⟩
 ·exact .inl ⟨h,by omega,by omega⟩
theorem qNc(m:Int){n:Int}(_:n≠0):(fq m n).natAbs<=m.natAbs+1:=by
 unfold fq;split
 ·have:=qQ2 m n;omega
 ·have:=qQ2 (-m) (-n);omega
theorem qo2(m:Int){n:Int}(hn:n≠0):n*m.tdiv n+qby m n=m/\(qby m n).natAbs<n.natAbs/\(0<=m->0<=qby m n)/\(m<=0->qby m n<=0):=by
 unfold qby
 refine⟨Int.mul_tdiv_add_tmod m n,?_,fun h=>Int.tmod_nonneg n h,fun h=>?_⟩
 ·rw[Int.natAbs_tmod];exact qPg _ (by omega)
 ·have:=Int.tmod_nonneg n (show 0<=-m by omega);rw[Int.neg_tmod] at this;omega
theorem qJi{m:Int}(h:(tN m.natAbs).length<=18):m.natAbs<1000000000000000000:=qOG (q6z h) (by decide)
theorem qju{n t:Int}(hn:n≠0)(h:-9223372036854775808<=t/\t<=9223372036854775807):qcl .i64 (n*t) n=t:=by unfold qcl;rw[Int.mul_tdiv_cancel_left _ hn];unfold IntKind.wrap;simp[IntKind.signed,IntKind.bits];omega
theorem qKY(m n:Int):(m.tdiv n).natAbs<=m.natAbs:=by rw[Int.natAbs_tdiv];exact qPS _ _
theorem qJ3{m n:Int}(hn:n≠0) :(qby m n≠0/\¬((qby m n<0)=(n<0))->fq m n=m.tdiv n-1/\m-fq m n*n=qby m n+n)/\(¬(qby m n≠0/\¬((qby m n<0)=(n<0)))->fq m n=m.tdiv n/\m-fq m n*n=qby m n):=by
 obtain⟨h1,h2,h3,h4⟩:=qo2 m hn;generalize m.tdiv n=t at *;generalize qby m n=r at *;have e:n*t=t*n:=qP7 _ _;have e2:(t-1)*n=t*n-n:=by rw[Int.sub_mul,qPj]
 constructor
 ·intro⟨c1,c2⟩;have c3:¬(r<0↔n<0):=fun h=>c2 (propext h);have:fq m n=t-1:=by
   apply qo9;rw[e2];rcases Int.lt_or_lt_of_ne hn with h|h
   ·have:¬r<0:=fun q=>c3 ⟨fun _=>h,fun _=>q⟩;exact .inr ⟨h,by omega,by omega⟩
   ·have:r<0:=by
     rcases Decidable.em (r<0) with q|q
     ·exact q
     ·exact absurd ⟨fun x=>by omega,fun x=>by omega⟩ c3
    exact .inl ⟨h,by omega,by omega⟩
  rw[this,e2];exact⟨rfl,by omega⟩
 ·intro c;have c':r=0\/(r<0↔n<0):=by
   rcases Decidable.em (r=0) with q|q
   ·exact .inl q
   ·right;rcases Decidable.em (r<0↔n<0) with q2|q2
    ·exact q2
    ·exact absurd ⟨q,fun h=>q2 (by rw[h])⟩ c
  have:fq m n=t:=by
   apply qo9;rcases Int.lt_or_lt_of_ne hn with h|h
   ·rcases c' with q|q
    ·exact .inr ⟨h,by omega,by omega⟩
    ·have:=q.2 h;exact .inr ⟨h,by omega,by omega⟩
   ·rcases c' with q|q
    ·exact .inl ⟨h,by omega,by omega⟩
    ·have:¬r<0:=fun x=>by have:=q.1 x;omega
     exact .inl ⟨h,by omega,by omega⟩
  rw[this];exact⟨rfl,by omega⟩
theorem qMq{m n:Int}(hn:n≠0) :(m.natAbs%n.natAbs≠0/\¬((m<0)=(n<0))->fq m n=-((m.natAbs/n.natAbs:Nat):Int)-1) /\(¬(m.natAbs%n.natAbs≠0/\¬((m<0)=(n<0)))->fq m n=if ¬((m<0)=(n<0)) then -((m.natAbs/n.natAbs:Nat):Int) else ((m.natAbs/n.natAbs:Nat):Int)):=by
 have hd:=qPZ m.natAbs n.natAbs;have hl:=qPg m.natAbs (show 0<n.natAbs by omega);generalize m.natAbs/n.natAbs=q at *;generalize m.natAbs%n.natAbs=r at *;have hq:((n.natAbs*q:Nat):Int)=(n.natAbs:Int)*(q:Int):=by simp
 have e1:n<0->(n.natAbs:Int)*(q:Int)=-((q:Int)*n):=fun h=>by rw[show (n.natAbs:Int)=-n by omega,Int.neg_mul,qP7]
 have e2:0<n->(n.natAbs:Int)*(q:Int)=(q:Int)*n:=fun h=>by rw[show (n.natAbs:Int)=n by omega,qP7]
 have e3:(-(q:Int)-1)*n=-((q:Int)*n)-n:=by rw[Int.sub_mul,Int.neg_mul,qPj]
 have e4:(-(q:Int))*n=-((q:Int)*n):=Int.neg_mul _ _;constructor
 ·intro⟨c1,c2⟩;have c3:¬(m<0↔n<0):=fun h=>c2 (propext h);apply qo9;rw[e3];rcases Int.lt_or_lt_of_ne hn with h|h
  ·have:=e1 h;have:¬m<0:=fun q=>c3 ⟨fun _=>h,fun _=>q⟩;exact .inr ⟨h,by omega,by omega⟩
  ·have:=e2 h;have:m<0:=by
    rcases Decidable.em (m<0) with q|q
    ·exact q
    ·exact absurd ⟨fun x=>by omega,fun x=>by omega⟩ c3
   exact .inl ⟨h,by omega,by omega⟩
 ·intro c;by_cases c2:(m<0)=(n<0)
  ·rw[if_neg (by simpa using c2)];have c3:m<0↔n<0:=by rw[c2]
   apply qo9;rcases Int.lt_or_lt_of_ne hn with h|h
   ·have:=e1 h;have:=c3.2 h;exact .inr ⟨h,by omega,by omega⟩
   ·have:=e2 h;have:¬m<0:=fun x=>by have:=c3.1 x;omega
    exact .inl ⟨h,by omega,by omega⟩
  ·rw[if_pos c2];have hr:r=0:=by
    rcases qP6 r with h|h
    ·exact h
    ·exact absurd ⟨by omega,c2⟩ c
   have c3:¬(m<0↔n<0):=fun h=>c2 (propext h);apply qo9;rw[e4];rcases Int.lt_or_lt_of_ne hn with h|h
   ·have:=e1 h;have:¬m<0:=fun q=>c3 ⟨fun _=>h,fun _=>q⟩;exact .inr ⟨h,by omega,by omega⟩
   ·have:=e2 h;have:m<=0:=by
     rcases Decidable.em (m<0) with q|q
     ·omega
     ·exact absurd ⟨fun x=>by omega,fun x=>by omega⟩ c3
    exact .inl ⟨h,by omega,by omega⟩
theorem qJQ:tI 1=[49]:=rfl
theorem q4l(n:Nat):(tN n=[48])=(n=0):=by rw[<-qBG];exact propext ⟨fun h=>qwp h,fun h=>by rw[h]⟩
theorem qIZ(m:Int){n:Int}(hn:n≠0):nl (fq m n)<=nl m+2:=by have h:=qNc m hn;have h2:=uv h;have h3:=qBb m.natAbs 1;have h4:(tN 1).length=1:=rfl;have:=qkD m.natAbs;unfold nl;omega
theorem q3L(m n:Int)(hn0:n≠0)(hm:nl m<=400000)(hn:nl n<=400000):(jl [.s (tI m),.s (tI n)]).run=some (0,[.s (tI (fq m n)),.s (tI (m-fq m n*n))]):=by
 rw[qty];have hbr:=q5H m n;by_cases hb:(tN m.natAbs).length<=18/\(tN n.natAbs).length<=18
 ·rw[if_pos hb] at hbr;have b1:=qJi hb.1;have b2:=qJi hb.2;obtain⟨h1,h2,h3,h4⟩:=qo2 m hn0;obtain⟨g1,g2⟩:=qJ3 (m:=m) hn0;have ht:=qKY m n;by_cases c0:qby m n=0
  ·obtain⟨e1,e2⟩:=g2 (fun h=>h.1 c0);rw[e2,e1];have w1:zY .i64 m (qby m n)=n*m.tdiv n:=by rw[zc (by omega)];omega
   have w2:=qju (t:=m.tdiv n) hn0 (by omega);have o1:=q1x (m.tdiv n) (by omega) (by omega);have o2:=q1x (qby m n) (by omega) (by omega);simp only[STD,hbr,hn0,c0] at w1 o2 ⊢;simp only[STD,w1,w2,o1,o2]
  ·by_cases c1:(qby m n<0)=(n<0)
   ·obtain⟨e1,e2⟩:=g2 (fun h=>h.2 c1);rw[e2,e1];have w1:zY .i64 m (qby m n)=n*m.tdiv n:=by rw[zc (by omega)];omega
    have w2:=qju (t:=m.tdiv n) hn0 (by omega);have o1:=q1x (m.tdiv n) (by omega) (by omega);have o2:=q1x (qby m n) (by omega) (by omega);have hbq:(ilt (qby m n) 0=ilt n 0)=True:=by simp only[ilt,decide_eq_decide,eq_iff_iff,iff_true];rw[c1]
    simp only[STD,hbr,hn0,c0,hbq,w1,w2,o1,o2]
   ·obtain⟨e1,e2⟩:=g1 ⟨c0,c1⟩;rw[e2,e1];have w0:qm .i64 (qby m n) n=qby m n+n:=qK (by omega);have e3:n*(m.tdiv n-1)=n*m.tdiv n-n:=by rw[Int.mul_sub,Int.mul_one]
    have w1:zY .i64 m (qby m n+n)=n*(m.tdiv n-1):=by rw[zc (by omega)];omega
    have w2:=qju (t:=m.tdiv n-1) hn0 (by omega);have o1:=q1x (m.tdiv n-1) (by omega) (by omega);have o2:=q1x (qby m n+n) (by omega) (by omega);have hbq:(ilt (qby m n) 0=ilt n 0)=False:=by simp only[ilt,decide_eq_decide,eq_iff_iff,iff_false];exact fun h=>c1 (propext h)
    simp only[STD,hbr,hn0,c0,hbq,w0,w1,w2,o1,o2]
 ·rw[if_neg hb] at hbr;have hm':(tN m.natAbs).length<=400000:=hm;have hn':(tN n.natAbs).length<=400000:=hn;have hD:=qsm (m:=m.natAbs) (n:=n.natAbs) (by omega) (by omega) (by omega);have lq:(tN (m.natAbs/n.natAbs)).length<=(tN m.natAbs).length:=uv (qPS _ _);have hS:=fun b=>kd (m.natAbs/n.natAbs) b (by omega);have hbq:(decide (m<0)=decide (n<0))=((m<0)=(n<0)):=by simp only[decide_eq_decide,eq_iff_iff]
  have lf:=qIZ m hn0;have hT:=qnY (fq m n) n (by omega) (by omega);have lt:=yZ (fq m n) n;have hM:=qa3 m (fq m n*n) (by omega) (by omega);obtain⟨g1,g2⟩:=qMq (m:=m) hn0;by_cases c1:(m<0)=(n<0)
  ·have e1:=g2 (fun h=>h.2 c1);rw[if_neg (by simpa using c1)] at e1;have hS':=hS false;simp only[qOC,if_false] at hS';rw[<-e1] at hS';have hnb:(!Go.Eng.beq (decide (m<0)) (decide (n<0)))=false:=by simp only[Go.Eng.beq,Bool.not_eq_false',beq_iff_eq];rw[hbq];exact c1
   by_cases c0:m.natAbs%n.natAbs=0
   ·simp only[STD,hbr,wt,hD,vN,hnb,hS',zM,q4l,c0,hT,hM]
   ·simp only[STD,hbr,wt,hD,vN,hnb,hS',zM,q4l,c0,hT,hM]
  ·have hnb:(!Go.Eng.beq (decide (m<0)) (decide (n<0)))=true:=by
    have:¬(decide (m<0)=decide (n<0)):=by rw[hbq];exact c1
    simp only[Go.Eng.beq,qPy,beq_eq_false_iff_ne];exact this
   have hS':=hS true;simp only[if_true] at hS';by_cases c0:m.natAbs%n.natAbs=0
   ·have e1:=g2 (fun h=>h.1 c0);rw[if_pos c1] at e1;rw[<-e1] at hS';simp only[STD,hbr,wt,hD,vN,hnb,hS',zM,q4l,c0,hT,hM]
   ·have e1:=g1 ⟨c0,c1⟩;have hMi:=qa3 (-((m.natAbs/n.natAbs:Nat):Int)) 1 (by rw[qrN];show (tN (m.natAbs/n.natAbs)).length<=_;omega) (by decide);rw[qJQ,<-e1] at hMi;simp only[STD,hbr,wt,hD,vN,hnb,hS',zM,q4l,c0,hMi,hT,hM]
theorem qMS(x:Nat){y:Nat}(h:0<y):fq (x:Int) (y:Int)=((x/y:Nat):Int)/\(x:Int)-fq (x:Int) (y:Int)*(y:Int)=((x%y:Nat):Int):=by
 have e:fq (x:Int) (y:Int)=((x/y:Nat):Int):=by unfold fq;rw[if_pos (by omega)];rfl
 refine⟨e,?_⟩;rw[e];have:=qPZ x y;have h2:((y*(x/y):Nat):Int)=((x/y:Nat):Int)*(y:Int):=by rw[Nat.mul_comm];simp
 omega
theorem qIP(a b:Nat)(hb:b<9223372036854775808):(qf q05 [.i (a:Int),.i (b:Int)]).run=some (0,[.i ((Nat.gcd a b:Nat):Int)]):=by
 obtain⟨j,qs,h1,rfl,rfl⟩:=jh (S:=q05) (fun k ps=>∃x y:Nat,ps=[.i (x:Int),.i (y:Int)]/\y=k/\Nat.gcd x y=Nat.gcd a b)
  (fun j qs=>j=0/\qs=[.i ((Nat.gcd a b:Nat):Int)]) (n:=b) hb (fun k ps hk ⟨x,y,hps,hy,hg⟩=>by
  subst hps;rw[qns];by_cases h0:y=0
  ·right;refine⟨0,[.i (x:Int)],?_,rfl,?_⟩
   ·simp only[STD,h0];simp[]
   ·rw[<-hg,h0,Nat.gcd_zero_right]
  ·left;refine⟨x%y,[.i (y:Int),.i ((x%y:Nat):Int)],by rw[<-hy];exact qPg _ (by omega),?_,y,x%y,rfl,rfl,?_⟩
   ·simp only[STD,show (0:Int)<(y:Int) by omega,show ¬((y:Int)=0) by omega,qr0]
   ·rw[<-hg,qPt y,<-Nat.gcd_rec,qPt]) (ps:=[.i (a:Int),.i (b:Int)]) ⟨a,b,rfl,rfl,rfl⟩
 exact h1
def eM(a b:Nat):Nat:=if b=0 then 0 else Nat.log2 (a*b)+1+if a<b then 1 else 0
theorem qGc{m n:Nat}(h:m<=n):Nat.log2 m<=Nat.log2 n:=by
 by_cases hm:m=0
 ·subst hm;simp
 ·rcases qO6 (Nat.log2 n) (Nat.log2 m) with h1|h1
  ·have:=(Nat.log2_lt (show n≠0 by omega)).1 h1;have h2:=Nat.log2_self_le hm;omega
  ·exact h1
theorem qFi{a b:Nat}(hb:b≠0):eM b (a%b)<eM a b:=by
 have hlt:=qPg a (show 0<b by omega);unfold eM;rw[if_neg hb];by_cases hr:a%b=0
 ·rw[if_pos hr];omega
 ·rw[if_neg hr,if_neg (show ¬b<a%b by omega)];by_cases hab:a<b
  ·rw[if_pos hab,Nat.mod_eq_of_lt hab,Nat.mul_comm b a];omega
  ·rw[if_neg hab];have hd:=qPZ a b;have hq:1<=a/b:=(Nat.le_div_iff_mul_le (by omega)).2 (by omega);have h1:b*1<=b*(a/b):=Nat.mul_le_mul_left _ hq;have h2:2*(b*(a%b))<=a*b:=by
    have:2*(a%b)<=a:=by omega
    have:=qOq b this;rw[Nat.mul_assoc,Nat.mul_comm (a%b) b] at this;exact this
   have h3:=qGc h2;have h4:Nat.log2 (2*(b*(a%b)))=Nat.log2 (b*(a%b))+1:=by apply Nat.log2_two_mul;exact Nat.mul_ne_zero hb hr
   omega
theorem qHF{x k j:Nat}(h:(tN x).length<=k)(hj:4*k=j):x<2^j:=by
 have h3:x<10^k:=q6z h;have h4:(10:Nat)^k<=16^k:=Nat.pow_le_pow_left (by omega) _;have h5:(16:Nat)^k=2^j:=by rw[show (16:Nat)=2^4 from rfl,<-Nat.pow_mul,hj]
 rw[h5] at h4;exact qOG h3 h4
theorem qDi{a b:Nat}(ha:(tN a).length<=400000)(hb:(tN b).length<=400000):eM a b<9223372036854775808:=by
 unfold eM;have h1:=qtt a b;by_cases h0:a*b=0
 ·rw[h0];simp;split<;>(try split)<;>omega
 ·obtain⟨j,hj⟩:∃j,j=3200000:=⟨_,rfl⟩;have h2:a*b<2^j:=qHF (k:=800000) (by omega) (by omega);have:=(Nat.log2_lt h0).2 h2;split<;>(try split)<;>omega
theorem quc(m n:Int)(hm:nl m<=400000)(hn:nl n<=400000):(q7P [.s (tI m),.s (tI n)]).run=some (0,[.s (tN (Nat.gcd m.natAbs n.natAbs))]):=by
 rw[qsR];have hm':(tN m.natAbs).length<=400000:=hm;have hn':(tN n.natAbs).length<=400000:=hn;have hS:=fun x (h:(tN x).length<=400000)=>kd x false (by omega);simp only[qOC,if_false,q1o] at hS;obtain⟨j,qs,h1,h2,rfl⟩:=jh (S:=q47) (fun k ps=>∃x y:Nat,ps=[.s (tN x),.s (tN y)]/\eM x y=k/\Nat.gcd x y=Nat.gcd m.natAbs n.natAbs/\(tN x).length<=400000/\(tN y).length<=400000)
  (fun j qs=>(j=0\/j=1)/\qs=[.s (tN (Nat.gcd m.natAbs n.natAbs))]) (n:=eM m.natAbs n.natAbs) (qDi hm' hn') (fun k ps hk ⟨x,y,hps,hy,hg,lx,ly⟩=>by
  subst hps;rw[qoY];by_cases h0:y=0
  ·right;refine⟨0,[.s (tN x)],?_,.inl rfl,?_⟩
   ·simp only[STD,zM,q4l,h0]
   ·rw[<-hg,h0,Nat.gcd_zero_right]
  ·have hbr:=q5H (x:Int) (y:Int);rw[q1o,q1o] at hbr;simp only[Int.natAbs_natCast] at hbr;by_cases hb:(tN x).length<=18/\(tN y).length<=18
   ·right;rw[if_pos hb] at hbr;have b1:=qJi (m:=(x:Int)) hb.1;have b2:=qJi (m:=(y:Int)) hb.2;simp only[Int.natAbs_natCast] at b1 b2;have hE:=qIP x y (by omega);have hgl:Nat.gcd x y<=y:=Nat.gcd_le_right _ (by omega);have hO:=q1x ((Nat.gcd x y:Nat):Int) (by omega) (by omega);rw[q1o] at hO;refine⟨1,[.s (tN (Nat.gcd x y))],?_,.inr rfl,by rw[hg]⟩;simp only[STD,zM,q4l,h0,hbr,hE,hO]
   ·left;rw[if_neg hb] at hbr;have hP:=q3L (x:Int) (y:Int) (by omega) (by exact lx) (by exact ly);rw[q1o,q1o,(qMS x (show 0<y by omega)).2,q1o] at hP;refine⟨eM y (x%y),[.s (tN y),.s (tN (x%y))],by rw[<-hy];exact qFi h0,?_,y,x%y,rfl,rfl,?_,ly,qO2 (uv (Nat.le_of_lt (qPg _ (by omega)))) ly⟩
    ·simp only[STD,zM,q4l,h0,hbr,hP]
    ·rw[<-hg,qPt y,<-Nat.gcd_rec,qPt]) (ps:=[.s (tN m.natAbs),.s (tN n.natAbs)]) ⟨_,_,rfl,rfl,rfl,hm',hn'⟩
 rcases h2 with rfl|rfl
 ·simp only[STD,wt,hS _ hm',hS _ hn',h1,zh h1,ite_self]
 ·simp only[STD,wt,hS _ hm',hS _ hn',h1,zh h1,ite_self]
def mag(s:qNX):List UInt8:=if s.getD 0 0=45 then s.drop 1 else s
theorem qAj(m:Int):mag (tI m)=tN m.natAbs:=by
 unfold mag;by_cases h:m<0
 ·rw[qbQ h];simp
 ·rw[qlb h];obtain⟨c,t,e,h1,h2⟩:=qjz (zL m.natAbs) (qta _);rw[e];simp only[qPr];rw[if_neg];intro hc;subst hc;revert h1;decide
theorem qGG(s:qNX):(∃m:Int,s=tI m)↔mag s≠[]/\q6D (mag s)/\((mag s).getD 0 0=48->s.length=1):=by
 constructor
 ·rintro ⟨m,rfl⟩;rw[qAj];refine⟨qta _,zL _,fun h=>?_⟩;rcases qF3 m.natAbs with h1|h1
  ·have h2:=qxN m.natAbs;have hv:m.natAbs=0:=by obtain⟨c,e⟩:∃c,tN m.natAbs=[c]:=List.length_eq_one_iff.1 h1;rw[e] at h;simp at h;have:=q04 m.natAbs;rw[e,h] at this;simpa[val,dv] using this.symm
   have hm0:m=0:=by omega
   rw[hm0];rfl
  ·exact absurd h h1
 ·rintro ⟨h1,h2,h3⟩;by_cases h45:s.getD 0 0=45
  ·have hm:mag s=s.drop 1:=by unfold mag;rw[if_pos h45]
   obtain⟨c,t,rfl⟩:∃c t,s=c::t:=by
    cases s with
    | nil=>simp at h45
    | cons c t=>exact⟨c,t,rfl⟩
   simp at h45;subst h45;rw[hm] at h1 h2 h3;simp only[List.drop_succ_cons,List.drop_zero] at h1 h2 h3;have h4:t.getD 0 0≠48:=fun h=>by have:=h3 h;simp at this;exact h1 this
   have hv:=qCy h2 h1 h4;have hp:0<10^(t.length-1):=Nat.pow_pos (by omega);refine⟨-((val t:Nat):Int),?_⟩;rw[qbQ (by omega)];simp only[Int.natAbs_neg,Int.natAbs_natCast];rw[<-qtq h2 h1 (.inr h4)]
  ·have hm:mag s=s:=by unfold mag;rw[if_neg h45]
   rw[hm] at h1 h2 h3;refine⟨((val s:Nat):Int),?_⟩;rw[q1o];refine qtq h2 h1 ?_;by_cases h4:s.getD 0 0=48
   ·exact .inl (h3 h4)
   ·exact .inr h4
open Classical in
noncomputable def qCQ(s:qNX):Int:=if ∃m:Int,s=tI m then (if (mag s).length<=1024 then 0 else 11) else 3
end Go.Eng

namespace Go.Eng
variable {q:Rat}
def tQ(q:Rat):List UInt8:=if q.den=1 then tI q.num else tI q.num++47::tN q.den
def dl(n:Nat):Nat:=(tN n).length
def qn(q:Rat):Nat:=nl q.num
def qd(q:Rat):Nat:=dl q.den
theorem qFd {s:qNX}(h:q6D s):∀c,c∈s->c≠47:=fun c hc e=>by have:=h c hc;rw[e] at this;revert this;decide
theorem quF (m:Int):∀c,c∈tI m->c≠47:=by
 intro c hc;unfold tI at hc;split at hc
 ·rcases qOj.1 hc with rfl|hc
  ·decide
  ·exact qFd (zL _) c hc
 ·exact qFd (zL _) c hc
theorem qCH:∀{s s' t t':qNX},(∀c,c∈s->c≠47)->(∀c,c∈s'->c≠47)->s++47::t=s'++47::t'->s=s'/\t=t'
 | [],[],t,t',_,_,h=>⟨rfl,by simpa using h⟩
 | [],c::s',t,t',_,h2,h=>by
  simp only[qPi,qPo,qPF] at h;exact absurd h.1.symm (h2 c qOm)
 | c::s,[],t,t',h1,_,h=>by
  simp only[qPi,qPo,qPF] at h;exact absurd h.1 (h1 c qOm)
 | c::s,c'::s',t,t',h1,h2,h=>by
  simp only[qPo,qPF] at h;obtain⟨e1,e2⟩:=qCH (fun c hc=>h1 c (qOo _ hc)) (fun c hc=>h2 c (qOo _ hc)) h.2;exact⟨by rw[h.1,e1],e2⟩
theorem qj3 (h:q.den=1):tQ q=tI q.num:=by unfold tQ;rw[if_pos h]
theorem qdt (h:q.den≠1):tQ q=tI q.num++47::tN q.den:=by unfold tQ;rw[if_neg h]
theorem qMy {a b:Rat}(h:tQ a=tQ b):a=b:=by
 by_cases ha:a.den=1<;>by_cases hb:b.den=1
 ·rw[qj3 ha,qj3 hb] at h;exact Rat.ext (qyP h) (ha.trans hb.symm)
 ·rw[qj3 ha,qdt hb] at h;exact absurd rfl (quF a.num 47 (by rw[h];simp))
 ·rw[qdt ha,qj3 hb] at h;exact absurd rfl (quF b.num 47 (by rw[<-h];simp))
 ·rw[qdt ha,qdt hb] at h;obtain⟨e1,e2⟩:=qCH (quF _) (quF _) h;exact Rat.ext (qyP e1) (qwp e2)
theorem qEh (a b:Rat):(tQ a=tQ b)=(a=b):=propext ⟨qMy,fun h=>by rw[h]⟩
theorem qG7 (m:Int):tQ (m:Rat)=tI m:=qj3 (by simp)
theorem qtA {m n:Int}(h:m.natAbs<=n.natAbs):nl m<=nl n:=uv h
theorem qL1 {m n:Nat}(h:m<=n):dl m<=dl n:=uv h
theorem qi8 (n:Nat):nl (n:Int)=dl n:=rfl
theorem qFy (m n:Nat):dl (m*n)<=dl m+dl n:=qtt m n
theorem qCu (m n:Int):nl (m-n)<=max (nl m) (nl n)+1:=by
 rw[Int.sub_eq_add_neg];have:=qzT m (-n)
 rwa [qrN] at this
theorem qjB (N:Int)(D:Nat):nl (mkRat N D).num<=nl N/\dl (mkRat N D).den<=dl D:=by
 rw[Rat.num_mkRat,Rat.den_mkRat];by_cases h:D=0
 ·rw[if_pos h,if_pos h,h];exact⟨qtA (by simp),by decide⟩
 ·rw[if_neg h,if_neg h];exact⟨qtA (qQ2 _ _),qL1 (qPS _ _)⟩
theorem qJV (a b:Rat):qn (a*b)<=qn a+qn b:=by unfold qn;rw[Rat.mul_def'];exact qO2 (qjB _ _).1 (yZ _ _)
theorem qJF (a b:Rat):qd (a*b)<=qd a+qd b:=by unfold qd;rw[Rat.mul_def'];exact qO2 (qjB _ _).2 (qFy _ _)
theorem qMf (a b:Rat):qn (a+b)<=max (qn a+qd b) (qn b+qd a)+1:=by unfold qn qd;rw[Rat.add_def'];have h1:=(qjB (a.num*b.den+b.num*a.den) (a.den*b.den)).1;have h2:=qzT (a.num*b.den) (b.num*a.den);have h3:=yZ a.num b.den;have h4:=yZ b.num a.den;rw[qi8] at h3 h4;omega
theorem qLF (a b:Rat):qd (a+b)<=qd a+qd b:=by unfold qd;rw[Rat.add_def'];exact qO2 (qjB _ _).2 (qFy _ _)
theorem qLQ (a b:Rat):qn (a-b)<=max (qn a+qd b) (qn b+qd a)+1:=by unfold qn qd;rw[Rat.sub_def'];have h1:=(qjB (a.num*b.den-b.num*a.den) (a.den*b.den)).1;have h2:=qCu (a.num*b.den) (b.num*a.den);have h3:=yZ a.num b.den;have h4:=yZ b.num a.den;rw[qi8] at h3 h4;omega
theorem qMb (a b:Rat):qd (a-b)<=qd a+qd b:=by unfold qd;rw[Rat.sub_def'];exact qO2 (qjB _ _).2 (qFy _ _)
theorem qM1 (a:Rat):qn (-a)=qn a:=by unfold qn;rw[Rat.neg_num,qrN]
theorem qwk (a:Rat):0<qn a:=qt6 _
theorem qvV (a:Rat):0<qd a:=qkD _
theorem qLH {a:Rat}(h:a≠0):qn a⁻¹<=qd a:=by unfold qn qd;rw[Rat.num_inv,<-qi8];apply qtA;rw[qPc,qQf (by rwa [Ne,Rat.num_eq_zero])];simp
theorem qMQ {a:Rat}(h:a≠0):qd a⁻¹<=qn a:=by unfold qn qd;rw[Rat.den_inv,if_neg (by rwa [Rat.num_eq_zero])];exact qO0 _
theorem qM7 (a:Rat){b:Rat}(h:b≠0):qn (a/b)<=qn a+qd b:=by rw[Rat.div_def];exact qO2 (qJV _ _) (Nat.add_le_add_left (qLH h) _)
theorem qLE (a:Rat){b:Rat}(h:b≠0):qd (a/b)<=qd a+qn b:=by rw[Rat.div_def];exact qO2 (qJF _ _) (Nat.add_le_add_left (qMQ h) _)
def sgq(q:Rat):Int:=sgn q.num
theorem qKW (m:Int):sgn (-m)=-sgn m:=by
 unfold sgn;rcases qPw m 0 with h|h|h
 ·rw[if_pos h,if_neg (by omega),if_neg (by omega)];rfl
 ·subst h;rfl
 ·rw[if_pos (by omega),if_neg (by omega),if_neg (by omega)]
theorem qCf (h:0<q):sgq q=1:=by
 unfold sgq sgn;have h1:0<=q.num:=Rat.num_nonneg.2 (Rat.le_of_lt h);have h2:q.num≠0:=fun e=>by rw[Rat.num_eq_zero] at e;rw[e] at h;exact Rat.lt_irrefl h
 rw[if_neg (by omega),if_neg h2]
theorem qKz (q:Rat):sgq (-q)=-sgq q:=by unfold sgq;rw[Rat.neg_num,qKW]
theorem qJB (h:q<0):sgq q=-1:=by
 have h1:0 < -q:=by grind
 have:=qCf h1;rw[qKz] at this;omega
theorem qsu (q:Rat):(q<0/\sgq q=-1)\/(q=0/\sgq q=0)\/(0<q/\sgq q=1):=by
 by_cases h1:q<0
 ·exact .inl ⟨h1,qJB h1⟩
 ·by_cases h2:q=0
  ·exact .inr (.inl ⟨h2,by rw[h2];rfl⟩)
  ·exact .inr (.inr ⟨by grind,qCf (by grind)⟩)
theorem qE2 (q:Rat):(sgq q<0)=(q<0):=by rcases qsu q with⟨h,e⟩|⟨h,e⟩|⟨h,e⟩<;>rw[e]<;>simp<;>grind
theorem qF1 (N:Int){D:Nat}(h:D≠0):sgq (mkRat N D)=sgn N:=by
 have hp:(0:Rat)<(D:Rat):=by
  have:0<D:=by omega
  exact Rat.natCast_pos.2 this
 have e:(mkRat N D)*(D:Rat)=(N:Rat):=by rw[Rat.mkRat_eq_div];exact Rat.div_mul_cancel (by grind)
 have h2:sgn N=sgq (N:Rat):=by unfold sgq;simp
 rw[h2,<-e];rcases qsu (mkRat N D) with⟨h,e⟩|⟨h,e⟩|⟨h,e⟩
 ·rw[e,qJB];exact(Rat.mul_neg_iff_of_pos_right hp).2 h
 ·rw[e,h,Rat.zero_mul];rfl
 ·rw[e,qCf];exact qPL h hp
theorem qKd (a b:Rat):sgq (a-b)=sgn (a.num*b.den-b.num*a.den):=by rw[Rat.sub_def',qF1];exact Nat.mul_ne_zero a.den_nz b.den_nz
end Go.Eng

namespace Go.Eng
def sP(s:qNX):Nat:=s.findIdx (·==47)
def spn(s:qNX):List UInt8:=s.take (sP s)
def spd(s:qNX):List UInt8:=if sP s<s.length then s.drop (sP s+1) else [49]
theorem qKL(s:qNX):sP s<=s.length:=List.findIdx_le_length
theorem qKp{s:qNX}{i:Nat}(h:i<s.length)(h1:s[i]=47)(h2:∀j (hj:j<i),s[j]≠47):sP s=i:=by unfold sP;rw[List.findIdx_eq h];exact⟨by simp[h1],fun j hj=>by simp[h2 j hj]⟩
theorem qyt{s:qNX}(h:∀c,c∈s->c≠47):sP s=s.length:=by unfold sP;rw[List.findIdx_eq_length];intro x hx;simpa using h x hx
theorem qFt{s t:qNX}(h:∀c,c∈s->c≠47):sP (s++47::t)=s.length:=by
 apply qKp (by simp)
 ·simp
 ·intro j hj;rw[List.getElem_append_left hj];exact h _ (qOI hj)
theorem qGP(q:Rat):spn (tQ q)=tI q.num:=by
 unfold spn;by_cases h:q.den=1
 ·rw[qj3 h,qyt (quF _),qP9]
 ·rw[qdt h,qFt (quF _)];simp
theorem qHA(q:Rat):spd (tQ q)=tN q.den:=by
 unfold spd;by_cases h:q.den=1
 ·rw[qj3 h,qyt (quF _),if_neg (Nat.lt_irrefl _),h];rfl
 ·rw[qdt h,qFt (quF _),if_pos (by simp)];simp
theorem qKE(s:qNX)(hl:s.length<=9223372036854775807):(q9N [.s s]).run=some (0,[.i (if sP s<s.length then (sP s:Int) else -1)]):=by
 rw[qug];obtain⟨j,qs,h1,h2⟩:=jh (S:=q5i) (fun k ps=>∃i:Nat,ps=[.s s,.i (i:Int)]/\i+k=s.length/\∀j (hj:j<i) (hj2:j<s.length),s[j]≠47)
  (fun j qs=>(¬sP s<s.length/\j=0/\qs=[])\/(sP s<s.length/\j=1/\qs=[.i (sP s:Int)])) (n:=s.length) (by omega) (fun k ps hk ⟨i,hps,hi,hd⟩=>by
  subst hps;rw[qqg];by_cases hlt:i<s.length
  ·have a1:(i:Int)<qu s:=by unfold qu;omega
   have a2:(0:Int)<=(i:Int):=by omega
   have hs:=qsZ hlt;have hw:qm .i64 (i:Int) 1=((i+1:Nat):Int):=by rw[qK (by omega)];omega
   by_cases b1:s[i]=47
   ·right;have e:=qKp hlt b1 (fun j hj=>hd j hj (by omega));have b2:(s[i].toNat:Int)=47:=by rw[b1];rfl
    refine⟨1,[.i (i:Int)],?_,.inr ⟨by rw[e];exact hlt,rfl,by rw[e]⟩⟩;simp only[STD,a1,a2,hs,b2,and_self]
   ·left;have b2:¬(s[i].toNat:Int)=47:=fun h=>b1 (qQ1.1 (by show s[i].toNat=47;omega));refine⟨k-1,[.s s,.i ((i+1:Nat):Int)],by omega,?_,i+1,rfl,by omega,?_⟩
    ·simp only[STD,a1,a2,hs,b2,and_self,hw]
    ·intro j hj hj2;rcases qO6 j i with h|h
     ·exact hd j h hj2
     ·obtain rfl:j=i:=by omega
      exact b1
  ·right;have a1:¬((i:Int)<qu s):=by unfold qu;omega
   refine⟨0,[],?_,.inl ⟨?_,rfl,rfl⟩⟩
   ·simp only[STD,a1]
   ·rw[qyt]
    ·omega
    ·intro c hc;obtain⟨j,hj,rfl⟩:=List.mem_iff_getElem.1 hc;exact hd j (by omega) hj) (ps:=[.s s,.i 0]) ⟨0,rfl,by omega,fun j hj=>by omega⟩
 rcases h2 with⟨h2,rfl,rfl⟩|⟨h2,rfl,rfl⟩
 ·rw[if_neg h2];simp only[STD,h1,zh h1]
 ·rw[if_pos h2];simp only[STD,h1,zh h1,show ¬(1=0) by omega]
theorem qL6(s:qNX)(hl:s.length<=9223372036854775807):(uu [.s s]).run=some (0,[.s (spn s),.s (spd s)]):=by
 rw[qvu];have hs:=qKE s hl;have hle:=qKL s;unfold spd spn;by_cases h:sP s<s.length
 ·rw[if_pos h] at hs ⊢;have a1:¬((sP s:Int)<0):=by omega
  have a2:(sP s:Int)<=qu s:=by unfold qu;omega
  have hw:qm .i64 (sP s:Int) 1=((sP s+1:Nat):Int):=by rw[qK (by omega)];omega
  have a3:((sP s+1:Nat):Int)<=qu s:=by unfold qu;omega
  have e1:qdh s 0 (sP s:Int)=s.take (sP s):=by simp[qdh]
  have e2:qdh s ((sP s+1:Nat):Int) (qu s)=s.drop (sP s+1):=by unfold qdh qu;simp only[qO9,qP9]
  simp only[STD,hs,a1,a2,hw,a3,e1,e2,show (0:Int)<=(sP s:Int) by omega,show (0:Int)<=((sP s+1:Nat):Int) by omega,show (0:Int)<=qu s by unfold qu;omega,qOF,and_self]
 ·rw[if_neg h] at hs ⊢;have e:s.take (sP s)=s:=List.take_of_length_le (by omega);rw[e];simp only[STD,hs,show (-1:Int)<0 by omega]
theorem qJC(q:Rat):(tQ q).length<=qn q+qd q+2:=by
 have h1:=qzX q.num;unfold qn qd nl dl;by_cases h:q.den=1
 ·rw[qj3 h];omega
 ·rw[qdt h];simp;omega
theorem qxr(q:Rat)(hn:qn q<=400000)(hd:qd q<=400000):(uu [.s (tQ q)]).run=some (0,[.s (tI q.num),.s (tI (q.den:Int))]):=by have:=qJC q;rw[qL6 _ (by omega),qGP,qHA,q1o]
theorem qiV(a b:Rat)(ha:qn a<=400000)(ha':qd a<=400000)(hb:qn b<=400000)(hb':qd b<=400000) :(zr [.s (tQ a),.s (tQ b)]).run=some (0,[.r [[.s (tI (a.num*b.den))],[.s (tI (b.num*a.den))],[.s (tI (a.den*b.den))],[.s (tI (a.num*b.num))],[.s (tI (a.den*b.num))]]]):=by rw[qqx];have t:=fun (m n:Int) (h1:nl m<=400000) (h2:nl n<=400000)=>qnY m n (by omega) (by omega);simp only[STD,qxr a ha ha',qxr b hb hb',t a.num b.den ha hb',t b.num a.den hb ha',t a.den b.den ha' hb',t a.num b.num ha hb,t a.den b.num ha' hb]
theorem qa8(n:Nat):(tN n=[49])=(n=1):=by have:tN 1=[49]:=rfl;rw[<-this];exact propext ⟨fun h=>qwp h,fun h=>by rw[h]⟩
theorem qr6(m n:Int)(hn:n≠0)(hm':nl m<=400000)(hn':nl n<=400000):(vw [.s (tI m),.s (tI n)]).run=some (0,[.s (tQ (Rat.divInt m n))]):=by
 rw[qrZ];have hS:=quc m n hm' hn';have hg0:0<Nat.gcd m.natAbs n.natAbs:=Nat.gcd_pos_of_pos_right _ (by omega);have hgn:Nat.gcd m.natAbs n.natAbs<=n.natAbs:=Nat.gcd_le_right _ (by omega);have hgl:(tN (Nat.gcd m.natAbs n.natAbs)).length<=400000:=qO2 (uv hgn) hn';have hnum:=Rat.num_divInt m n;have hden:=Rat.den_divInt m n;rw[if_neg hn] at hden;have hgc:Int.gcd n m=Nat.gcd m.natAbs n.natAbs:=by unfold Int.gcd;exact qPt _ _
 rw[hgc] at hnum hden;obtain⟨k,hk⟩:((Nat.gcd m.natAbs n.natAbs:Nat):Int) ∣ m:=Int.ofNat_dvd_left.2 (Nat.gcd_dvd_left _ _);obtain⟨l,hl⟩:((Nat.gcd m.natAbs n.natAbs:Nat):Int) ∣ n:=Int.ofNat_dvd_left.2 (Nat.gcd_dvd_right _ _);generalize Nat.gcd m.natAbs n.natAbs=g at *;generalize Rat.divInt m n=q at *;have hB:=vN n;have hm2:k*(g:Int)=m:=by rw[qP7];exact hk.symm
 have hn2:l*(g:Int)=n:=by rw[qP7];exact hl.symm
 have hql:nl q.num<=400000:=by refine qO2 (qtA ?_) hm';rw[hnum];refine qO2 (qQ2 _ _) ?_;rw[qPc,qQf hn];omega
 have hdl:(tN q.den).length<=400000:=by refine qO2 (uv ?_) hn';rw[hden];exact qPS _ _
 have hil:=qzX q.num;have hil2:(tN q.num.natAbs).length<=400000:=hql;have fin:(Tree.br (seq (tI (q.den:Int)) [49]) (Tree.leaf (0,[PV.s (tI q.num)])) (Tree.br (ile (qu (tI q.num)+qu [47]) 140737488355328) (Tree.br (ile (qu (qeJ (tI q.num) [47])+qu (tI (q.den:Int))) 140737488355328)
   (Tree.leaf (0,[PV.s (qeJ (qeJ (tI q.num) [47]) (tI (q.den:Int)))])) Tree.fail) Tree.fail)).run=some (0,[PV.s (tQ q)]):=by
  rw[q1o];have a1:qu (tI q.num)+qu [47]<=140737488355328:=by unfold qu;simp;omega
  have a2:qu (qeJ (tI q.num) [47])+qu (tN q.den)<=140737488355328:=by unfold qu qeJ;simp;omega
  by_cases h1:q.den=1
  ·simp only[STD,zM,qa8,h1,qj3 h1]
  ·simp only[STD,zM,qa8,h1,qdt h1,a1,a2];simp[qeJ]
 by_cases hneg:n<0
 ·have hT:=qd3 (g:Int) (by simp only[Int.natAbs_natCast];omega);rw[q1o] at hT;have e1:fq m (-(g:Int))=q.num:=by have:fq ((-k)*(-(g:Int))) (-(g:Int))=-k:=qqX (by omega);rw[show (-k)*(-(g:Int))=m by rw[qQ3];exact hm2] at this;rw[this,hnum,Int.sign_eq_neg_one_of_neg hneg,<-hm2];rw[show (-1:Int)*(k*(g:Int))=(-k)*(g:Int) by rw[Int.neg_mul,qPj,Int.neg_mul]];exact(qPI _ (by omega)).symm
  have e2:fq n (-(g:Int))=(q.den:Int):=by
   have:fq ((-l)*(-(g:Int))) (-(g:Int))=-l:=qqX (by omega);rw[show (-l)*(-(g:Int))=n by rw[qQ3];exact hn2] at this;rw[this,hden];have h3:(n.natAbs:Int)=(-l)*(g:Int):=by rw[Int.neg_mul];omega
   rw[Int.natCast_ediv,h3,qPI _ (by omega)]
  have P1:=q3L m (-(g:Int)) (by omega) hm' (by rw[qrN];exact hgl);have P2:=q3L n (-(g:Int)) (by omega) hn' (by rw[qrN];exact hgl);rw[e1] at P1;rw[e2] at P2;simp only[STD,hS,hB,hneg,hT,P1,P2] at fin ⊢;exact fin
 ·have e1:fq m (g:Int)=q.num:=by have:fq (k*(g:Int)) (g:Int)=k:=qqX (by omega);rw[hm2] at this;rw[this,hnum,Int.sign_eq_one_of_pos (by omega),qPj,<-hm2];exact(qPI _ (by omega)).symm
  have e2:fq n (g:Int)=(q.den:Int):=by
   have:fq (l*(g:Int)) (g:Int)=l:=qqX (by omega);rw[hn2] at this;rw[this,hden];have h3:(n.natAbs:Int)=l*(g:Int):=by omega
   rw[Int.natCast_ediv,h3,qPI _ (by omega)]
  have P1:=q3L m (g:Int) (by omega) hm' hgl;have P2:=q3L n (g:Int) (by omega) hn' hgl;rw[e1,q1o] at P1;rw[e2,q1o] at P2;simp only[STD,hS,hB,hneg,P1,P2] at fin ⊢;rw[q1o] at fin;exact fin
def sm(K:Nat)(q:Rat):Prop:=qn q<=K/\qd q<=K
theorem qHY(a:Rat):(0:Int)<(a.den:Int):=by have:=a.den_nz;omega
theorem q8e{a b:Rat}(ha:sm 100000 a)(hb:sm 100000 b):(wu [.s (tQ a),.s (tQ b)]).run=some (0,[.s (tQ (a+b))]):=by
 rw[qwZ];obtain⟨h1,h2⟩:=ha;obtain⟨h3,h4⟩:=hb;have hc:=qiV a b (by omega) (by omega) (by omega) (by omega);simp only[qn,qd] at h1 h2 h3 h4;have l1:=yZ a.num b.den;have l2:=yZ b.num a.den;have l3:=yZ a.den b.den;rw[qi8] at l1 l2 l3;rw[qi8] at l3;have l4:=qzT (a.num*b.den) (b.num*a.den);have hP:=qqa (a.num*b.den) (b.num*a.den) (by omega) (by omega);have hL:=qr6 (a.num*b.den+b.num*a.den) (a.den*b.den) (by have:=Int.mul_pos (qHY a) (qHY b);omega) (by omega) (by omega);have e:Rat.divInt (a.num*b.den+b.num*a.den) ((a.den:Int)*(b.den:Int))=a+b:=by rw[Rat.add_def',<-Rat.divInt_ofNat];simp
 rw[e] at hL;simp only[STD,hc,cS,zH,qg,qOt,qOJ,Int.toNat_zero,qPr,U.toS,show (1:Int).toNat=1 from rfl,show (2:Int).toNat=2 from rfl,List.getD_cons_succ,hP,hL];simp[]
theorem q6m{a b:Rat}(ha:sm 100000 a)(hb:sm 100000 b):(jo [.s (tQ a),.s (tQ b)]).run=some (0,[.s (tQ (a-b))]):=by
 rw[qu1];obtain⟨h1,h2⟩:=ha;obtain⟨h3,h4⟩:=hb;have hc:=qiV a b (by omega) (by omega) (by omega) (by omega);simp only[qn,qd] at h1 h2 h3 h4;have l1:=yZ a.num b.den;have l2:=yZ b.num a.den;have l3:=yZ a.den b.den;rw[qi8] at l1 l2 l3;rw[qi8] at l3;have l4:=qCu (a.num*b.den) (b.num*a.den);have hP:=qa3 (a.num*b.den) (b.num*a.den) (by omega) (by omega);have hL:=qr6 (a.num*b.den-b.num*a.den) (a.den*b.den) (by have:=Int.mul_pos (qHY a) (qHY b);omega) (by omega) (by omega);have e:Rat.divInt (a.num*b.den-b.num*a.den) ((a.den:Int)*(b.den:Int))=a-b:=by rw[Rat.sub_def',<-Rat.divInt_ofNat];simp
 rw[e] at hL;simp only[STD,hc,cS,zH,qg,qOt,qOJ,Int.toNat_zero,qPr,U.toS,show (1:Int).toNat=1 from rfl,show (2:Int).toNat=2 from rfl,List.getD_cons_succ,hP,hL];simp[]
theorem q30{a b:Rat}(ha:sm 100000 a)(hb:sm 100000 b):(zn [.s (tQ a),.s (tQ b)]).run=some (0,[.s (tQ (a*b))]):=by
 rw[qtZ];obtain⟨h1,h2⟩:=ha;obtain⟨h3,h4⟩:=hb;have hc:=qiV a b (by omega) (by omega) (by omega) (by omega);simp only[qn,qd] at h1 h2 h3 h4;have l1:=yZ a.num b.num;have l3:=yZ a.den b.den;rw[qi8,qi8] at l3;have hL:=qr6 (a.num*b.num) (a.den*b.den) (by have:=Int.mul_pos (qHY a) (qHY b);omega) (by omega) (by omega);have e:Rat.divInt (a.num*b.num) ((a.den:Int)*(b.den:Int))=a*b:=by rw[Rat.mul_def',<-Rat.divInt_ofNat];simp
 rw[e] at hL;simp only[STD,hc,cS,zH,qg,qOt,qOJ,U.toS,show (3:Int).toNat=3 from rfl,show (2:Int).toNat=2 from rfl,List.getD_cons_succ,qPr,hL];simp[]
theorem qDJ{a b:Rat}(hb0:b≠0)(ha:sm 100000 a)(hb:sm 100000 b):(qjj [.s (tQ a),.s (tQ b)]).run=some (0,[.s (tQ (a/b))]):=by
 rw[qB3];obtain⟨h1,h2⟩:=ha;obtain⟨h3,h4⟩:=hb;have hc:=qiV a b (by omega) (by omega) (by omega) (by omega);simp only[qn,qd] at h1 h2 h3 h4;have l1:=yZ a.num b.den;have l3:=yZ a.den b.num;rw[qi8] at l1 l3;have hbn:b.num≠0:=fun h=>hb0 (Rat.num_eq_zero.1 h);have hL:=qr6 (a.num*b.den) (a.den*b.num) (by have:=qHY a;exact Int.mul_ne_zero (by omega) hbn) (by omega) (by omega);have e:Rat.divInt (a.num*b.den) ((a.den:Int)*b.num)=a/b:=by rw[Rat.div_def,Rat.inv_def,<-Rat.divInt_mul_divInt,Rat.num_divInt_den]
 rw[e] at hL;simp only[STD,hc,cS,zH,qg,qOt,qOJ,U.toS,Int.toNat_zero,show (4:Int).toNat=4 from rfl,List.getD_cons_succ,qPr,hL];simp[]
theorem qnX{a b:Rat}(ha:sm 100000 a)(hb:sm 100000 b):(uq [.s (tQ a),.s (tQ b)]).run=some (0,[.i (sgq (a-b))]):=by rw[quZ];obtain⟨h1,h2⟩:=ha;obtain⟨h3,h4⟩:=hb;have hc:=qiV a b (by omega) (by omega) (by omega) (by omega);simp only[qn,qd] at h1 h2 h3 h4;have l1:=yZ a.num b.den;have l2:=yZ b.num a.den;rw[qi8] at l1 l2;have hP:=qn3 (a.num*b.den) (b.num*a.den) (by omega) (by omega);rw[<-qKd] at hP;simp only[STD,hc,cS,zH,qg,qOt,qOJ,U.toS,Int.toNat_zero,show (1:Int).toNat=1 from rfl,List.getD_cons_succ,qPr,hP];simp[]
theorem quC{a:Rat}(ha:sm 100000 a):(q1C [.s (tQ a)]).run=some (0,[.i (sgq a)]):=by rw[qtG];obtain⟨h1,h2⟩:=ha;have hP:=qn3 a.num 0 (by unfold qn at h1;omega) (by decide);rw[Int.sub_zero,show tI 0=[48] from rfl] at hP;simp only[STD,qxr a (by omega) (by omega),hP];rfl
variable {n:Nat}
def mv:List Int->Int
 | []=>0
 | x::l=>x+1000000000*mv l
def pB(n:Nat):Int:=1000000000^n
theorem q6n:pB 0=1:=rfl
theorem qbg (n:Nat):pB (n+1)=pB n*1000000000:=Int.pow_succ _ _
theorem qc5:∀n,0<pB n
 | 0=>by decide
 | n+1=>by rw[qbg];have:=qc5 n;omega
theorem qN1 (m n:Nat):pB (m+n)=pB m*pB n:=Int.pow_add _ _ _
theorem qdp {m n:Nat}(h:m<=n):pB m<=pB n:=by
 obtain⟨k,rfl⟩:∃k,n=m+k:=⟨n-m,by omega⟩;induction k with
 | zero=>simp
 | succ k ih=>
  have h1:=ih (by omega);rw[show m+(k+1)=(m+k)+1 by omega,qbg];have:=qc5 (m+k);omega
def dgs(l:List Int):Prop:=∀x,x∈l->0<=x/\x<1000000000
theorem qD2:∀(l:List Int) (j:Nat) (h:j<l.length) (y:Int),mv (l.set j y)=mv l+(y-l[j])*pB j
 | [],j,h,_=>by simp at h
 | x::l,0,_,y=>by simp only[qOe,mv,List.getElem_cons_zero,q6n];omega
 | x::l,j+1,h,y=>by
  have ih:=qD2 l j (by simpa using h) y;simp only[qOg,mv,List.getElem_cons_succ,qbg];rw[ih];grind
theorem qE0:∀(l:List Int) (n:Nat),dgs l->(∀i,n<=i->l.getD i 0=0)->0<=mv l/\mv l<pB n
 | [],n,_,_=>⟨qOF _,qc5 n⟩
 | x::l,0,hd,hz=>by
  have ih:=qE0 l 0 (fun y hy=>hd y (qOo _ hy)) (fun i _=>by have:=hz (i+1) (by omega);simpa using this);have hx:x=0:=by simpa using hz 0 (by omega)
  rw[q6n] at ih ⊢;simp only[mv];omega
 | x::l,n+1,hd,hz=>by
  have ih:=qE0 l n (fun y hy=>hd y (qOo _ hy)) (fun i hi=>by have:=hz (i+1) (by omega);simpa using this);have hx:=hd x qOm;rw[qbg];simp only[mv];generalize pB n=p at *;omega
theorem qM8:∀(l:List Int) (j:Nat) (h:j<l.length),dgs l->l[j]≠0->pB j<=mv l
 | [],j,h,_,_=>by simp at h
 | x::l,0,_,hd,hx=>by
  have h1:=hd x qOm;have h2:=(qE0 l l.length (fun y hy=>hd y (qOo _ hy)) (fun i hi=>by simp[hi])).1;simp only[List.getElem_cons_zero] at hx;simp only[mv,q6n];omega
 | x::l,j+1,h,hd,hx=>by
  have ih:=qM8 l j (by simpa using h) (fun y hy=>hd y (qOo _ hy)) (by simpa using hx);have h1:=hd x qOm;rw[qbg];simp only[mv];omega
theorem qDh:∀(s t:List Int),mv (s++t)=mv s+pB s.length*mv t
 | [],t=>by simp[mv,q6n]
 | x::s,t=>by
  simp only[qPo,mv,qOt,qbg];rw[qDh s t];grind
theorem qf8 (n:Nat):mv (List.replicate n 0)=0:=by
 induction n with
 | zero=>rfl
 | succ n ih=>simp[qPn,mv,ih]
theorem qcQ {l:List Int}{i:Nat}(h:i<l.length):mv (l.drop i)=l[i]+1000000000*mv (l.drop (i+1)):=by rw[List.drop_eq_getElem_cons h];rfl
theorem v7 {l:List Int}{n i:Nat}(hd:dgs l)(hz:∀i,n<=i->l.getD i 0=0)(hi:n<=i):mv (l.drop i)=0:=by have:=qE0 (l.drop i) 0 (fun x hx=>hd x (qQ7 hx)) (fun j _=>by have:=hz (i+j) (by omega);simpa[qNZ] using this);rw[q6n] at this;omega
structure WOK (n:Nat) (l:List Int):Prop where
 len:l.length=232
 le:n<=232
 dig:dgs l
 z:∀i,n<=i->l.getD i 0=0
def nrm(n:Nat)(l:List Int):Prop:=n=0\/l.getD (n-1) 0≠0
theorem WOK.bd {l:List Int}(h:WOK n l):0<=mv l/\mv l<pB n:=qE0 l n h.dig h.z
theorem WOK.lo {l:List Int}(h:WOK n l)(hn:nrm n l)(h0:n≠0):pB (n-1)<=mv l:=by
 have h1:=h.le;have h2:=h.len;rcases hn with hn|hn
 ·exact absurd hn h0
 ·refine qM8 l (n-1) (by omega) h.dig ?_
  rwa [jm (by omega)] at hn
theorem qAn (N i:Nat):(List.replicate N (0:Int)).getD i 0=0:=by rw[qNZ,List.getElem?_replicate];split<;>rfl
theorem qFM (N:Nat):dgs (List.replicate N 0):=fun x hx=>by have:=(qQ9.1 hx).2;omega
theorem WOK.zero:WOK 0 (List.replicate 232 0):=⟨List.length_replicate,by omega,qFM 232,fun i _=>qAn 232 i⟩
theorem WOK.get {l:List Int}(h:WOK n l)(i:Nat):0<=l.getD i 0/\l.getD i 0<1000000000:=by
 rcases qO6 i l.length with hi|hi
 ·rw[jm hi];exact h.dig _ (qOI hi)
 ·simp[hi]
theorem WOK.setW {l:List Int}(h:WOK n l){j:Nat}{y:Int}(hj:j<232)(hy:0<=y/\y<1000000000):WOK (max n (j+1)) (l.set j y):=by
 have h1:=h.le;refine⟨by simp[h.len],by omega,fun x hx=>?_,fun i hi=>?_⟩
 ·rcases qQe hx with hx|rfl
  ·exact h.dig x hx
  ·exact hy
 ·have:=h.z i (by omega);rw[qNZ,qO1 (by omega),<-qNZ];exact this
theorem q4Y (l:List Int)(i:Nat):cI (rI l) (i:Int) 0=l.getD i 0:=by rw[qCc,qO9]
theorem qlz (l:List Int)(i:Nat)(v:Int):qaz (rI l) (i:Int) 0 [.i v]=rI (l.set i v):=by rw[qzF,qO9]
theorem qnu {l:List Int}(h:WOK n l)(b:Bool):∃m,(qL [.b b,.i (n:Int),.r (rI l)]).run=some (0,[.b b,.i ((m:Nat):Int),.r (rI l)])/\WOK m l/\nrm m l:=by
 rw[qiJ];have h232:=h.le;obtain⟨j,qs,h1,rfl,m,rfl,h3,h4⟩:=jh (S:=j3) (fun k ps=>ps=[.b b,.i (k:Int),.r (rI l)]/\WOK k l)
  (fun j qs=>j=0/\∃m:Nat,qs=[.b b,.i (m:Int),.r (rI l)]/\WOK m l/\nrm m l) (n:=n) (by omega) (fun k ps hk ⟨hps,hw⟩=>by
  subst hps;rw[qfI];have hk2:=hw.le;by_cases h0:k=0
  ·right;refine⟨0,_,?_,rfl,k,rfl,hw,.inl h0⟩;simp only[STD,h0];rfl
  ·have hs:zY .i64 (k:Int) 1=((k-1:Nat):Int):=by rw[zc (by omega)];omega
   have a1:(0:Int)<(k:Int):=by omega
   have a2:(0:Int)<=((k-1:Nat):Int)/\((k-1:Nat):Int)<232:=by omega
   by_cases hz:l.getD (k-1) 0=0
   ·left;refine⟨k-1,[.b b,.i ((k-1:Nat):Int),.r (rI l)],by omega,?_,rfl,hw.len,by omega,hw.dig,fun i hi=>?_⟩
    ·simp only[STD,a1,hs,a2,q4Y,hz,and_self]
    ·rcases qPx hi with e|e
     ·rw[<-e];exact hz
     ·exact hw.z i (by omega)
   ·right;refine⟨0,[.b b,.i (k:Int),.r (rI l)],?_,rfl,k,rfl,hw,.inr hz⟩;simp only[STD,a1,hs,a2,q4Y,hz,and_self]) (ps:=[.b b,.i (n:Int),.r (rI l)]) ⟨rfl,h⟩
 exact⟨m,by simp only[STD,h1],h3,h4⟩
theorem qMZ (s:Int):∃q r:Int,s.tdiv 1000000000=q/\s=q*1000000000+r/\(0<=s->0<=r)/\(s<=0->r<=0)/\-1000000000<r/\r<1000000000:=by obtain⟨h1,h2,h3,h4⟩:=qo2 s (show (1000000000:Int)≠0 by decide);refine⟨_,qby s 1000000000,rfl,by omega,h3,h4,by omega,by omega⟩
theorem qDN {f up rest:Int}{i n j:Nat}{l ly:List Int}{bx b2:Bool}{ny:Nat}{S:Int}(hj:((j:Nat):Int)=qm .i64 (i:Int) up)(hj2:j<232)(hw:WOK n l)(hin:i<233)(hS:S=if i<ny then l.getD j 0+rest+f*ly.getD i 0 else l.getD j 0+rest) (hr:-1000000000<=rest/\rest<=1000000000) (hfy:-999999999999999999<=f*ly.getD i 0/\f*ly.getD i 0<=999999999999999999) (hny:ny<=232)(hgo:i<ny\/rest≠0) :∃q s:Int,S=q*1000000000+s/\0<=s/\s<1000000000 /\(vQ [.i f,.i up,.i rest,.i (i:Int),.b bx,.i (n:Int),.r (rI l),.b b2,.i (ny:Int),.r (rI ly)]).run=some (0,[.i f,.i up,.i q,.i ((i+1:Nat):Int),.b bx,.i ((max n (j+1):Nat):Int),.r (rI (l.set j s)),.b b2,.i (ny:Int),.r (rI ly)]):=by
 have hg:=hw.get j;obtain⟨q,r,e1,e2,e3,e4,e5,e6⟩:=qMZ S;have hSb:-1000000000999999999<=S/\S<=1000000001999999998:=by rw[hS];split<;>omega
 have w1:qcl .i64 S 1000000000=q:=by unfold qcl;rw[e1];unfold IntKind.wrap;simp[IntKind.signed,IntKind.bits];omega
 have w2:wL .i64 q 1000000000=q*1000000000:=q0G (by omega);have w3:zY .i64 S (q*1000000000)=r:=by rw[zc (by omega)];omega
 have w4:qm .i64 (l.getD j 0) rest=l.getD j 0+rest:=qK (by omega);have w5:qm .i64 (i:Int) 1=((i+1:Nat):Int):=by rw[qK (by omega)];omega
 have w6:qm .i64 (j:Int) 1=((j+1:Nat):Int):=by rw[qK (by omega)];omega
 have w7:quL (n:Int) ((j+1:Nat):Int)=((max n (j+1):Nat):Int):=qwY _ _;have a1:(0:Int)<=(j:Int)/\(j:Int)<232:=by omega
 have hw8:r<0->qm .i64 r 1000000000=r+1000000000:=fun _=>qK (by omega);have hw9:r<0->zY .i64 q 1=q-1:=fun _=>zc (by omega);rw[q8f];by_cases hi:i<ny
 ·rw[if_pos hi] at hS;have a2:(i:Int)<(ny:Int):=by omega
  have a3:(0:Int)<=(i:Int)/\(i:Int)<232:=by omega
  have w10:wL .i64 f (ly.getD i 0)=f*ly.getD i 0:=q0G (by omega);have w11:qm .i64 (l.getD j 0+rest) (f*ly.getD i 0)=S:=by rw[qK (by omega),hS]
  by_cases hneg:r<0
  ·refine⟨q-1,r+1000000000,by omega,by omega,by omega,?_⟩;simp only[STD,a2,<-hj,a1,a3,q4Y,w4,w10,w11,w1,w2,w3,hneg,hw8 hneg,hw9 hneg,w5,w6,w7,qlz,and_self]
  ·refine⟨q,r,by omega,by omega,by omega,?_⟩;simp only[STD,a2,<-hj,a1,a3,q4Y,w4,w10,w11,w1,w2,w3,hneg,w5,w6,w7,qlz,and_self]
 ·rw[if_neg hi] at hS;have hr0:rest≠0:=hgo.resolve_left hi;have a2:¬(i:Int)<(ny:Int):=by omega
  rw[<-hS] at w4;by_cases hneg:r<0
  ·refine⟨q-1,r+1000000000,by omega,by omega,by omega,?_⟩;simp only[STD,a2,hr0,<-hj,a1,q4Y,w4,w1,w2,w3,hneg,hw8 hneg,hw9 hneg,w5,w6,w7,qlz,and_self]
  ·refine⟨q,r,by omega,by omega,by omega,?_⟩;simp only[STD,a2,hr0,<-hj,a1,q4Y,w4,w1,w2,w3,hneg,w5,w6,w7,qlz,and_self]
theorem qtC {f:Int}{up nx ny:Nat}{lx ly:List Int}(hx:WOK nx lx)(hy:WOK ny ly)(hf:-999999999<=f/\f<=999999999)(hup:ny+up<=232){T:Int}(hT:T=mv lx+f*mv ly*pB up)(h0:0<=T)(h1:T<pB 232)(bx b2:Bool) :∃(n:Nat) (l:List Int),(qQ [.i f,.i (up:Int),.b bx,.i (nx:Int),.r (rI lx),.b b2,.i (ny:Int),.r (rI ly)]).run=some (0,[.b bx,.i (n:Int),.r (rI l),.b b2,.i (ny:Int),.r (rI ly)])/\WOK n l/\nrm n l/\mv l=T:=by
 rw[ql4];have hny:=hy.le;obtain⟨j,qs,g1,rfl,n,l,rfl,g3,g4⟩:=jh (S:=vQ) (fun k ps=>∃(i n:Nat) (rest:Int) (l:List Int),ps=[.i f,.i (up:Int),.i rest,.i (i:Int),.b bx,.i (n:Int),.r (rI l),.b b2,.i (ny:Int),.r (rI ly)] /\
   i+k=300/\i<=232/\WOK n l/\-1000000000<=rest/\rest<=1000000000/\mv l+rest*pB (i+up)+f*mv (ly.drop i)*pB (i+up)=T)
  (fun j qs=>j=0/\∃(n:Nat) (l:List Int),qs=[.b bx,.i (n:Int),.r (rI l),.b b2,.i (ny:Int),.r (rI ly)]/\WOK n l/\mv l=T) (n:=300) (by omega) (fun k ps hk ⟨i,n,rest,l,hps,hik,hi,hw,hr1,hr2,hv⟩=>by
  subst hps;have hg:=hy.get i;have hfy:=qN8 (A:=999999999) (B:=999999999) hf.1 hf.2 (show -(999999999:Int)<=ly.getD i 0 by omega) (show ly.getD i 0<=999999999 by omega);have hbd:=hw.bd;have hn232:=hw.le;by_cases hgo:i<ny\/rest≠0
  ·left;have hj:i+up<232:=by
    rcases qO6 i ny with h|h
    ·omega
    ·rcases qO6 (i+up) 232 with h2|h2
     ·exact h2
     ·exfalso;have hr0:=hgo.resolve_left (by omega);rw[v7 hy.dig hy.z h] at hv;have hP:=qdp h2;have hlt:=qdp hn232;simp only[Int.mul_zero,Int.zero_mul,Int.add_zero] at hv;generalize pB (i+up)=P at *;rcases Int.lt_or_lt_of_ne hr0 with h3|h3
      ·have:rest*P<=-1*P:=qPT (by omega) (by have:=qc5 232;omega);omega
      ·have:1*P<=rest*P:=qPT (by omega) (by have:=qc5 232;omega);omega
   have hjw:(((i+up:Nat)):Int)=qm .i64 (i:Int) (up:Int):=by rw[qK (by omega)];omega
   obtain⟨q,s,s1,s2,s3,s4⟩:=qDN (bx:=bx) (b2:=b2) (f:=f) (ly:=ly) hjw hj hw (by omega) rfl ⟨hr1,hr2⟩ (by omega) hny hgo;refine⟨k-1,_,by omega,s4,i+1,_,q,_,rfl,by omega,by omega,hw.setW hj ⟨s2,s3⟩,?_,?_,?_⟩
   ·have hgl:=hw.get (i+up);split at s1<;>omega
   ·have hgl:=hw.get (i+up);split at s1<;>omega
   ·have hjl:i+up<l.length:=by rw[hw.len];exact hj
    rw[qD2 l (i+up) hjl,<-hv,show i+1+up=(i+up)+1 by omega,qbg];rw[jm hjl] at s1;have hil:i<ly.length:=by rw[hy.len];omega
    rw[qcQ hil];rw[jm hil] at s1;generalize pB (i+up)=P at *;generalize l[i+up]=d at *;by_cases hiny:i<ny
    ·rw[if_pos hiny] at s1;generalize ly[i]=y at *;generalize mv (ly.drop (i+1))=m at *;grind
    ·rw[if_neg hiny] at s1;have z1:ly[i]=0:=by rw[<-jm hil];exact hy.z i (by omega)
     rw[z1,v7 hy.dig hy.z (show ny<=i+1 by omega)];grind
  ·right;have c1:¬i<ny:=fun h=>hgo (.inl h);have c2:rest=0:=Decidable.byContradiction fun h=>hgo (.inr h);refine⟨0,[.b bx,.i (n:Int),.r (rI l),.b b2,.i (ny:Int),.r (rI ly)],?_,rfl,n,l,rfl,hw,?_⟩
   ·rw[q8f];have a2:¬(i:Int)<(ny:Int):=by omega
    simp only[STD,a2,c2]
   ·rw[v7 hy.dig hy.z (by omega),c2] at hv;simp only[Int.mul_zero,Int.zero_mul,Int.add_zero] at hv;exact hv) (ps:=[.i f,.i (up:Int),.i 0,.i 0,.b bx,.i (nx:Int),.r (rI lx),.b b2,.i (ny:Int),.r (rI ly)])
  ⟨0,nx,0,lx,rfl,by omega,by omega,hx,by omega,by omega,by simp[hT]⟩
 obtain⟨m,t1,t2,t3⟩:=qnu g3 bx;exact⟨m,l,by simp only[STD,g1,t1],t2,t3,g4⟩
end Go.Eng

namespace Go.Eng
theorem qbX(l:List Int)(j:Nat)(h:j<=l.length):mv l=mv (l.take j)+pB j*mv (l.drop j):=by have:=qDh (l.take j) (l.drop j);rw[qQa,qOX,qOY h] at this;exact this
theorem qIr{l:List Int}(h:dgs l)(j:Nat):dgs (l.take j):=fun x hx=>h x (qQ6 hx)
theorem qa7{l:List Int}(h:dgs l)(j:Nat):0<=mv (l.take j)/\mv (l.take j)<pB j:=
 qE0 (l.take j) j (qIr h j) fun i hi=>by rw[qNZ,qOl (by simp;omega)];rfl
theorem qpB{l:List Int}{i:Nat}(h:i<l.length):mv (l.take (i+1))=mv (l.take i)+l[i]*pB i:=by rw[List.take_succ_eq_append_getElem h,qDh,qOX,qOY (by omega)];simp only[mv];grind
theorem WOK.mono{n m:Nat}{l:List Int}(h:WOK n l)(hm:n<=m)(h2:m<=232):WOK m l:=⟨h.len,h2,h.dig,fun i hi=>h.z i (by omega)⟩
theorem qnJ{n:Nat}{l:List Int}(h:WOK n l)(hn:nrm n l):(n=0)=(mv l=0):=by
 apply propext;constructor
 ·intro h0;have:=h.bd;rw[h0,q6n] at this;omega
 ·intro h0;rcases qP6 n with h1|h1
  ·exact h1
  ·have:=h.lo hn (by omega);have:=qc5 (n-1);omega
theorem qNG{n m:Nat}{l k:List Int}(h:WOK n l)(hn:nrm n l)(h2:WOK m k)(hle:mv l<=mv k):n<=m:=by
 rcases qO6 m n with h3|h3
 ·exfalso;have h4:=h.lo hn (by omega);have h5:=h2.bd.2;have h6:=qdp (show m<=n-1 by omega);omega
 ·exact h3
theorem qDm{nx ny:Nat}{lx ly:List Int}(hx:WOK nx lx)(hnx:nrm nx lx)(hy:WOK ny ly)(hny:nrm ny ly)(bx b2:Bool) :∃r:Int,(wR [.b bx,.i (nx:Int),.r (rI lx),.b b2,.i (ny:Int),.r (rI ly)]).run=some (0,[.i r,.b bx,.i (nx:Int),.r (rI lx),.b b2,.i (ny:Int),.r (rI ly)])/\((0<=r)=(mv ly<=mv lx)):=by
 rw[qjY];have h1:=hx.le;have h2:=hy.le;by_cases hne:nx=ny
 ·subst hne;have hs:zY .i64 (nx:Int) 1=(nx:Int)-1:=zc (by omega);obtain⟨j,qs,g1,g2⟩:=jh (S:=jx) (fun k ps=>ps=[.i ((k:Int)-1),.b bx,.i (nx:Int),.r (rI lx),.b b2,.i (nx:Int),.r (rI ly)]/\k<=nx/\mv (lx.drop k)=mv (ly.drop k))
   (fun j qs=>(j=0/\qs=[.b bx,.i (nx:Int),.r (rI lx),.b b2,.i (nx:Int),.r (rI ly)]/\mv lx=mv ly)\/(j=1/\∃r:Int,qs=[.i r,.b bx,.i (nx:Int),.r (rI lx),.b b2,.i (nx:Int),.r (rI ly)]/\((0<=r)=(mv ly<=mv lx)))) (n:=nx) (by omega) (fun k ps hk ⟨hps,hkn,hd⟩=>by
   subst hps;rw[qh4];by_cases h0:k=0
   ·right;refine⟨0,_,?_,.inl ⟨rfl,rfl,?_⟩⟩
    ·have a:¬(0:Int)<=(k:Int)-1:=by omega
     simp only[STD,a]
    ·rw[h0] at hd;simpa using hd
   ·obtain⟨i,rfl⟩:∃i,k=i+1:=⟨k-1,by omega⟩;have e:(((i+1:Nat):Int)-1)=(i:Int):=by omega
    rw[e];have a1:(0:Int)<=(i:Int):=by omega
    have a2:(i:Int)<232:=by omega
    have gx:=hx.get i;have gy:=hy.get i;have hxl:i<lx.length:=by rw[hx.len];omega
    have hyl:i<ly.length:=by rw[hy.len];omega
    by_cases hc:lx.getD i 0=ly.getD i 0
    ·left;refine⟨i,[.i ((i:Int)-1),.b bx,.i (nx:Int),.r (rI lx),.b b2,.i (nx:Int),.r (rI ly)],by omega,?_,rfl,by omega,?_⟩
     ·have w:zY .i64 (i:Int) 1=(i:Int)-1:=zc (by omega);simp only[STD,a1,a2,and_self,q4Y,hc,w]
     ·rw[qcQ hxl,qcQ hyl,hd];rw[jm hxl,jm hyl] at hc;rw[hc]
    ·right;have w:zY .i64 (lx.getD i 0) (ly.getD i 0)=lx.getD i 0-ly.getD i 0:=zc (by omega);refine⟨1,[.i (lx.getD i 0-ly.getD i 0),.b bx,.i (nx:Int),.r (rI lx),.b b2,.i (nx:Int),.r (rI ly)],?_,.inr ⟨rfl,_,rfl,?_⟩⟩
     ·simp only[STD,a1,a2,and_self,q4Y,hc,w]
     ·have sx:=qbX lx i (by omega);have sy:=qbX ly i (by omega);rw[qcQ hxl] at sx;rw[qcQ hyl] at sy;have tx:=qa7 hx.dig i;have ty:=qa7 hy.dig i;rw[jm hxl,jm hyl] at hc ⊢;rw[hd] at sx;have hp:=qc5 i;generalize pB i=P at *;generalize lx[i]=u at *;generalize ly[i]=v at *;generalize mv (ly.drop (i+1))=w at *;have e1:P*(u+1000000000*w)=P*u+P*(1000000000*w):=Int.mul_add _ _ _;have e2:P*(v+1000000000*w)=P*v+P*(1000000000*w):=Int.mul_add _ _ _;have e3:P*(u-v)=P*u-P*v:=Int.mul_sub _ _ _;apply propext;rcases Int.lt_or_lt_of_ne (show u-v≠0 by omega) with h|h
      ·have:P*(u-v)<=P*(-1):=qQg (by omega) (by omega);constructor
       ·intro;omega
       ·intro;omega
      ·have:P*1<=P*(u-v):=qQg (by omega) (by omega);constructor
       ·intro;omega
       ·intro;omega) (ps:=[.i ((nx:Int)-1),.b bx,.i (nx:Int),.r (rI lx),.b b2,.i (nx:Int),.r (rI ly)])
   ⟨rfl,qO0 _,by rw[v7 hx.dig hx.z (qO0 _),v7 hy.dig hy.z (qO0 _)]⟩
  rcases g2 with⟨rfl,rfl,g2⟩|⟨rfl,r,rfl,g2⟩
  ·refine⟨0,?_,?_⟩
   ·simp only[STD,hs,g1,zh g1]
   ·apply propext;simp;omega
  ·refine⟨r,?_,g2⟩;simp only[STD,hs,g1,zh g1,show ¬(1=0) by omega]
 ·have hs:zY .i64 (nx:Int) (ny:Int)=(nx:Int)-(ny:Int):=zc (by omega);refine⟨(nx:Int)-(ny:Int),?_,?_⟩
  ·have a:¬(nx:Int)=(ny:Int):=by omega
   simp only[STD,a,hs]
  ·apply propext;have b1:=hx.bd;have b2:=hy.bd;rcases Nat.lt_or_gt_of_ne hne with h|h
   ·have:=hy.lo hny (by omega);have:=qdp (show nx<=ny-1 by omega);constructor
    ·intro;omega
    ·intro;omega
   ·have:=hx.lo hnx (by omega);have:=qdp (show ny<=nx-1 by omega);constructor
    ·intro;omega
    ·intro;omega
def sv(b:Bool)(l:List Int):Int:=if b then -mv l else mv l
theorem qJE{nx ny:Nat}{lx ly:List Int}(hx:WOK nx lx)(hnx:nrm nx lx)(hy:WOK ny ly)(hny:nrm ny ly)(hb:mv lx+mv ly<pB 232)(bx b2:Bool) :∃(b:Bool) (n:Nat) (l:List Int),(vd [.b bx,.i (nx:Int),.r (rI lx),.b b2,.i (ny:Int),.r (rI ly)]).run=some (0,[.b b,.i (n:Int),.r (rI l),.b b2,.i (ny:Int),.r (rI ly)])/\WOK n l/\nrm n l/\sv b l=sv bx lx+sv b2 ly:=by
 rw[qmz];have h1:=hx.bd;have h2:=hy.bd;have l1:=hx.le;have l2:=hy.le;by_cases hs:bx=b2
 ·subst hs;obtain⟨n,l,g1,g2,g3,g4⟩:=qtC (f:=1) (up:=0) hx hy (by omega) (by omega) (T:=mv lx+mv ly) (by rw[q6n];omega) (by omega) hb bx bx;refine⟨bx,n,l,?_,g2,g3,?_⟩
  ·simp only[STD,show ((0:Nat):Int)=0 from rfl] at g1 ⊢;simp only[STD,g1]
  ·unfold sv;rw[g4];cases bx<;>simp<;>omega
 ·obtain⟨r,r1,r2⟩:=qDm hx hnx hy hny bx b2;by_cases hr:mv ly<=mv lx
  ·have hr':0<=r:=by rw[r2];exact hr
   obtain⟨n,l,g1,g2,g3,g4⟩:=qtC (f:=-1) (up:=0) hx hy (by omega) (by omega) (T:=mv lx-mv ly) (by rw[q6n];omega) (by omega) (by omega) bx b2;refine⟨bx,n,l,?_,g2,g3,?_⟩
   ·simp only[show ((0:Nat):Int)=0 from rfl] at g1;simp only[STD,hs,r1,hr',g1]
   ·unfold sv;rw[g4];cases bx<;>cases b2<;>simp_all<;>omega
  ·have hr':¬0<=r:=by rw[r2];exact hr
   obtain⟨n,l,g1,g2,g3,g4⟩:=qtC (f:=-1) (up:=0) hy hx (by omega) (by omega) (T:=mv ly-mv lx) (by rw[q6n];omega) (by omega) (by omega) b2 bx;refine⟨b2,n,l,?_,g2,g3,?_⟩
   ·simp only[show ((0:Nat):Int)=0 from rfl] at g1;simp only[STD,hs,r1,hr',g1]
   ·unfold sv;rw[g4];cases bx<;>cases b2<;>simp_all<;>omega
theorem qGf{x y:Int}{m n:Nat}(h0:0<=x)(h1:x<pB m)(h2:0<=y)(h3:y<=pB n):x*y<pB (m+n)\/y=0:=by
 rcases Int.lt_or_eq_of_le h2 with h|h
 ·left;rw[qN1];have e1:x*y<pB m*y:=Int.mul_lt_mul_of_pos_right h1 h;have e2:pB m*y<=pB m*pB n:=qQg h3 (by omega);omega
 ·exact .inr h.symm
theorem qKe{nx ny:Nat}{lx ly:List Int}(hx:WOK nx lx)(hy:WOK ny ly)(hb:nx+ny<=232)(bx b2:Bool) :∃(n:Nat) (l:List Int),(uW [.b bx,.i (nx:Int),.r (rI lx),.b b2,.i (ny:Int),.r (rI ly)]).run=some (0,[.b bx,.i (nx:Int),.r (rI lx),.b b2,.i (ny:Int),.r (rI ly),.b (!(Go.Eng.beq bx b2)),.i (n:Int),.r (rI l)])/\WOK n l/\nrm n l/\mv l=mv lx*mv ly:=by
 rw[ql5];have hbx:=hx.bd;have e0:q3f 232 [.i 0]=rI (List.replicate 232 0):=qlO 232 0;obtain⟨j,qs,g1,rfl,n,l,rfl,g2,g3,g4⟩:=jh (S:=ya) (fun k ps=>∃(i n:Nat) (l:List Int),ps=[.i (ny:Int),.i (i:Int),.b bx,.i (nx:Int),.r (rI lx),.b b2,.i (ny:Int),.r (rI ly),.b (!(Go.Eng.beq bx b2)),.i (n:Int),.r (rI l)] /\
   i+k=ny/\WOK n l/\nrm n l/\mv l=mv lx*mv (ly.take i))
  (fun j qs=>j=0/\∃(n:Nat) (l:List Int),qs=[.b bx,.i (nx:Int),.r (rI lx),.b b2,.i (ny:Int),.r (rI ly),.b (!(Go.Eng.beq bx b2)),.i (n:Int),.r (rI l)]/\WOK n l/\nrm n l/\mv l=mv lx*mv ly) (n:=ny) (by omega) (fun k ps hk ⟨i,n,l,hps,hik,hw,hn,hv⟩=>by
  subst hps;rw[qi3];by_cases hi:i<ny
  ·left;have hil:i<ly.length:=by rw[hy.len];omega
   have gy:=hy.get i;have tb:=qa7 hy.dig i;have tb2:=qa7 hy.dig (i+1);have hT:mv lx*mv (ly.take (i+1))=mv l+ly.getD i 0*mv lx*pB i:=by rw[qpB hil,hv,jm hil];grind
   have hlt:mv lx*mv (ly.take (i+1))<pB 232:=by
    rcases qGf (n:=i+1) hbx.1 hbx.2 tb2.1 (by omega) with h|h
    ·exact Int.lt_of_lt_of_le h (qdp (by omega))
    ·rw[h,Int.mul_zero];exact qc5 _
   obtain⟨n',l',c1,c2,c3,c4⟩:=qtC (f:=ly.getD i 0) (up:=i) hw hx (by omega) (by omega) hT (qPH hbx.1 tb2.1) hlt (!(Go.Eng.beq bx b2)) bx;have w:qm .i64 (i:Int) 1=((i+1:Nat):Int):=by rw[qK (by omega)];omega
   refine⟨k-1,_,by omega,?_,i+1,n',l',rfl,by omega,c2,c3,c4⟩;have a1:(i:Int)<(ny:Int):=by omega
   have a2:(0:Int)<=(i:Int)/\(i:Int)<232:=by omega
   simp only[STD,a1,a2,and_self,q4Y,c1,w]
  ·right;have hi2:i=ny:=by omega
   have a1:¬(i:Int)<(ny:Int):=by omega
   refine⟨0,[.b bx,.i (nx:Int),.r (rI lx),.b b2,.i (ny:Int),.r (rI ly),.b (!(Go.Eng.beq bx b2)),.i (n:Int),.r (rI l)],?_,rfl,n,l,rfl,hw,hn,?_⟩
   ·simp only[STD,a1]
   ·have:=qbX ly ny (by rw[hy.len];exact hy.le);rw[v7 hy.dig hy.z (qO0 _),Int.mul_zero,Int.add_zero] at this;rw[hv,hi2,<-this])
  (ps:=[.i (ny:Int),.i 0,.b bx,.i (nx:Int),.r (rI lx),.b b2,.i (ny:Int),.r (rI ly),.b (!(Go.Eng.beq bx b2)),.i 0,.r (rI (List.replicate 232 0))])
  ⟨0,0,_,rfl,by omega,WOK.zero,.inl rfl,by rw[qf8];simp[mv]⟩
 refine⟨n,l,?_,g2,g3,g4⟩;simp only[e0];simp only[STD,g1]
theorem qE1{nx ny:Nat}{lx ly:List Int}(hx:WOK nx lx)(hnx:nrm nx lx)(hy:WOK ny ly)(hny:nrm ny ly)(h0:ny≠0)(hle:mv ly<=mv lx)(hlt:mv lx<pB (ny+1))(hn231:ny<=231)(bx b2:Bool) :∃k:Int,(q1m [.b bx,.i (nx:Int),.r (rI lx),.b b2,.i (ny:Int),.r (rI ly)]).run=some (0,[.i k,.b bx,.i (nx:Int),.r (rI lx),.b b2,.i (ny:Int),.r (rI ly)])/\1<=k/\k<=999999999/\k*mv ly<=mv lx:=by
 rw[qpd];obtain⟨m,rfl⟩:∃m,ny=m+1:=⟨ny-1,by omega⟩;have hxl:=hx.len;have hyl:=hy.len;have hnx1:m+1<=nx:=qNG hy hny hx hle;have hnx2:nx<=m+2:=by
  rcases qO6 (m+2) nx with h|h
  ·exfalso;have h1:=hx.lo hnx (by omega);have h2:=qdp (show m+1+1<=nx-1 by omega);omega
  ·exact h
 have gx1:=hx.get m;have gx2:=hx.get (m+1);have gy:=hy.get m;have sx:=qbX lx m (by omega);have sy:=qbX ly m (by omega);rw[qcQ (show m<lx.length by omega),qcQ (show m+1<lx.length by omega),v7 hx.dig hx.z (show nx<=m+1+1 by omega)] at sx;rw[qcQ (show m<ly.length by omega),v7 hy.dig hy.z (qO0 _)] at sy;have tx:=qa7 hx.dig m;have ty:=qa7 hy.dig m;have hyn:ly.getD m 0≠0:=by
  rcases hny with h|h
  ·omega
  ·simpa using h
 have w1:zY .i64 ((m+1:Nat):Int) 1=(m:Int):=by rw[zc (by omega)];omega
 have c1:¬((m+1:Nat):Int)<0:=by omega
 have c2:¬(nx:Int)<=(m:Int):=by omega
 have c3:¬(m:Int)<0:=by omega
 have c4:¬((m+1:Nat):Int)<=(m:Int):=by omega
 have c5:(0:Int)<=(m:Int)/\(m:Int)<232:=by omega
 have c6:(0:Int)<=((m+1:Nat):Int)/\((m+1:Nat):Int)<232:=by omega
 have gex:lx[m]'(by omega)=lx.getD m 0:=(jm (by omega)).symm;have gex1:lx[m+1]'(by omega)=lx.getD (m+1) 0:=(jm (by omega)).symm;have gey:ly[m]'(by omega)=ly.getD m 0:=(jm (by omega)).symm;rw[gex,gex1] at sx;rw[gey] at sy;have hp:=qc5 m;have key:∀a b:Int,a=lx.getD m 0+1000000000*lx.getD (m+1) 0->0<b->mv ly<=b*pB m->∀k,k=a/b->k*mv ly<=mv lx/\qjL k 999999999*mv ly<=mv lx:=by
  intro a b ha hb hbY k hk;have hk0:0<=k:=by rw[hk];exact Int.ediv_nonneg (by omega) (by omega)
  have hkb:k*b<=a:=by rw[hk];exact Int.ediv_mul_le a (by omega)
  have hY:=(hy.bd).1;have f1:k*mv ly<=k*(b*pB m):=qQg hbY hk0;have f2:k*b*pB m<=a*pB m:=qPT hkb (by omega);have f3:k*(b*pB m)=k*b*pB m:=(Int.mul_assoc _ _ _).symm;have f4:a*pB m=pB m*(lx.getD m 0+1000000000*(lx.getD (m+1) 0+1000000000*0)):=by rw[ha];grind
  have f5:k*mv ly<=mv lx:=by omega
  refine⟨f5,?_⟩;have:qjL k 999999999<=k:=by unfold qjL;split<;>omega
  have:=qPT this hY;omega
 have wq:∀a b:Int,0<=a->a<1000000000000000000->0<b->qcl .i64 a b=a/b:=by intro a b h1 h2 h3;unfold qcl;rw[Int.tdiv_eq_ediv_of_nonneg h1];have q1:0<=a/b:=Int.ediv_nonneg h1 (by omega);have q2:a/b<=a:=Int.ediv_le_self _ h1;generalize a/b=q at *;unfold IntKind.wrap;simp[IntKind.signed,IntKind.bits];omega
 have fin:∀k:Int,(0<k->k*mv ly<=mv lx/\qjL k 999999999*mv ly<=mv lx)->∃k':Int,(if 0<k then qjL k 999999999 else 1)=k'/\1<=k'/\k'<=999999999/\k'*mv ly<=mv lx:=by
  intro k hk;by_cases h:0<k
  ·rw[if_pos h];refine⟨_,rfl,?_,?_,(hk h).2⟩
   ·unfold qjL;split<;>omega
   ·unfold qjL;split<;>omega
  ·rw[if_neg h];exact⟨1,rfl,by omega,by omega,by omega⟩
 by_cases hcase:nx<=m+1
 ·have c7:(nx:Int)<=((m+1:Nat):Int):=by omega
  have z1:lx.getD (m+1) 0=0:=hx.z _ (by omega);have wa:qm .i64 0 (lx.getD m 0)=lx.getD m 0:=by rw[qK (by omega)];omega
  by_cases hm:m=0
  ·subst hm;have c8:¬(1:Int)<((0+1:Nat):Int):=by omega
   have hq:=wq (lx.getD 0 0) (ly.getD 0 0) (by omega) (by omega) (by omega);have hbY:mv ly<=ly.getD 0 0*pB 0:=by rw[q6n] at sy ty ⊢;omega
   obtain⟨k',f1,f2,f3,f4⟩:=fin (lx.getD 0 0/ly.getD 0 0) (fun _=>key _ _ (by rw[z1];omega) (by omega) hbY _ rfl);refine⟨k',?_,f2,f3,f4⟩;rw[<-f1];simp only[STD,c1,w1,c2,c3,c4,c5,c6,c7,c8,and_self,q4Y,wa,hyn,hq];split<;>rfl
  ·have c8:(1:Int)<((m+1:Nat):Int):=by omega
   have wb:qm .i64 (ly.getD m 0) 1=ly.getD m 0+1:=qK (by omega);have hq:=wq (lx.getD m 0) (ly.getD m 0+1) (by omega) (by omega) (by omega);have hbY:mv ly<=(ly.getD m 0+1)*pB m:=by
    have:(ly.getD m 0+1)*pB m=pB m*(ly.getD m 0+1000000000*0)+pB m:=by grind
    omega
   obtain⟨k',f1,f2,f3,f4⟩:=fin (lx.getD m 0/(ly.getD m 0+1)) (fun _=>key _ _ (by rw[z1];omega) (by omega) hbY _ rfl);refine⟨k',?_,f2,f3,f4⟩;rw[<-f1];have hne:¬ly.getD m 0+1=0:=by omega
   simp only[STD,c1,w1,c2,c3,c4,c5,c6,c7,c8,and_self,q4Y,wa,wb,hne,hq];split<;>rfl
 ·have c7:¬(nx:Int)<=((m+1:Nat):Int):=by omega
  have wm:wL .i64 (lx.getD (m+1) 0) 1000000000=lx.getD (m+1) 0*1000000000:=q0G (by omega);have wa:qm .i64 (lx.getD (m+1) 0*1000000000) (lx.getD m 0)=lx.getD (m+1) 0*1000000000+lx.getD m 0:=qK (by omega);by_cases hm:m=0
  ·subst hm;have c8:¬(1:Int)<((0+1:Nat):Int):=by omega
   have hq:=wq (lx.getD (0+1) 0*1000000000+lx.getD 0 0) (ly.getD 0 0) (by omega) (by omega) (by omega);have hbY:mv ly<=ly.getD 0 0*pB 0:=by rw[q6n] at sy ty ⊢;omega
   obtain⟨k',f1,f2,f3,f4⟩:=fin ((lx.getD (0+1) 0*1000000000+lx.getD 0 0)/ly.getD 0 0) (fun _=>key _ _ (by omega) (by omega) hbY _ rfl);refine⟨k',?_,f2,f3,f4⟩;rw[<-f1];simp only[STD,c1,w1,c2,c3,c4,c5,c6,c7,c8,and_self,q4Y,wm,wa,hyn,hq];split<;>rfl
  ·have c8:(1:Int)<((m+1:Nat):Int):=by omega
   have wb:qm .i64 (ly.getD m 0) 1=ly.getD m 0+1:=qK (by omega);have hq:=wq (lx.getD (m+1) 0*1000000000+lx.getD m 0) (ly.getD m 0+1) (by omega) (by omega) (by omega);have hbY:mv ly<=(ly.getD m 0+1)*pB m:=by
    have:(ly.getD m 0+1)*pB m=pB m*(ly.getD m 0+1000000000*0)+pB m:=by grind
    omega
   obtain⟨k',f1,f2,f3,f4⟩:=fin ((lx.getD (m+1) 0*1000000000+lx.getD m 0)/(ly.getD m 0+1)) (fun _=>key _ _ (by omega) (by omega) hbY _ rfl);refine⟨k',?_,f2,f3,f4⟩;rw[<-f1];have hne:¬ly.getD m 0+1=0:=by omega
   simp only[STD,c1,w1,c2,c3,c4,c5,c6,c7,c8,and_self,q4Y,wm,wa,wb,hne,hq];split<;>rfl
theorem qK2(u:Nat):Lib.decDigits u=tN u:=by
 induction u using Nat.strongRecOn with
 | _ u ih=>
  rw[Lib.decDigits];split
  ·rename_i h;rw[qzZ h];rfl
  ·rename_i h;rw[ih (u/10) (by omega)];exact(qBx (n:=u) (by omega)).symm
theorem qAI(n:Int):Lib.itoa n=tI n:=by
 unfold Lib.itoa;by_cases h:n<0
 ·rw[if_pos h,qK2,qbQ h]
 ·rw[if_neg h,qK2,qlb h];congr 1;omega
theorem qMi(n:Int)(h:-9223372036854775808<=n/\n<=9223372036854775807):(q3R [.i n]).run=some (0,[.s (tI n)]):=by show (qGi [.i n]).run=_;unfold qGi;simp only;rw[if_pos h,qAI];rfl
theorem qzA{c:UInt8}(h:48<=c.toNat/\c.toNat<=57):Lib.digitVal c=some (dv c):=by
 unfold Lib.digitVal dv
 simp_all
theorem qtM:∀{s:qNX} (a:Nat),q6D s->Lib.decFrom a s=some (a*10^s.length+val s)
 | [],a,_=>by simp[Lib.decFrom,val]
 | c::s,a,h=>by
  obtain⟨h1,h2⟩:=q01.1 h;rw[Lib.decFrom,qzA h1];simp only;rw[qtM _ h2,q6B,qOt,qPm];congr 1;grind
theorem qwm{s:qNX}(h:q6D s)(hn:s≠[]):Lib.decNat s=some (val s):=by unfold Lib.decNat;rw[if_neg (by simpa using hn),qtM 0 h];simp
theorem qA3{s:qNX}(h:q6D s)(hn:s≠[]):Lib.atoi s=some (val s:Int):=by
 obtain⟨c,t,e,h1,h2⟩:=qjz h hn;rw[e] at h ⊢;have n1:(c==45)=false:=by rw[beq_eq_false_iff_ne];intro hc;subst hc;revert h1;decide
 have n2:(c==43)=false:=by rw[beq_eq_false_iff_ne];intro hc;subst hc;revert h1;decide
 unfold Lib.atoi;simp only[n1,n2,qOC,if_false];rw[qwm h (by simp)];rfl
theorem qGT(m:Int):Lib.atoi (tI m)=some m:=by
 by_cases h:m<0
 ·rw[qbQ h];unfold Lib.atoi;simp only[beq_self_eq_true,if_true];rw[qwm (zL _) (qta _),q04];simp;omega
 ·rw[qlb h,qA3 (zL _) (qta _),q04];congr 1;omega
theorem qFr{s:qNX}{n:Int}(hl:s.length<=18)(h:Lib.atoi s=some n):(ju [.s s]).run=some (0,[.i n]):=by show (qG0 [.s s]).run=_;unfold qG0;simp only;rw[if_pos hl,h];rfl
theorem qDr:∀s:List UInt8,Lib.indexByte s 47=if sP s<s.length then (sP s:Int) else -1
 | []=>by simp[Lib.indexByte,sP]
 | c::s=>by
  have ih:=qDr s;have hle:=qKL s;unfold Lib.indexByte;by_cases h:c=47
  ·subst h;have:sP (47::s)=0:=qKp (by simp) (by simp) (fun j hj=>by omega);rw[this];simp
  ·have hc:(c==47)=false:=by simpa using h
   have e:sP (c::s)=sP s+1:=by unfold sP;rw[List.findIdx_cons,hc];rfl
   rw[e];generalize sP s=k at *;have el:(c::s).length=s.length+1:=rfl;simp only[hc,el,ih,qOC,if_false];grind
theorem qKG(s:qNX):(vh [.s s,.s [47]]).run=some (0,[.i (if sP s<s.length then (sP s:Int) else -1)]):=by show (qAa [.s s,.s [47]]).run=_;unfold qAa;simp only;rw[<-qDr];rfl
theorem qD0:∀{s t:qNX},q6D s->q6D t->s.length=t.length->Lib.compareBytes s t=sgn ((val s:Int)-(val t:Int))
 | [],[],_,_,_=>by simp[Lib.compareBytes,val,sgn]
 | [],_::_,_,_,h=>by simp at h
 | _::_,[],_,_,h=>by simp at h
 | a::s,b::t,hs,ht,h=>by
  obtain⟨h1,h2⟩:=q01.1 hs;obtain⟨h3,h4⟩:=q01.1 ht;have hl:s.length=t.length:=by simpa using h
  have ih:=qD0 h2 h4 hl;have v1:=q6Q h2;have v2:=q6Q h4;unfold Lib.compareBytes;rw[q6B,q6B,hl];rw[hl] at v1;have hp:0<10^t.length:=Nat.pow_pos (by omega);generalize 10^t.length=P at *;unfold dv;by_cases c1:a.toNat<b.toNat
  ·rw[if_pos (show a<b from c1)];have:(a.toNat-48+1)*P<=(b.toNat-48)*P:=qOq _ (by omega);rw[qOf,qPz] at this;unfold sgn;rw[if_pos (by omega)]
  ·rw[if_neg (show ¬a<b from c1)];by_cases c2:b.toNat<a.toNat
   ·rw[if_pos (show b<a from c2)];have:(b.toNat-48+1)*P<=(a.toNat-48)*P:=qOq _ (by omega);rw[qOf,qPz] at this;unfold sgn;rw[if_neg (by omega),if_neg (by omega)]
   ·rw[if_neg (show ¬b<a from c2),ih];have:a.toNat=b.toNat:=by omega
    rw[this];congr 1;omega
theorem qEb{s t:qNX}(hs:q6D s)(ht:q6D t)(h:s.length=t.length):(q2y [.s s,.s t]).run=some (0,[.i (sgn ((val s:Int)-(val t:Int)))]):=by show (qri [.s s,.s t]).run=_;unfold qri;simp only;rw[qD0 hs ht h];rfl
def qGJ:List UInt8:=[48,49,50,51,52,53,54,55,56,57]
theorem qDz(c:UInt8):(qGJ.contains c=true)↔(48<=c.toNat/\c.toNat<=57):=by
 constructor
 ·intro h;simp only[qGJ,List.contains_eq_mem,qOj,List.not_mem_nil,or_false,decide_eq_true_eq] at h;rcases h with rfl|rfl|rfl|rfl|rfl|rfl|rfl|rfl|rfl|rfl<;>decide
 ·rintro ⟨h1,h2⟩;have hk:∃k,c=UInt8.ofNat k/\48<=k/\k<=57:=⟨c.toNat,by simp,h1,h2⟩;obtain⟨k,rfl,k1,k2⟩:=hk;have:k=48\/k=49\/k=50\/k=51\/k=52\/k=53\/k=54\/k=55\/k=56\/k=57:=by omega
  rcases this with rfl|rfl|rfl|rfl|rfl|rfl|rfl|rfl|rfl|rfl<;>decide
theorem q9A{p:UInt8->Bool}:∀{l:qNX},l.dropWhile p=[]↔∀x,x∈l->p x=true
 | []=>by simp
 | a::l=>by
  rw[List.dropWhile_cons];by_cases h:p a=true
  ·rw[if_pos h,q9A];simp[h]
  ·rw[if_neg h];simp[h]
theorem qjh(s:qNX):(Lib.trimS s qGJ=[])=q6D s:=by
 apply propext;unfold Lib.trimS Lib.trimLeftS Lib.trimRightS;constructor
 ·intro h;have h1:∀c,c∈(s.reverse.dropWhile (qGJ.contains ·)).reverse->qGJ.contains c=true:=by intro c hc;have:=q9A.1 h c hc;simpa using this
  have h2:s.reverse.dropWhile (qGJ.contains ·)=[]:=by
   cases hd:s.reverse.dropWhile (qGJ.contains ·) with
   | nil=>rfl
   | cons c t=>
    exfalso;have h3:=List.head_dropWhile_not (p:=(qGJ.contains ·)) (l:=s.reverse) (by rw[hd];simp);simp only[hd,List.head_cons] at h3;have:=h1 c (by rw[hd];simp);rw[this] at h3;cases h3
  intro c hc;have:=q9A.1 h2 c (by simpa using hc);exact(qDz c).1 (by simpa using this)
 ·intro h;have h2:s.reverse.dropWhile (qGJ.contains ·)=[]:=by rw[q9A];intro c hc;exact(qDz c).2 (h c (by simpa using hc))
  rw[h2];rfl
theorem qMI(s:qNX)(hl:s.length<=9223372036854775807):(q7E [.s s,.s [48,49,50,51,52,53,54,55,56,57]]).run=some (0,[.s (Lib.trimS s qGJ)]):=by show (qFp [.s s,.s qGJ]).run=_;unfold qFp;simp only;rw[if_pos ⟨hl,by decide,by decide⟩];rfl
variable {n:Nat}
theorem qGd (n:Nat):pB n=((10^(9*n):Nat):Int):=by unfold pB;rw[Nat.pow_mul];simp
theorem qEN:∀k:Nat,k<=9->qdh [48,48,48,48,48,48,48,48,48] (k:Int) 9=List.replicate (9-k) 48
 | 0,_=>rfl
 | 1,_=>rfl
 | 2,_=>rfl
 | 3,_=>rfl
 | 4,_=>rfl
 | 5,_=>rfl
 | 6,_=>rfl
 | 7,_=>rfl
 | 8,_=>rfl
 | 9,_=>rfl
 | n+10,h=>by omega
theorem qKJ {v:Nat}(h:v<1000000000):q6D (qFm (tN v))/\(qFm (tN v)).length=9/\val (qFm (tN v))=v:=by
 have hl:(tN v).length<=9:=q2r 8 v (by omega);have e:qFm (tN v)=List.replicate (9-(tN v).length) 48++tN v:=by unfold qFm qeJ;rw[show qu (tN v)=((tN v).length:Int) from rfl,qEN _ hl]
 rw[e];refine⟨q9O.2 ⟨qoo _,zL v⟩,by simp;omega,by rw[qrA,q04]⟩
theorem qvK{l:List Int}(hl:l.length=232)(hd:dgs l):∀i:Nat,i<=232->q6D (qnf (rI l) i)/\(qnf (rI l) i).length=9*i/\((val (qnf (rI l) i):Nat):Int)=mv (l.take i)
 | 0,_=>⟨qr4,rfl,by simp[qnf,qf9,mv]⟩
 | i+1,h=>by
  obtain⟨h1,h2,h3⟩:=qvK hl hd i (by omega);have hil:i<l.length:=by omega
  have hg:=hd _ (qOI hil);have e:cI (rI l) (i:Int) 0=l[i]:=by rw[q4Y,jm hil]
  have e2:Lib.itoa l[i]=tN l[i].toNat:=by rw[qAI,qlb (by omega)];congr 1;omega
  obtain⟨p1,p2,p3⟩:=qKJ (v:=l[i].toNat) (by omega);unfold qnf;rw[e,e2];refine⟨q9O.2 ⟨p1,h1⟩,by rw[qOh,p2,h2];omega,?_⟩;rw[qy6,p3,h2,qpB hil,qGd];simp only[qPR,qOM,h3];rw[qPP hg.1];omega
theorem qIn {l:List Int}(h:WOK n l)(hn:nrm n l)(b:Bool):qF4 b (n:Int) (rI l)=tI (sv b l):=by
 unfold qF4;by_cases h0:n=0
 ·have h1:mv l=0:=by rw[<-qnJ h hn];exact h0
  rw[if_pos (by omega)];unfold sv;rw[h1];cases b<;>rfl
 ·rw[if_neg (by omega)];obtain⟨m,rfl⟩:∃m,n=m+1:=⟨n-1,by omega⟩;have hle:=h.le;have hml:m<l.length:=by rw[h.len];omega
  have e1:(((m+1:Nat):Int)-1)=(m:Int):=by omega
  rw[e1,qO9,q4Y,jm hml];have hg:=h.dig _ (qOI hml);have e2:Lib.itoa l[m]=tN l[m].toNat:=by rw[qAI,qlb (by omega)];congr 1;omega
  obtain⟨t1,t2,t3⟩:=qvK h.len h.dig m (by omega);have hnz:l[m]≠0:=by
   rcases hn with hn|hn
   ·omega
   ·rw[qQd,jm hml] at hn;exact hn
  have hlo:=h.lo hn h0;have hp:=qc5 m;simp only[qQd] at hlo;have hv:((val (tN l[m].toNat++qnf (rI l) m):Nat):Int)=mv l:=by rw[qy6,q04,t2,qbX l m (by omega),qcQ hml,v7 h.dig h.z (qO0 _),qGd];simp only[qPR,qOM,t3];rw[qPP hg.1];grind
  have hT:tN l[m].toNat++qnf (rI l) m=tN (mv l).toNat:=by
   have hd:q6D (tN l[m].toNat++qnf (rI l) m):=q9O.2 ⟨zL _,t1⟩;have hne:tN l[m].toNat++qnf (rI l) m≠[]:=by simp[qta]
   have hz:(tN l[m].toNat++qnf (rI l) m).getD 0 0≠48:=by
    have hv0:=q04 l[m].toNat;have hd0:=zL l[m].toNat;rcases qF3 l[m].toNat with h1|h1
    ·obtain⟨c,e⟩:=List.length_eq_one_iff.1 h1;rw[e] at hv0 ⊢;simp only[qPo,qPr];intro hc;subst hc;rw[qC2] at hv0;simp[dv] at hv0;omega
    ·obtain⟨c,t,e,_⟩:=qjz hd0 (qta _);rw[e] at h1 ⊢;simpa using h1
   have:=qtq hd hne (.inr hz);rw[this];congr 1;omega
  rw[e2,qOu,hT];unfold sv;cases b
  ·rw[if_neg (by simp),if_neg (by simp),qlb (by omega)];simp;congr 1;omega
  ·rw[if_pos rfl,if_pos rfl,qbQ (by omega)];simp;congr 1;omega
theorem qE8 {l:List Int}(h:WOK n l):qxy (n:Int) (rI l)=true:=by unfold qxy;have:=h.le;simp only[qOd,decide_eq_true_eq,qOy,qOV];refine⟨⟨by omega,by omega⟩,fun i _=>?_⟩;have:=h.get i;rw[q4Y];exact this
theorem qCn {l:List Int}(h:WOK n l)(hn:nrm n l)(b:Bool):(zb [.b b,.i (n:Int),.r (rI l)]).run=some (0,[.s (tI (sv b l)),.b b,.i (n:Int),.r (rI l)]):=by show (qF9 [.b b,.i (n:Int),.r (rI l)]).run=_;unfold qF9;simp only;rw[if_pos (qE8 h),qIn h hn];rfl
end Go.Eng

namespace Go.Eng
theorem qIz{nr ny:Nat}{lr ly:List Int}(hr:WOK nr lr)(hnr:nrm nr lr)(hy:WOK ny ly)(hny:nrm ny ly)(h0:ny≠0)(hy231:ny<=231)(hlt:mv lr<mv ly*1000000000)(y0:Int)(xb:Bool)(xi:Int)(xr:R)(b2 qb:Bool)(qi:Int)(qr:R)(br:Bool) :∃(d:Int) (n:Nat) (l:List Int),(qf jJ [.i y0,.i 0,.b xb,.i xi,.r xr,.b b2,.i (ny:Int),.r (rI ly),.b qb,.i qi,.r qr,.b br,.i (nr:Int),.r (rI lr)]).run = some (0,[.i y0,.i d,.b xb,.i xi,.r xr,.b b2,.i (ny:Int),.r (rI ly),.b qb,.i qi,.r qr,.b br,.i (n:Int),.r (rI l)])/\WOK n l/\nrm n l/\0<=d/\d<1000000000/\mv lr=d*mv ly+mv l/\mv l<mv ly:=by
 have hyp:0<mv ly:=by have:=hy.lo hny h0;have:=qc5 (ny-1);omega
 have hyb:=hy.bd;obtain⟨j,qs,g1,rfl,d,n,l,rfl,g2⟩:=jh (S:=jJ) (fun k ps=>∃(d:Int) (n:Nat) (l:List Int),ps=[.i y0,.i d,.b xb,.i xi,.r xr,.b b2,.i (ny:Int),.r (rI ly),.b qb,.i qi,.r qr,.b br,.i (n:Int),.r (rI l)] /\
   WOK n l/\nrm n l/\0<=d/\d+k=1000000000/\mv lr=d*mv ly+mv l)
  (fun j qs=>j=0/\∃(d:Int) (n:Nat) (l:List Int),qs=[.i y0,.i d,.b xb,.i xi,.r xr,.b b2,.i (ny:Int),.r (rI ly),.b qb,.i qi,.r qr,.b br,.i (n:Int),.r (rI l)]/\WOK n l/\nrm n l/\0<=d/\d<1000000000/\mv lr=d*mv ly+mv l/\mv l<mv ly) (n:=1000000000) (by omega)
  (fun k ps hk ⟨d,n,l,hps,hw,hn,hd0,hdk,hv⟩=>by
   subst hps;have hlb:=hw.bd;have hdlt:d<1000000000:=by
    rcases Int.lt_or_le d 1000000000 with h|h
    ·exact h
    ·have:=qPT h (show 0<=mv ly by omega);rw[qP7 (mv ly)] at hlt;omega
   rw[qlE];obtain⟨r,r1,r2⟩:=qDm hw hn hy hny br b2;by_cases hle:mv ly<=mv l
   ·left;have hr0:0<=r:=by rw[r2];exact hle
    have hdm:=qPH hd0 (show 0<=mv ly by omega);have hl9:mv l<pB (ny+1):=by rw[qbg];omega
    obtain⟨q,e1,e2,e3,e4⟩:=qE1 hw hn hy hny h0 hle hl9 hy231 br b2;obtain⟨n',l',c1,c2,c3,c4⟩:=qtC (f:=-q) (up:=0) hw hy (by omega) (by omega) (T:=mv l-q*mv ly) (by rw[q6n,Int.mul_one,Int.neg_mul];omega) (by omega)
     (by have:=hlb.2;have:=qdp hw.le;have:=qPH (show 0<=q by omega) (show 0<=mv ly by omega);omega) br b2
    have hq2:(d+q)*mv ly+(mv l-q*mv ly)=d*mv ly+mv l:=by rw[Int.add_mul];omega
    have hdq:d+q<1000000000:=by
     rcases Int.lt_or_le (d+q) 1000000000 with h|h
     ·exact h
     ·have:=qPT h (show 0<=mv ly by omega);rw[qP7 (mv ly)] at hlt;omega
    have w1:zY .i64 0 q=-q:=qBe (by omega);have w2:qm .i64 d q=d+q:=qK (by omega);simp only[show ((0:Nat):Int)=0 from rfl] at c1;refine⟨(1000000000-(d+q)).toNat,[.i y0,.i (d+q),.b xb,.i xi,.r xr,.b b2,.i (ny:Int),.r (rI ly),.b qb,.i qi,.r qr,.b br,.i (n':Int),.r (rI l')],by omega,?_,d+q,n',l',rfl,c2,c3,by omega,by omega,by rw[c4];omega⟩;simp only[STD,r1,hr0,e1,w1,w2,c1]
   ·right;have hr0:¬0<=r:=by rw[r2];exact hle
    refine⟨0,_,?_,rfl,d,n,l,rfl,hw,hn,hd0,hdlt,hv,by omega⟩;simp only[STD,r1,hr0]) (ps:=[.i y0,.i 0,.b xb,.i xi,.r xr,.b b2,.i (ny:Int),.r (rI ly),.b qb,.i qi,.r qr,.b br,.i (nr:Int),.r (rI lr)]) ⟨0,nr,lr,rfl,hr,hnr,by omega,by omega,by omega⟩
 exact⟨d,n,l,g1,g2⟩
theorem qIb{n:Nat}{l:List Int}{d:Int}(h:WOK n l)(hn:n<=231)(hd:0<=d/\d<1000000000) :qaz (qmH (rI l) 1 (rI l) 0 (qjL (qB6 (n:Int) 0) (qB6 232 1))) 0 0 [.i d]=rI (d::(l.take n++l.drop (1+n)))/\WOK (n+1) (d::(l.take n++l.drop (1+n)))/\mv (d::(l.take n++l.drop (1+n)))=d+1000000000*mv l:=by
 have hlen:=h.len;have e1:qjL (qB6 (n:Int) 0) (qB6 232 1)=(n:Int):=by unfold qjL qB6;split<;>omega
 obtain⟨x,t,rfl⟩:∃x t,l=x::t:=by
  cases l with
  | nil=>simp at hlen
  | cons x t=>exact⟨x,t,rfl⟩
 refine⟨?_,⟨by simp;simp at hlen;omega,by omega,?_,?_⟩,?_⟩
 ·rw[e1];unfold qmH;have:(rI (x::t)).take (1:Int).toNat++((rI (x::t)).drop (0:Int).toNat).take (n:Int).toNat++(rI (x::t)).drop ((1:Int).toNat+(n:Int).toNat)=rI (x::((x::t).take n++(x::t).drop (1+n))):=by rw[qO9];simp[rI,List.map_take,List.map_drop]
  rw[this,show (0:Int)=((0:Nat):Int) from rfl,qlz];rfl
 ·intro y hy;rcases qOj.1 hy with rfl|hy
  ·exact hd
  ·rcases qOn.1 hy with hy|hy
   ·exact h.dig _ (qQ6 hy)
   ·exact h.dig _ (qQ7 hy)
 ·intro i hi;obtain⟨j,rfl⟩:∃j,i=j+1:=⟨i-1,by omega⟩;have hz:=h.z (j+1) (by omega);rw[qNZ] at hz ⊢;rw[qP1,qOi (by simp;omega)];rw[qP4,qOX,qOY (by omega)];rw[show 1+n+(j-n)=j+1 by omega];exact hz
 ·show d+1000000000*mv _=_;rw[qDh,qOX,qOY (by omega),v7 h.dig h.z (show n<=1+n by omega)];have:=qbX (x::t) n (by omega);rw[v7 h.dig h.z (qO0 n)] at this;omega
theorem qhV{nx ny:Nat}{lx ly:List Int}(hx:WOK nx lx)(hy:WOK ny ly)(hny:nrm ny ly)(h0:ny≠0)(hy231:ny<=231)(bx b2:Bool) :∃(nq:Nat) (lq:List Int) (nr:Nat) (lr:List Int),(yI [.b bx,.i (nx:Int),.r (rI lx),.b b2,.i (ny:Int),.r (rI ly)]).run = some (0,[.b bx,.i (nx:Int),.r (rI lx),.b b2,.i (ny:Int),.r (rI ly),.b false,.i (nq:Int),.r (rI lq),.b false,.i (nr:Int),.r (rI lr)])/\WOK nq lq/\nrm nq lq/\WOK nr lr/\nrm nr lr/\mv lx=mv lq*mv ly+mv lr/\mv lr<mv ly:=by
 rw[qqy];have hyp:0<mv ly:=by have:=hy.lo hny h0;have:=qc5 (ny-1);omega
 have hx232:=hx.le;have e0:q3f 232 [.i 0]=rI (List.replicate 232 0):=qlO 232 0;have hxl:=hx.len;obtain⟨j,qs,g1,rfl,nq,lq,nr,lr,rfl,g2,g3,g4,g5,g6⟩:=jh (S:=kR) (fun k ps=>∃(Q:Int) (nq:Nat) (lq:List Int) (nr:Nat) (lr:List Int),
   ps=[.i ((k:Int)-1),.b bx,.i (nx:Int),.r (rI lx),.b b2,.i (ny:Int),.r (rI ly),.b false,.i (nq:Int),.r (rI lq),.b false,.i (nr:Int),.r (rI lr)]/\k<=nx/\WOK nq lq/\WOK nr lr/\nrm nr lr/\mv (lx.drop k)=Q*mv ly+mv lr/\mv lr<mv ly/\mv lq=pB k*Q/\∀i,i<k->lq.getD i 0=0)
  (fun j qs=>j=0/\∃(nq:Nat) (lq:List Int) (nr:Nat) (lr:List Int),qs=[.b bx,.i (nx:Int),.r (rI lx),.b b2,.i (ny:Int),.r (rI ly),.b false,.i (nq:Int),.r (rI lq),.b false,.i (nr:Int),.r (rI lr)]/\WOK nq lq/\WOK nr lr/\nrm nr lr/\mv lx=mv lq*mv ly+mv lr/\mv lr<mv ly) (n:=nx) (by omega)
  (fun k ps hk ⟨Q,nq,lq,nr,lr,hps,hkn,hwq,hwr,hnr,hv,hlt,hq,hz⟩=>by
   subst hps;rw[qm9];rcases qP6 k with rfl|hk0
   ·right;have a1:¬(0:Int)<=((0:Nat):Int)-1:=by omega
    refine⟨0,[.b bx,.i (nx:Int),.r (rI lx),.b b2,.i (ny:Int),.r (rI ly),.b false,.i (nq:Int),.r (rI lq),.b false,.i (nr:Int),.r (rI lr)],?_,rfl,nq,lq,nr,lr,rfl,hwq,hwr,hnr,?_,hlt⟩
    ·simp only[STD,a1]
    ·rw[hq,q6n,qPj,<-hv,List.drop_zero]
   ·left;obtain⟨i,rfl⟩:∃i,k=i+1:=⟨k-1,by omega⟩;have e:(((i+1:Nat):Int)-1)=(i:Int):=by omega
    rw[e];have hnr231:nr<=231:=qO2 (qNG hwr hnr hy (by omega)) hy231;have hil:i<lx.length:=by omega
    have gx:=hx.get i;obtain⟨s1,s2,s3⟩:=qIb hwr hnr231 (d:=lx.getD i 0) gx;obtain⟨m,t1,t2,t3⟩:=qnu s2 false;have hX:mv (lx.drop i)=lx.getD i 0+1000000000*(Q*mv ly+mv lr):=by rw[qcQ hil,<-hv,jm hil]
    have hlt2:mv (lx.getD i 0::(lr.take nr++lr.drop (1+nr)))<mv ly*1000000000:=by rw[s3];omega
    obtain⟨d,n',l',d1,d2,d3,d4,d5,d6,d7⟩:=qIz t2 t3 hy hny h0 hy231 hlt2 (i:Int) bx (nx:Int) (rI lx) b2 false (nq:Int) (rI lq) false;rw[s3] at d6;have a1:(0:Int)<=(i:Int):=by omega
    have a2:(i:Int)<232:=by omega
    have a3:(0:Int)<=232/\(232:Int)<=232:=by omega
    have a4:(0:Int)<=1/\(1:Int)<=232:=by omega
    have a5:(0:Int)<=(nr:Int)/\(nr:Int)<=232:=by omega
    have a6:(0:Int)<=0/\(0:Int)<=(nr:Int):=by omega
    have w1:qm .i64 (nr:Int) 1=((nr+1:Nat):Int):=by rw[qK (by omega)];omega
    have w2:qm .i64 (i:Int) 1=((i+1:Nat):Int):=by rw[qK (by omega)];omega
    have w3:zY .i64 (i:Int) 1=(i:Int)-1:=zc (by omega);have w4:quL (nq:Int) ((i+1:Nat):Int)=((max nq (i+1):Nat):Int):=qwY _ _;have hiq:i<lq.length:=by rw[hwq.len];omega
    have hzi:lq[i]=0:=by rw[<-jm hiq];exact hz i (by omega)
    refine⟨i,[.i ((i:Int)-1),.b bx,.i (nx:Int),.r (rI lx),.b b2,.i (ny:Int),.r (rI ly),.b false,.i ((max nq (i+1):Nat):Int),.r (rI (lq.set i d)),.b false,.i (n':Int),.r (rI l')],by omega,?_,Q*1000000000+d,_,_,_,_,rfl,by omega,hwq.setW (by omega) ⟨d4,d5⟩,d2,d3,?_,d7,?_,?_⟩
    ·simp only[q4Y,s1,w1];simp only[STD,a1,a2,a3,a4,a5,a6,and_self,t1,d1,w2,w3,w4,qlz]
    ·rw[hX,Int.add_mul,Int.mul_add];have:Q*1000000000*mv ly=1000000000*(Q*mv ly):=by grind
     omega
    ·rw[qD2 lq i hiq,hzi,hq,qbg];grind
    ·intro a ha;rw[qNZ,qO1 (by omega),<-qNZ];exact hz a (by omega))
  (ps:=[.i ((nx:Int)-1),.b bx,.i (nx:Int),.r (rI lx),.b b2,.i (ny:Int),.r (rI ly),.b false,.i 0,.r (rI (List.replicate 232 0)),.b false,.i 0,.r (rI (List.replicate 232 0))])
  ⟨0,0,_,0,_,rfl,qO0 _,WOK.zero,WOK.zero,.inl rfl,by rw[v7 hx.dig hx.z (qO0 _),qf8];omega,by rw[qf8];exact hyp,by rw[qf8,Int.mul_zero],fun i _=>qAn 232 i⟩
 obtain⟨m,t1,t2,t3⟩:=qnu g2 false;refine⟨m,lq,nr,lr,?_,t2,t3,g3,g4,g5,g6⟩;have hs:zY .i64 (nx:Int) 1=(nx:Int)-1:=zc (by omega);simp only[e0,hs];simp only[STD,g1,t1]
variable {m:Int}
theorem qMk {c:UInt8}{t:qNX}:qdh (c::t) 0 1=[c]:=by simp[qdh]
theorem qH9 (s:qNX):(qC [.s s,.s [45]]).run=some (0,[.b (decide (s.getD 0 0=45))]):=by
 rw[q5w];have h1:qu [45]=1:=rfl;cases s with
 | nil=>
  have a:¬(1:Int)<=qu []:=by decide
  simp only[STD,h1,a];rfl
 | cons c t=>
  have a:(1:Int)<=qu (c::t):=by unfold qu;simp only[qOt];omega
  simp only[STD,h1,a,show (0:Int)<=1 by omega,show (0:Int)<=0 by omega,and_self,qMk];have e:seq [c] [45]=decide ((c::t).getD 0 0=45):=by rw[Bool.eq_iff_iff,zM];simp
  rw[e]
theorem qxI (s:qNX):(qW [.s s,.s [45]]).run=some (0,[.s (mag s)]):=by
 rw[qiY];have h:(qY [.s s,.s [45]]).run=some (0,[.s (mag s)]):=by
  rw[q53];have h1:qu [45]=1:=rfl;unfold mag;by_cases h:s.getD 0 0=45
  ·rw[if_pos h];have a:(1:Int)<=qu s:=by
    cases s with
    | nil=>simp at h
    | cons c t=>unfold qu;simp only[qOt];omega
   have e:qdh s 1 (qu s)=s.drop 1:=by unfold qdh qu;simp
   simp only[STD,qH9,h,h1,a,and_self,qOF,show (0:Int)<=qu s by omega,show (0:Int)<=1 by omega,e]
  ·rw[if_neg h];simp only[STD,qH9,h]
 simp only[STD,h]
theorem qfQ (s:qNX)(hl:s.length<=1000000000):(qV [.s s]).run=some (0,[.i (qCQ s)]):=by
 rw[qv4];have hT:=qxI s;have hml:(mag s).length<=s.length:=by unfold mag;split<;>simp
 have hR:=qMI (mag s) (by omega);have hcan:=qGG s;unfold qCQ;have hl3:(1024<qu (mag s))=¬((mag s).length<=1024):=by unfold qu;simp only[eq_iff_iff];omega
 by_cases hne:mag s=[]
 ·rw[if_neg (fun h=>(hcan.1 h).1 hne)];simp only[STD,hT,zM,hne]
 ·have hp:0<(mag s).length:=qPA.2 hne;have a1:(0:Int)<qu (mag s):=by unfold qu;omega
  have hs:sat (mag s) 0=((mag s)[0].toNat:Int):=qsZ (i:=0) hp;have h48:((mag s)[0].toNat:Int)=48↔(mag s).getD 0 0=48:=by
   have:(mag s).getD 0 0=(mag s)[0]:=by simp[hp]
   rw[this];exact⟨fun h=>qQ1.1 (by show (mag s)[0].toNat=48;omega),fun h=>by rw[h];rfl⟩
  by_cases hd:q6D (mag s)
  ·have hs1:((mag s).getD 0 0=48->s.length=1)↔(((mag s)[0].toNat:Int)=48->s=[48]):=by
    rw[h48];constructor
    ·intro h h2;obtain⟨c,e⟩:=List.length_eq_one_iff.1 (h h2);subst e;by_cases hc:c=45
     ·subst hc;exact absurd rfl hne
     ·have:mag [c]=[c]:=by unfold mag;rw[if_neg (by simpa using hc)]
      rw[this] at h2;simp at h2;rw[h2]
    ·intro h h2;rw[h h2];rfl
   by_cases hz:((mag s)[0].toNat:Int)=48
   ·by_cases h0:s=[48]
    ·rw[if_pos (hcan.2 ⟨hne,hd,hs1.2 fun _=>h0⟩)];by_cases hL:(mag s).length<=1024
     ·simp only[STD,hT,hR,zM,hne,qjh,hd,a1,hs,hz,hl3,hL,qOF,and_self];simp only[STD,h0]
     ·simp only[STD,hT,hR,zM,hne,qjh,hd,a1,hs,hz,hl3,hL,qOF,and_self];simp only[STD,h0]
    ·rw[if_neg (fun h=>h0 (hs1.1 (hcan.1 h).2.2 hz))];simp only[STD,hT,hR,zM,hne,qjh,hd,a1,hs,hz,h0,qOF,and_self]
   ·rw[if_pos (hcan.2 ⟨hne,hd,fun h=>absurd (h48.2 h) hz⟩)];by_cases hL:(mag s).length<=1024
    ·simp only[STD,hT,hR,zM,hne,qjh,hd,a1,hs,hz,hl3,hL,qOF,and_self]
    ·simp only[STD,hT,hR,zM,hne,qjh,hd,a1,hs,hz,hl3,hL,qOF,and_self]
  ·rw[if_neg (fun h=>hd (hcan.1 h).2.1)];simp only[STD,hT,hR,zM,hne,qjh,hd]
def okL(m:Int):Prop:=nl m<=1024
theorem qAJ (h:okL m):qCQ (tI m)=0:=by unfold qCQ;rw[if_pos ⟨m,rfl⟩,qAj,if_pos (show (tN m.natAbs).length<=1024 from h)]
theorem qBT (h:okL m):(tI m).length<=1025:=by have:=qzX m;unfold okL nl at h;omega
theorem qnx (h:okL m):(qV [.s (tI m)]).run=some (0,[.i 0]):=by have:=qBT h;rw[qfQ _ (by omega),qAJ h]
def rS(l:List (List UInt8)):R:=l.map fun s=>[.s s]
theorem qvO (l:List (List UInt8)):qg (rS l)=l.length:=by simp[rS,qg]
theorem qFq {l:List (List UInt8)}{i:Nat}(h:i<l.length):cS (rS l) (i:Int) 0=l[i]:=by simp[cS,zH,rS,h,U.toS]
theorem qLO {l:List (List UInt8)}(hn:l.length<1000000)(h:∀s,s∈l->(qV [.s s]).run=some (0,[.i 0])):(we [.r (rS l)]).run=some (0,[.i 0]):=by
 rw[qzy,qvO];have key:=qq (S:=q5X) (fun i=>[.r (rS l),.i (l.length:Int),.i (i:Int)]) (0,[]) l.length (by omega) (fun i hi=>by
  rw[qkZ,qFq hi];have a1:(i:Int)<(l.length:Int):=by omega
  have a2:(i:Int)<qg (rS l):=by rw[qvO];exact a1
  simp only[STD,a1,a2,qaW,and_self,h _ (qOI hi),vX hi (show l.length<9223372036854775808 by omega)]) (by
  rw[qkZ];have a1:¬(l.length:Int)<(l.length:Int):=by omega
  simp only[STD,a1])
 simp only[show (((0:Nat)):Int)=0 from rfl] at key;simp only[STD,key,zh key]
theorem qgH {m n:Int}(hm:okL m)(hn:okL n):(we [.r [[.s (tI m)],[.s (tI n)]]]).run=some (0,[.i 0]):=by
 have:=qLO (l:=[tI m,tI n]) (by simp) (fun s hs=>by
  simp only[qOj,List.not_mem_nil,or_false] at hs;rcases hs with rfl|rfl
  ·exact qnx hm
  ·exact qnx hn)
 exact this
theorem qe2 (n:Int)(h:-9223372036854775808<=n/\n<=9223372036854775807):(wB [.i n]).run=some (0,[.s (tI n)]):=by rw[qBN];simp only[STD,qMi n h]
theorem qbd (m:Int):(tI m=[48])=(m=0):=propext ⟨fun h=>qyP (n:=0) h,fun h=>by rw[h];rfl⟩
theorem q2v (m:Int):(yw [.s (tI m)]).run=some (0,[.i (sgn m)]):=by
 rw[qxA];have a1:(0:Int)<qu (tI m):=by have:=qzN m;unfold qu;omega
 have hs:(sat (tI m) 0=45)=(m<0):=qDB m;unfold sgn;by_cases h0:m=0
 ·simp only[STD,zM,qbd,h0];rfl
 ·by_cases h1:m<0
  ·simp only[STD,zM,qbd,h0,a1,hs,h1,qOF,and_self]
  ·simp only[STD,zM,qbd,h0,a1,hs,h1,qOF,and_self]
theorem qAx (h:okL m):(q7X [.s (tI m)]).run=some (0,[.i (sgn m),.i 0]):=by rw[qyx];simp only[STD,qnx h,q2v]
theorem qKh (m n:Nat):(q5J [.s (tN m),.s (tN n)]).run=some (0,[.i (sgn ((m:Int)-(n:Int)))]):=by
 rw[quf];have hl:(qu (tN m)=qu (tN n))=((tN m).length=(tN n).length):=by unfold qu;simp only[eq_iff_iff];omega
 have hl2:(qu (tN m)<qu (tN n))=((tN m).length<(tN n).length):=by unfold qu;simp only[eq_iff_iff];omega
 by_cases he:(tN m).length=(tN n).length
 ·have h:=qEb (zL m) (zL n) he;rw[q04,q04] at h;simp only[STD,hl,he,h]
 ·by_cases hlt:(tN m).length<(tN n).length
  ·have h:=(qBs m n).1 (.inl hlt);simp only[STD,hl,hl2,he,hlt];unfold sgn;rw[if_pos (by omega)]
  ·have h:=(qBs n m).1 (.inl (by omega));simp only[STD,hl,hl2,he,hlt];unfold sgn;rw[if_neg (by omega),if_neg (by omega)]
theorem qee (m:Int):(m<0/\sgn m=-1)\/(m=0/\sgn m=0)\/(0<m/\sgn m=1):=by
 unfold sgn;rcases qPw m 0 with h|h|h
 ·rw[if_pos h];omega
 ·subst h;simp
 ·rw[if_neg (by omega),if_neg (by omega)];omega
theorem qHU (m:Int):-1<=sgn m/\sgn m<=1:=by rcases qee m with⟨_,e⟩|⟨_,e⟩|⟨_,e⟩<;>omega
theorem qKP (m n:Int):(if sgn m<sgn n then -1 else if sgn n<sgn m then 1 else sgn m*sgn ((m.natAbs:Int)-(n.natAbs:Int)))=sgn (m-n):=by
 rcases qee m with⟨a,ea⟩|⟨a,ea⟩|⟨a,ea⟩<;>rcases qee n with⟨b,eb⟩|⟨b,eb⟩|⟨b,eb⟩<;>rw[ea,eb]<;>simp only[Int.reduceLT,Int.reduceNeg,if_true,if_false] <;>
  rcases qee (m-n) with⟨c,ec⟩|⟨c,ec⟩|⟨c,ec⟩<;>rcases qee ((m.natAbs:Int)-(n.natAbs:Int)) with⟨d,ed⟩|⟨d,ed⟩|⟨d,ed⟩<;>omega
theorem qiP {m n:Int}(hm:okL m)(hn:okL n):(yG [.s (tI m),.s (tI n)]).run=some (0,[.i (sgn (m-n)),.i 0]):=by
 rw[qqu];have h1:=qxI (tI m);have h2:=qxI (tI n);rw[qAj] at h1 h2;have h3:=qKh m.natAbs n.natAbs;have hw:∀a b:Int,-1<=a/\a<=1->-1<=b/\b<=1->wL .i64 a b=a*b:=fun a b ha hb=>q0G (by have:=qN8 (A:=1) (B:=1) ha.1 ha.2 hb.1 hb.2;omega);have ba:=qHU m;have bb:=qHU n;have bc:=qHU ((m.natAbs:Int)-(n.natAbs:Int));have e:=qKP m n;by_cases c1:sgn m<sgn n
 ·rw[if_pos c1] at e;simp only[STD,qgH hm hn,q2v,h1,h2,h3,c1,<-e]
 ·rw[if_neg c1] at e;by_cases c2:sgn n<sgn m
  ·rw[if_pos c2] at e;simp only[STD,qgH hm hn,q2v,h1,h2,h3,c1,c2,<-e]
  ·rw[if_neg c2] at e;simp only[STD,qgH hm hn,q2v,h1,h2,h3,c1,c2,hw _ _ ba bc,<-e]
theorem qpX (m:Int)(hm:nl m<=2000):∃(n:Nat) (l:List Int),(wy [.s (tI m)]).run=some (0,[.b (decide (m<0)),.i (n:Int),.r (rI l)])/\WOK n l/\nrm n l/\mv l=m.natAbs/\9*n<=nl m+8:=by
 rw[qwN];have h1:=qxI (tI m);rw[qAj] at h1;have a1:(0:Int)<qu (tI m):=by have:=qzN m;unfold qu;omega
 have hb:ieq (sat (tI m) 0) 45=decide (m<0):=by rw[Bool.eq_iff_iff,qGw,qDB];simp
 have e0:q3f 232 [.i 0]=rI (List.replicate 232 0):=qlO 232 0;have hL:(tN m.natAbs).length<=2000:=hm;obtain⟨j,qs,g1,rfl,n,l,rfl,g2,g3,g4⟩:=jh (S:=q3I) (fun k ps=>∃(n:Nat) (l:List Int),ps=[.s ((tN m.natAbs).take k),.b (decide (m<0)),.i (n:Int),.r (rI l)]/\k<=(tN m.natAbs).length/\WOK n l /\
   (k=0/\9*n<=(tN m.natAbs).length+8\/k+9*n=(tN m.natAbs).length)/\((val (tN m.natAbs):Nat):Int)=((val ((tN m.natAbs).take k):Nat):Int)*pB n+mv l)
  (fun j qs=>j=0/\∃(n:Nat) (l:List Int),qs=[.b (decide (m<0)),.i (n:Int),.r (rI l)]/\WOK n l/\mv l=m.natAbs/\9*n<=(tN m.natAbs).length+8) (n:=(tN m.natAbs).length) (by omega)
  (fun k ps hk ⟨n,l,hps,hkl,hw,hkn,hv⟩=>by
   subst hps;rw[qrU];have hlk:qu ((tN m.natAbs).take k)=(k:Int):=by unfold qu;rw[qOX,qOY hkl]
   rcases qP6 k with rfl|hk0
   ·right;refine⟨0,[.b (decide (m<0)),.i (n:Int),.r (rI l)],?_,rfl,n,l,rfl,hw,?_,by omega⟩
    ·have a:¬(0:Int)<qu ((tN m.natAbs).take 0):=by rw[hlk];omega
     simp only[STD,a]
    ·rw[q04,List.take_zero,qf9] at hv;simp at hv;omega
   ·left;have hn231:n<=231:=by omega
    obtain⟨q,hq,hq9⟩:∃q:Nat,quL 0 (zY .i64 (k:Int) 9)=(q:Int)/\q=k-9:=by refine⟨k-9,?_,rfl⟩;rw[zc (by omega)];unfold quL;split<;>omega
    have hqk:q<=k:=by omega
    have hsub:qdh ((tN m.natAbs).take k) (q:Int) (k:Int)=((tN m.natAbs).take k).drop q:=by unfold qdh;simp[List.take_take]
    have hsub2:qdh ((tN m.natAbs).take k) 0 (q:Int)=(tN m.natAbs).take q:=by unfold qdh;simp[List.take_take,qOY hqk]
    have hdg:q6D (((tN m.natAbs).take k).drop q):=qGC (qAh (zL _) k) q;have hdl:(((tN m.natAbs).take k).drop q).length=k-q:=by rw[qPX,qOX,qOY hkl]
    have hdn:((tN m.natAbs).take k).drop q≠[]:=by intro h;rw[h] at hdl;simp at hdl;omega
    have hA:=qFr (s:=((tN m.natAbs).take k).drop q) (by omega) (qA3 hdg hdn);have hvl:=q6Q hdg;rw[hdl] at hvl;have hv9:val (((tN m.natAbs).take k).drop q)<1000000000:=qOG hvl (by have:(10:Nat)^(k-q)<=10^9:=qPs (by omega) (by omega);simpa using this);have b1:(0:Int)<(k:Int):=by omega
    have b2:(0:Int)<=(q:Int)/\(q:Int)<=(k:Int):=by omega
    have b3:(0:Int)<=(k:Int)/\(k:Int)<=(k:Int):=by omega
    have b4:(0:Int)<=(n:Int)/\(n:Int)<232:=by omega
    have b5:(0:Int)<=0/\(0:Int)<=(q:Int):=by omega
    have w1:qm .i64 (n:Int) 1=((n+1:Nat):Int):=by rw[qK (by omega)];omega
    have hnl:n<l.length:=by rw[hw.len];omega
    have hz:l[n]=0:=by rw[<-jm hnl];exact hw.z n (qO0 _)
    have hW:=hw.setW (j:=n) (y:=((val (((tN m.natAbs).take k).drop q):Nat):Int)) (by omega) (by omega);rw[Nat.max_eq_right (by omega)] at hW;refine⟨q,[.s ((tN m.natAbs).take q),.b (decide (m<0)),.i ((n+1:Nat):Int),.r (rI (l.set n ((val (((tN m.natAbs).take k).drop q):Nat):Int)))],by omega,?_,n+1,_,rfl,by omega,hW,by omega,?_⟩
    ·simp only[STD,hlk,b1,hq,b2,b3,b4,b5,and_self,hsub,hsub2,hA,w1,qlz]
    ·rw[qD2 l n hnl,hz,hv];have hsp:val ((tN m.natAbs).take k)=val ((tN m.natAbs).take q)*10^(k-q)+val (((tN m.natAbs).take k).drop q):=by
      have h1:(tN m.natAbs).take k=((tN m.natAbs).take k).take q++((tN m.natAbs).take k).drop q:=(qQa q _).symm;have h2:((tN m.natAbs).take k).take q=(tN m.natAbs).take q:=by rw[List.take_take,qOY hqk]
      rw[h2] at h1;generalize ((tN m.natAbs).take k).drop q=D at *;rw[h1,qy6,hdl]
     rw[hsp,qbg];rcases qO6 k 9 with h9|h9
     ·have:q=0:=by omega
      subst this;rw[List.take_zero,qf9];simp;omega
     ·have:k-q=9:=by omega
      rw[this];simp only[qPR,qOM];have e9:(((10:Nat)^9:Nat):Int)=1000000000:=by simp
      rw[e9];grind) (ps:=[.s ((tN m.natAbs).take (tN m.natAbs).length),.b (decide (m<0)),.i 0,.r (rI (List.replicate 232 0))])
  ⟨0,_,rfl,qO0 _,WOK.zero,.inr (by omega),by rw[q6n,qP9,qf8];simp⟩
 rw[qP9] at g1;obtain⟨n2,t1,t2,t3⟩:=qnu g2 (decide (m<0));refine⟨n2,l,?_,t2,t3,g3,?_⟩
 ·simp only[STD,e0,hb,h1,a1,qOF,and_self,g1,t1]
 ·have:=qNG t2 t3 g2 (qOF _);unfold nl;omega
end Go.Eng

namespace Go.Eng
variable {m:Int}{n:Nat}
theorem qKg {k n:Nat}(h:nl m<=k)(hk:k<=9*n):(m.natAbs:Int)<pB n:=by rw[qGd];have h1:=qNu h;have h2:(10:Nat)^k<=10^(9*n):=qPs (by omega) hk;omega
theorem qvU (h:okL m):(m.natAbs:Int)<pB 114:=qKg (k:=1024) h (by omega)
theorem qyw (h:okL m):okL (-m):=by unfold okL;rw[qrN];exact h
theorem qGs:pB n+pB n<=pB (n+1):=by rw[qbg];have:=qc5 n;omega
theorem qM9 {b:Bool}{l:List Int}(h:0<=mv l):((sv b l).natAbs:Int)=mv l:=by unfold sv;cases b<;>simp<;>omega
theorem qzY {l:List Int}(h:WOK n l)(hn:nrm n l)(b:Bool)(hk:okL (sv b l)):(wg [.b b,.i (n:Int),.r (rI l)]).run=some (0,[.s (tI (sv b l)),.i 0,.b b,.i (n:Int),.r (rI l)]):=by rw[qj5];simp only[STD,qCn h hn,qnx hk]
theorem qB7 (m n:Int):(yg [.s (tI m),.s (tI n)]).run=some (0,if (tI m).length<=9/\(tI n).length<=9 then [.i m,.i n,.b true] else [.i 0,.i 0,.b false]):=by
 rw[qvb];have h1:(9<qu (tI m))=¬(tI m).length<=9:=by unfold qu;simp only[eq_iff_iff];omega
 have h2:(9<qu (tI n))=¬(tI n).length<=9:=by unfold qu;simp only[eq_iff_iff];omega
 by_cases a:(tI m).length<=9
 ·by_cases b:(tI n).length<=9
  ·simp only[STD,h1,h2,a,b,and_self,qFr (s:=tI m) (by omega) (qGT m),qFr (s:=tI n) (by omega) (qGT n)]
  ·simp only[STD,h1,h2,a,b,and_false]
 ·simp only[STD,h1,a,false_and]
theorem qjw (h:(tI m).length<=9):m.natAbs<1000000000:=by
 have:(tN m.natAbs).length<=9:=by
  unfold tI at h;split at h
  ·simp at h;omega
  ·exact h
 exact qOG (q6z this) (by simp)
theorem qD9 (n:Int)(h:-9223372036854775808<=n/\n<=9223372036854775807):(kt [.i n]).run=some (0,[.s (tI n),.i 0]):=by rw[qt3];simp only[STD,qe2 n h]
theorem qHT {l:List Int}(h:mv l=m.natAbs):sv (decide (m<0)) l=m:=by
 unfold sv;by_cases hm:m<0
 ·rw[decide_eq_true hm,if_pos rfl];omega
 ·rw[decide_eq_false hm,if_neg (by simp)];omega
theorem qMT {m n:Int}(hm:okL m)(hn:okL n)(hs:okL (m+n)):(qax [.r [[.s (tI m)],[.s (tI n)]]]).run=some (0,[.s (tI (m+n)),.i 0]):=by
 rw[qAc];have e0:q3f 232 [.i 0]=rI (List.replicate 232 0):=qlO 232 0;have lm:=qvU hm;have ln:=qvU hn;obtain⟨q1,l1,r1,w1,n1,v1,_⟩:=qpX m (by unfold okL at hm;omega);obtain⟨q2,l2,r2,w2,n2,v2,_⟩:=qpX n (by unfold okL at hn;omega);have hb2:=qdp (show 115<=232 by omega);have hb1:pB 114+pB 114<=pB 115:=qGs;have hb0:=qc5 114;obtain⟨b1,k1,m1,a1,a2,a3,a4⟩:=qJE (lx:=List.replicate 232 0) (nx:=0) WOK.zero (.inl rfl) w1 n1 (by rw[qf8,v1];omega) false (decide (m<0));rw[qHT v1] at a4;have a5:sv b1 m1=m:=by
  have:sv false (List.replicate 232 0)=0:=by unfold sv;rw[if_neg (by simp),qf8]
  rw[a4,this];omega
 obtain⟨b2,k2,m2,c1,c2,c3,c4⟩:=qJE a2 a3 w2 n2 (by rw[<-qM9 (b:=b1) a2.bd.1,a5,v2];omega) b1 (decide (n<0));rw[qHT v2,a5] at c4;have key:=qq (S:=q69) (fun i=>match i with
  | 0=>[.r [[.s (tI m)],[.s (tI n)]],.i 2,.i 0,.b false,.i 0,.r (rI (List.replicate 232 0))]
  | 1=>[.r [[.s (tI m)],[.s (tI n)]],.i 2,.i 1,.b b1,.i (k1:Int),.r (rI m1)]
  | _=>[.r [[.s (tI m)],[.s (tI n)]],.i 2,.i 2,.b b2,.i (k2:Int),.r (rI m2)]) (0,[.b b2,.i (k2:Int),.r (rI m2)]) 2 (by omega) (fun i hi=>by
   have:i=0\/i=1:=by omega
   have d0:cS [[.s (tI m)],[.s (tI n)]] 0 0=tI m:=rfl;have d1:cS [[.s (tI m)],[.s (tI n)]] 1 0=tI n:=rfl;have d2:qg [[U.s (tI m)],[U.s (tI n)]]=2:=rfl;rcases this with rfl|rfl
   ·simp only;rw[qd6,d0,d2];simp only[show ((0:Nat):Int)=0 from rfl] at a1;have w:qm .i64 0 1=1:=by decide
    simp only[STD,r1,a1,w,show (0:Int)<2 by omega,show (0:Int)<=0 by omega,and_self]
   ·simp only;rw[qd6,d1,d2];have w:qm .i64 1 1=2:=by decide
    simp only[STD,r2,c1,w,show (1:Int)<2 by omega,show (0:Int)<=1 by omega,and_self]) (by
   simp only;rw[qd6];simp only[STD,show ¬(2:Int)<2 by omega])
 simp only at key;have hL:=qzY c2 c3 b2 (by rw[c4];exact hs);rw[c4] at hL;have d2:qg [[U.s (tI m)],[U.s (tI n)]]=2:=rfl;simp only[e0,d2];simp only[STD,key,hL]
theorem qMK {m n:Int}(hm:okL m)(hn:okL n)(hs:okL (m+n)):(q2i [.s (tI m),.s (tI n)]).run=some (0,[.s (tI (m+n)),.i 0]):=by
 rw[qAA];have h:=qB7 m n;by_cases hc:(tI m).length<=9/\(tI n).length<=9
 ·rw[if_pos hc] at h;have b1:=qjw hc.1;have b2:=qjw hc.2;have w:qm .i64 m n=m+n:=qK (by omega);simp only[STD,qgH hm hn,h,w,qD9 (m+n) (by omega)]
 ·rw[if_neg hc] at h;simp only[STD,qgH hm hn,h,qMT hm hn hs]
theorem qEu (hm:okL m):(q1q [.s (tI m)]).run=some (0,[.s (tI (-m))]):=by
 rw[qok];have hl:=qBT hm;have hp:=qzN m;rcases qee m with⟨h,e⟩|⟨h,e⟩|⟨h,e⟩
 ·have a1:(0:Int)<=qu (tI m)/\qu (tI m)<=qu (tI m):=by unfold qu;omega
  have a2:(0:Int)<=1/\1<=qu (tI m):=by unfold qu;omega
  have a3:qdh (tI m) 1 (qu (tI m))=tI (-m):=by unfold qdh qu;rw[qbQ h,qlb (m:=-m) (by omega),Int.natAbs_neg];simp
  simp only[STD,q2v,e,a1,a2,a3,and_self,show ¬((-1:Int)=0) by omega,show ¬((-1:Int)=1) by omega]
 ·simp only[STD,q2v,e];rw[h];rfl
 ·have a1:qu [45]+qu (tI m)<=140737488355328:=by unfold qu;simp;omega
  have a3:qeJ [45] (tI m)=tI (-m):=by unfold qeJ;rw[qbQ (m:=-m) (by omega),qlb (m:=m) (by omega),Int.natAbs_neg];rfl
  simp only[STD,q2v,e,a1,a3,show ¬((1:Int)=0) by omega]
theorem qNt {m n:Int}(hm:okL m)(hn:okL n)(hs:okL (m-n)):(q7f [.s (tI m),.s (tI n)]).run=some (0,[.s (tI (m-n)),.i 0]):=by rw[qyI];have h:=qMK hm (qyw hn) (by rwa [<-Int.sub_eq_add_neg]);rw[<-Int.sub_eq_add_neg] at h;simp only[STD,qgH hm hn,qEu hn,h]
theorem qNe {m n:Int}(hm:okL m)(hn:okL n)(hs:okL (m*n)):(q4z [.s (tI m),.s (tI n)]).run=some (0,[.s (tI (m*n)),.i 0]):=by
 rw[qAt];have h:=qB7 m n;by_cases hc:(tI m).length<=9/\(tI n).length<=9
 ·rw[if_pos hc] at h;have b1:=qjw hc.1;have b2:=qjw hc.2;have b3:=qN8 (A:=999999999) (B:=999999999) (a:=m) (b:=n) (by omega) (by omega) (by omega) (by omega);have w:wL .i64 m n=m*n:=q0G (by omega);simp only[STD,qgH hm hn,h,w,qD9 (m*n) (by omega)]
 ·rw[if_neg hc] at h;unfold okL at hm hn;obtain⟨q1,l1,r1,w1,n1,v1,z1⟩:=qpX m (by omega);obtain⟨q2,l2,r2,w2,n2,v2,z2⟩:=qpX n (by omega);obtain⟨k,l,t1,t2,t3,t4⟩:=qKe w1 w2 (by omega) (decide (m<0)) (decide (n<0));have hv:sv (!(Go.Eng.beq (decide (m<0)) (decide (n<0)))) l=m*n:=by
   unfold sv;rw[t4,v1,v2];have e:((m.natAbs:Int)*(n.natAbs:Int))=(((m*n).natAbs:Nat):Int):=by rw[qPc];simp
   rw[e];unfold Go.Eng.beq;rcases qPw m 0 with a|a|a
   ·rcases qPw n 0 with b|b|b
    ·have:=Int.mul_pos_of_neg_of_neg a b;simp[a,b];omega
    ·subst b;simp
    ·have:=Int.mul_neg_of_neg_of_pos a b;have b':¬n<0:=by omega
     simp[a,b'];omega
   ·subst a;simp
   ·have a':¬m<0:=by omega
    rcases qPw n 0 with b|b|b
    ·have:=Int.mul_neg_of_pos_of_neg a b;simp[a',b];omega
    ·subst b;simp
    ·have:=Int.mul_pos a b;have b':¬n<0:=by omega
     simp[a',b'];omega
  have hL:=qzY t2 t3 (!(Go.Eng.beq (decide (m<0)) (decide (n<0)))) (by rw[hv];exact hs);rw[hv] at hL;simp only[STD,qgH hm hn,h,r1,r2,t1,hL]
theorem qG4 {l:List Int}(h:WOK n l)(hn:nrm n l){k:Nat}(hl:mv l<pB k):n<=k:=by
 rcases qO6 k n with h1|h1
 ·have:=h.lo hn (by omega);have:=qdp (show k<=n-1 by omega);omega
 ·exact h1
theorem qIU {k n:Int}(h0:n≠0)(hm:okL (k*n))(hn:okL n):(q3s [.s (tI (k*n)),.s (tI n)]).run=some (0,[.s (tI k),.s (tI 0),.i 0]):=by
 rw[qsg];have h:=qB7 (k*n) n;have hz:¬tI n=[48]:=by rw[qbd];exact h0
 by_cases hc:(tI (k*n)).length<=9/\(tI n).length<=9
 ·rw[if_pos hc] at h;have b1:=qjw hc.1;have b2:=qjw hc.2;have hk:k.natAbs<=(k*n).natAbs:=by rw[qPc];have:k.natAbs*1<=k.natAbs*n.natAbs:=Nat.mul_le_mul_left _ (by omega);omega
  have w1:qby (k*n) n=0:=by unfold qby;exact Int.mul_tmod_left k n
  have w2:qcl .i64 (k*n) n=k:=by rw[qP7];exact qju h0 (by omega)
  simp only[STD,qgH hm hn,zM,hz,h,h0,w1,w2,qe2 k (by omega),qe2 0 (by omega)]
 ·rw[if_neg hc] at h;have lm:=qvU hm;have ln:=qvU hn;obtain⟨q1,l1,r1,w1,n1,v1,z1⟩:=qpX (k*n) (by unfold okL at hm;omega);obtain⟨q2,l2,r2,w2,n2,v2,z2⟩:=qpX n (by unfold okL at hn;omega);have hq2:q2<=114:=qG4 w2 n2 (by omega);have hq0:q2≠0:=fun h=>by rw[qnJ w2 n2] at h;omega
  obtain⟨nq,lq,nr,lr,d1,d2,d3,d4,d5,d6,d7⟩:=qhV w1 w2 n2 hq0 (by omega) (decide (k*n<0)) (decide (n<0));have e1:((k*n).natAbs:Int)=(k.natAbs:Int)*(n.natAbs:Int):=by rw[qPc];simp
  rw[v1,v2,e1] at d6;rw[v2] at d7;have b4:=d4.bd.1;have hr0:mv lr=0/\mv lq=k.natAbs:=by
   have hn0:(0:Int)<(n.natAbs:Int):=by omega
   have e2:((k.natAbs:Int)-mv lq)*(n.natAbs:Int)=mv lr:=by rw[Int.sub_mul];omega
   rcases qPw ((k.natAbs:Int)-mv lq) 0 with a|a|a
   ·have:=Int.mul_neg_of_neg_of_pos a hn0;omega
   ·rw[a,Int.zero_mul] at e2;omega
   ·have:=qPT (show 1<=(k.natAbs:Int)-mv lq by omega) (show 0<=(n.natAbs:Int) by omega);omega
  have hnr:nr=0:=by rw[qnJ d4 d5];exact hr0.1
  have hv:sv (!(Go.Eng.beq (decide (k*n<0)) (decide (n<0)))) lq=k:=by
   unfold sv;rw[hr0.2];unfold Go.Eng.beq;rcases qPw k 0 with a|a|a
   ·rcases qPw n 0 with b|b|b
    ·have:=Int.mul_pos_of_neg_of_neg a b;have c:¬k*n<0:=by omega
     simp[b,c];omega
    ·exact absurd b h0
    ·have c:=Int.mul_neg_of_neg_of_pos a b;have b':¬n<0:=by omega
     simp[b',c];omega
   ·subst a;simp
   ·rcases qPw n 0 with b|b|b
    ·have c:=Int.mul_neg_of_pos_of_neg a b;simp[b,c];omega
    ·exact absurd b h0
    ·have:=Int.mul_pos a b;have c:¬k*n<0:=by omega
     have b':¬n<0:=by omega
     simp[b',c];omega
  have hT:=qCn d2 d3 (!(Go.Eng.beq (decide (k*n<0)) (decide (n<0))));rw[hv] at hT;have hT2:=qCn d4 d5 (decide (k*n<0));have hv0:sv (decide (k*n<0)) lr=0:=by unfold sv;rw[hr0.1];split<;>rfl
  rw[hv0] at hT2;have hnr':¬(0:Int)<(nr:Int):=by omega
  simp only[STD,qgH hm hn,zM,hz,h,r1,r2,d1,hnr',hT,hT2]
theorem qJX {m n:Int}(h:m.natAbs<=n.natAbs)(hn:okL n):okL m:=qO2 (uv h) hn
theorem qNr {k n:Int}(h0:n≠0)(hm:okL (k*n))(hn:okL n):(q7s [.s (tI (k*n)),.s (tI n)]).run=some (0,[.s (tI k),.i 0]):=by rw[qyR];have hk:okL k:=qJX (by rw[qPc];have:k.natAbs*1<=k.natAbs*n.natAbs:=Nat.mul_le_mul_left _ (by omega);omega) hm;simp only[STD,qIU h0 hm hn,qnx hk]
theorem qGO (a b:Nat)(hb:b<9223372036854775808):(qf q1D [.i (a:Int),.i (b:Int)]).run=some (0,[.i ((Nat.gcd a b:Nat):Int)]):=by
 obtain⟨j,qs,h1,rfl,rfl⟩:=jh (S:=q1D) (fun k ps=>∃x y:Nat,ps=[.i (x:Int),.i (y:Int)]/\y=k/\Nat.gcd x y=Nat.gcd a b)
  (fun j qs=>j=0/\qs=[.i ((Nat.gcd a b:Nat):Int)]) (n:=b) hb (fun k ps hk ⟨x,y,hps,hy,hg⟩=>by
  subst hps;rw[qrD];by_cases h0:y=0
  ·right;refine⟨0,[.i (x:Int)],?_,rfl,?_⟩
   ·simp only[STD,h0];simp[]
   ·rw[<-hg,h0,Nat.gcd_zero_right]
  ·left;refine⟨x%y,[.i (y:Int),.i ((x%y:Nat):Int)],by rw[<-hy];exact qPg _ (by omega),?_,y,x%y,rfl,rfl,?_⟩
   ·simp only[STD,show ¬((y:Int)=0) by omega,qr0]
   ·rw[<-hg,qPt y,<-Nat.gcd_rec,qPt]) (ps:=[.i (a:Int),.i (b:Int)]) ⟨a,b,rfl,rfl,rfl⟩
 exact h1
theorem qJK {l:List Int}(h:WOK n l)(hn:n<=1):mv l=l.getD 0 0:=by
 have:=qbX l 1 (by rw[h.len];omega);rw[v7 h.dig h.z hn,Int.mul_zero,Int.add_zero] at this;have hl:=h.len;obtain⟨x,t,rfl⟩:∃x t,l=x::t:=by
  cases l with
  | nil=>simp at hl
  | cons x t=>exact⟨x,t,rfl⟩
 rw[this];simp[mv]
theorem qN0 {m n:Int}(hm:okL m)(hn:okL n):(q2p [.s (tI m),.s (tI n)]).run=some (0,[.s (tN (Nat.gcd m.natAbs n.natAbs)),.i 0]):=by
 rw[qz2];have lm:=qvU hm;have ln:=qvU hn;obtain⟨q1,l1,r1,w1,n1,v1,_⟩:=qpX m (by unfold okL at hm;omega);obtain⟨q2,l2,r2,w2,n2,v2,_⟩:=qpX n (by unfold okL at hn;omega);have hm':(tN m.natAbs).length<=1024:=hm;have hn':(tN n.natAbs).length<=1024:=hn;obtain⟨j,qs,g1,g2⟩:=jh (S:=q64) (fun k ps=>∃(x y:Nat) (b1 b2:Bool) (nx ny:Nat) (lx ly:List Int),ps=[.b b1,.i (nx:Int),.r (rI lx),.b b2,.i (ny:Int),.r (rI ly)] /\
   WOK nx lx/\nrm nx lx/\WOK ny ly/\nrm ny ly/\mv lx=x/\mv ly=y/\eM x y=k/\Nat.gcd x y=Nat.gcd m.natAbs n.natAbs/\(x:Int)<pB 114/\(y:Int)<pB 114)
  (fun j qs=>(j=0/\∃(b:Bool) (n':Nat) (l:List Int),qs=[.b b,.i (n':Int),.r (rI l)]/\WOK n' l/\nrm n' l/\mv l=((Nat.gcd m.natAbs n.natAbs:Nat):Int))\/(j=1/\qs=[.s (tN (Nat.gcd m.natAbs n.natAbs)),.i 0])) (n:=eM m.natAbs n.natAbs) (qDi (by omega) (by omega))
  (fun k ps hk ⟨x,y,b1,b2,nx,ny,lx,ly,hps,hw,hnw,hw2,hn2,hx,hy,he,hg,lx1,ly1⟩=>by
  subst hps;rw[quT];have hxl:=hw.len;have hyl:=hw2.len;by_cases h0:ny=0
  ·right;have hy0:mv ly=0:=by rw[<-qnJ hw2 hn2];exact h0
   have hy0':y=0:=by omega
   refine⟨0,[.b b1,.i (nx:Int),.r (rI lx)],?_,.inl ⟨rfl,b1,nx,lx,rfl,hw,hnw,?_⟩⟩
   ·simp only[STD,h0,show ¬(0:Int)<((0:Nat):Int) by omega]
   ·rw[hx,<-hg,hy0',Nat.gcd_zero_right]
  ·have a0:(0:Int)<(ny:Int):=by omega
   have hy0:y≠0:=fun h=>h0 (by rw[qnJ hw2 hn2];omega);by_cases hc:nx<=1/\ny<=1
   ·right;have e1:=qJK hw hc.1;have e2:=qJK hw2 hc.2;have d1:cI (rI lx) 0 0=(x:Int):=by rw[show (0:Int)=((0:Nat):Int) from rfl,q4Y,<-e1,hx]
    have d2:cI (rI ly) 0 0=(y:Int):=by rw[show (0:Int)=((0:Nat):Int) from rfl,q4Y,<-e2,hy]
    have hy9:=hw2.get 0;rw[<-e2,hy] at hy9;have hE:=qGO x y (by omega);have hgl:Nat.gcd x y<=y:=Nat.gcd_le_right _ (by omega);have hO:=qe2 ((Nat.gcd x y:Nat):Int) (by omega);rw[q1o] at hO;have c1:(nx:Int)<=1:=by omega
    have c2:(ny:Int)<=1:=by omega
    refine⟨1,[.s (tN (Nat.gcd x y)),.i 0],?_,.inr ⟨rfl,by rw[hg]⟩⟩;simp only[STD,a0,c1,c2,d1,d2,hE,hO]
   ·left;have hny:ny<=114:=qG4 hw2 hn2 (by omega);obtain⟨nq,lq,nr,lr,d1,d2,d3,d4,d5,d6,d7⟩:=qhV hw hw2 hn2 h0 (by omega) b1 b2;have hr:mv lr=((x%y:Nat):Int):=by
     have b4:=d4.bd.1;rw[hx,hy] at d6;rw[hy] at d7;have hy1:(0:Int)<(y:Int):=by omega
     have:=(Int.ediv_emod_unique hy1 (a:=(x:Int)) (r:=mv lr) (q:=mv lq)).2 ⟨by rw[qP7];omega,b4,d7⟩;rw[<-this.2];simp
    refine⟨eM y (x%y),[.b b2,.i (ny:Int),.r (rI ly),.b false,.i (nr:Int),.r (rI lr)],by rw[<-he];exact qFi hy0,?_,y,x%y,b2,false,ny,nr,ly,lr,rfl,hw2,hn2,d4,d5,hy,hr,rfl,?_,ly1,?_⟩
    ·by_cases c1:nx<=1
     ·have c2:¬(ny:Int)<=1:=by omega
      have c1':(nx:Int)<=1:=by omega
      simp only[STD,a0,c1',c2,d1]
     ·have c1':¬(nx:Int)<=1:=by omega
      simp only[STD,a0,c1',d1]
    ·rw[<-hg,qPt y,<-Nat.gcd_rec,qPt]
    ·have:=qPg x (show 0<y by omega);omega) (ps:=[.b (decide (m<0)),.i (q1:Int),.r (rI l1),.b (decide (n<0)),.i (q2:Int),.r (rI l2)])
  ⟨m.natAbs,n.natAbs,_,_,q1,q2,l1,l2,rfl,w1,n1,w2,n2,v1,v2,rfl,rfl,lm,ln⟩
 rcases g2 with⟨rfl,b,n',l,rfl,a1,a2,a3⟩|⟨rfl,rfl⟩
 ·have hT:=qCn a1 a2 false;have hv:sv false l=((Nat.gcd m.natAbs n.natAbs:Nat):Int):=by unfold sv;rw[a3];rfl
  rw[hv,q1o] at hT;simp only[STD,qgH hm hn,r1,r2,g1,zh g1,hT]
 ·simp only[STD,qgH hm hn,r1,r2,g1,zh g1,show ¬(1=0) by omega]
end Go.Eng

namespace Go.Eng
variable {q:Rat}
theorem qFL:okL 1:=by show nl 1<=1024;decide
theorem qJb:okL 0:=by show nl 0<=1024;decide
theorem qMw (s:qNX)(hl:s.length<=1000000000):(q5j [.s s,.s [47]]).run=some (0,if sP s<s.length then [.s (s.take (sP s)),.s (s.drop (sP s+1)),.b true] else [.s s,.s [],.b false]):=by
 rw[qvw];have h:(wd [.s s,.s [47]]).run=some (0,if sP s<s.length then [.s (s.take (sP s)),.s (s.drop (sP s+1)),.b true] else [.s s,.s [],.b false]):=by
  rw[qaX];have hI:=qKG s;by_cases hc:sP s<s.length
  ·rw[if_pos hc] at hI ⊢;have w:qm .i64 (sP s:Int) (qu [47])=((sP s+1:Nat):Int):=by show qm .i64 (sP s:Int) 1=_;rw[qK (by omega)];omega
   have a1:(0:Int)<=(sP s:Int)/\(sP s:Int)<=qu s:=by unfold qu;omega
   have a2:(0:Int)<=0/\(0:Int)<=(sP s:Int):=by omega
   have a3:(0:Int)<=qu s/\qu s<=qu s:=by unfold qu;omega
   have a4:(0:Int)<=((sP s+1:Nat):Int)/\((sP s+1:Nat):Int)<=qu s:=by unfold qu;omega
   have e1:qdh s 0 (sP s:Int)=s.take (sP s):=by unfold qdh;simp
   have e2:qdh s ((sP s+1:Nat):Int) (qu s)=s.drop (sP s+1):=by unfold qdh qu;simp only[qO9];rw[qP9]
   simp only[STD,hI,a1.1,a1.2,a2,a3,a4,and_self,w,e1,e2]
  ·rw[if_neg hc] at hI ⊢;have a:¬(0:Int)<=-1:=by omega
   simp only[STD,hI,a]
 by_cases hc:sP s<s.length
 ·rw[if_pos hc] at h ⊢;simp only[STD,h]
 ·rw[if_neg hc] at h ⊢;simp only[STD,h]
theorem qLT (s:qNX)(hl:s.length<=1000000000):(qS [.s s]).run=some (0,[.s (spn s),.s (spd s),.b (decide (sP s<s.length))]):=by
 rw[qzV];have h:=qMw s hl;unfold spn spd;by_cases hc:sP s<s.length
 ·rw[if_pos hc] at h ⊢;rw[decide_eq_true hc];simp only[STD,h]
 ·rw[if_neg hc] at h ⊢;have:sP s=s.length:=by have:=qKL s;omega
  rw[decide_eq_false hc,this,qP9];simp only[STD,h]
theorem qMC (q:Rat):(sP (tQ q)<(tQ q).length)=(q.den≠1):=by
 by_cases h:q.den=1
 ·rw[qj3 h,qyt (quF _)];simp[h]
 ·rw[qdt h,qFt (quF _)];simp[h]
def okQ(q:Rat):Prop:=qn q<=1024/\qd q<=1024
theorem q6Y (h:okQ q):okL q.num:=h.1
theorem q4s (h:okQ q):okL (q.den:Int):=h.2
theorem qFD (h:okQ q):(tQ q).length<=3000:=by have:=qJC q;have:=h.1;have:=h.2;omega
theorem qhL (h:okQ q):(qS [.s (tQ q)]).run=some (0,[.s (tI q.num),.s (tI (q.den:Int)),.b (decide (q.den≠1))]):=by have:=qFD h;rw[qLT _ (by omega),qGP,qHA,q1o];simp only[qMC]
open Classical in
noncomputable def vI(s:qNX):Int:=if h:∃m:Int,s=tI m then h.choose else 0
theorem qLu (m:Int):vI (tI m)=m:=by unfold vI;have h:∃k:Int,tI m=tI k:=⟨m,rfl⟩;rw[dif_pos h];exact(qyP h.choose_spec).symm
theorem qG2 {s:qNX}(h:qCQ s=0):∃m:Int,s=tI m/\okL m:=by
 unfold qCQ at h;split at h
 ·rename_i hm;obtain⟨m,rfl⟩:=hm;rw[qAj] at h;split at h
  ·rename_i hl;exact⟨m,rfl,hl⟩
  ·omega
 ·omega
theorem qAs (s:qNX):qCQ s=0\/qCQ s=3\/qCQ s=11:=by
 unfold qCQ;split
 ·split<;>simp
 ·simp
noncomputable def qN3(s:qNX):Int:=
 if qCQ (spn s)=3 then 3 else if qCQ (spd s)=3 then 3 else if qCQ (spn s)≠0 then 11 else if qCQ (spd s)≠0 then 11
 else if sP s<s.length then (if sgn (vI (spd s)-1)<=0 then 3 else if Nat.gcd (vI (spn s)).natAbs (vI (spd s)).natAbs=1 then 0 else 3) else 0
theorem qM5 (s:qNX):(spn s).length<=s.length:=by unfold spn;rw[qOX];omega
theorem qMr (s:qNX):(spd s).length<=s.length+1:=by unfold spd;split<;>simp<;>omega
theorem qxs (s:qNX)(hl:s.length<=100000000):(zp [.s s]).run=some (0,[.i (qN3 s)]):=by
 rw[qtX];have hn:=qM5 s;have hd:=qMr s;have h1:=qfQ (spn s) (by omega);have h2:=qfQ (spd s) (by omega);have hc:=qLT s (by omega);have mx:quL 11 0=11/\quL 11 11=11/\quL 0 11=11:=by decide
 unfold qN3;rcases qAs (spn s) with a|a|a<;>rcases qAs (spd s) with b|b|b<;>rw[a] at h1 ⊢<;>rw[b] at h2 ⊢
 ·obtain⟨m,em,om⟩:=qG2 a;obtain⟨n,en,on⟩:=qG2 b;rw[em] at h1 hc ⊢;rw[en] at h2 hc ⊢;have hC:=qiP on (n:=1) qFL;rw[qJQ] at hC;have hG:=qN0 om on;rw[qLu,qLu];by_cases hs:sP s<s.length
  ·by_cases ho:sgn (n-1)<=0
   ·simp only[STD,hc,h1,h2,hs,hC,hG,ho,show ¬((0:Int)=3) by omega,show ¬((0:Int)≠0) by omega]
   ·by_cases hg:Nat.gcd m.natAbs n.natAbs=1
    ·simp only[STD,hc,h1,h2,hs,hC,hG,ho,hg,zM,qa8,show ¬((0:Int)=3) by omega,show ¬((0:Int)≠0) by omega]
    ·simp only[STD,hc,h1,h2,hs,hC,hG,ho,hg,zM,qa8,show ¬((0:Int)=3) by omega,show ¬((0:Int)≠0) by omega]
  ·simp only[STD,hc,h1,h2,hs,show ¬((0:Int)=3) by omega,show ¬((0:Int)≠0) by omega]
 all_goals simp only[STD,hc,h1,h2,mx,show ¬((0:Int)=3) by omega,show ¬((11:Int)=3) by omega,show ¬((11:Int)=0) by omega,show ¬((3:Int)=0) by omega]
theorem qKU (h:okQ q):qN3 (tQ q)=0:=by
 unfold qN3;have e1:spd (tQ q)=tI (q.den:Int):=by rw[qHA,q1o]
 rw[qGP,e1,qAJ (q6Y h),qAJ (q4s h)];simp only[qLu,qMC];by_cases hd:q.den=1
 ·simp[hd]
 ·have:=q.den_nz;have hs:¬sgn ((q.den:Int)-1)<=0:=by unfold sgn;rw[if_neg (by omega),if_neg (by omega)];omega
  have hr:Nat.gcd q.num.natAbs q.den=1:=q.reduced;simp[hd,hs,hr]
theorem qrm {l:List (List UInt8)}(hn:l.length<1000000)(h:∀s,s∈l->(zp [.s s]).run=some (0,[.i 0])):(qA [.r (rS l)]).run=some (0,[.i 0]):=by
 rw[qsO,qvO];have key:=qq (S:=q16) (fun i=>[.r (rS l),.i (l.length:Int),.i (i:Int)]) (0,[]) l.length (by omega) (fun i hi=>by
  rw[qec,qFq hi];have a1:(i:Int)<(l.length:Int):=by omega
  have a2:(i:Int)<qg (rS l):=by rw[qvO];exact a1
  simp only[STD,a1,a2,qaW,and_self,h _ (qOI hi),vX hi (show l.length<9223372036854775808 by omega)]) (by
  rw[qec];have a1:¬(l.length:Int)<(l.length:Int):=by omega
  simp only[STD,a1])
 simp only[show (((0:Nat)):Int)=0 from rfl] at key;simp only[STD,key,zh key]
theorem qa1 (h:okQ q):(zp [.s (tQ q)]).run=some (0,[.i 0]):=by have:=qFD h;rw[qxs _ (by omega),qKU h]
theorem qi6 {a b:Rat}(ha:okQ a)(hb:okQ b):(qA [.r [[.s (tQ a)],[.s (tQ b)]]]).run=some (0,[.i 0]):=by
 exact qrm (l:=[tQ a,tQ b]) (by simp) (fun s hs=>by
  simp only[qOj,List.not_mem_nil,or_false] at hs;rcases hs with rfl|rfl
  ·exact qa1 ha
  ·exact qa1 hb)
theorem qKw {m n:Int}(hm:okL m)(hn:okL n)(h:okL (m+n)):(q1e [.s (tI m),.s (tI n),.i 0]).run=some (0,[.s (tI (m+n)),.i 0]):=by
 rw[qol];have:(wN [.s (tI m),.s (tI n),.i 0]).run=some (0,[.s (tI (m+n)),.i 0]):=by rw[qbu];simp only[STD,qMK hm hn h]
 simp only[STD,this]
theorem qFx {m n:Int}(hm:okL m)(hn:okL n)(h:okL (m-n)):(vV [.s (tI m),.s (tI n),.i 0]).run=some (0,[.s (tI (m-n)),.i 0]):=by
 rw[qo8];have:(wM [.s (tI m),.s (tI n),.i 0]).run=some (0,[.s (tI (m-n)),.i 0]):=by rw[qbt];simp only[STD,qNt hm hn h]
 simp only[STD,this]
theorem qLe {m n:Int}(hm:okL m)(hn:okL n)(h:okL (m*n)):(zv [.s (tI m),.s (tI n),.i 0]).run=some (0,[.s (tI (m*n)),.i 0]):=by rw[qbv];simp only[STD,qNe hm hn h]
theorem qL5 {m n:Int}(hm:okL m)(hn:okL n):(wK [.s (tI m),.s (tI n),.i 0]).run=some (0,[.s (tN (Nat.gcd m.natAbs n.natAbs)),.i 0]):=by rw[qbz];simp only[STD,qN0 hm hn]
theorem qyC {k n:Int}(h0:n≠0)(hm:okL (k*n))(hn:okL n):(qN [.s (tI (k*n)),.s (tI n),.i 0]).run=some (0,[.s (tI k),.i 0]):=by rw[qbx];simp only[STD,qNr h0 hm hn]
def prd:Int->List Int->Int
 | a,[]=>a
 | a,m::l=>prd (a*m) l
def qKV:Int->List Int->Prop
 | a,[]=>okL a
 | a,m::l=>okL a/\okL m/\qKV (a*m) l
theorem qHg:∀(l:List Int) (pre:List Int) (a:Int),qKV a l->pre.length+l.length<1000->∀f,l.length<f ->
  (qmr jK f [.s (tI a),.r (rS ((pre++l).map tI)),.i ((pre++l).length:Int),.i (pre.length:Int),.i 0]).run=some (0,[.s (tI (prd a l)),.i 0])
 | [],pre,a,h,hl,f,hf=>by
  obtain⟨f,rfl⟩:∃g,f=g+1:=⟨f-1,by simp at hf;omega⟩;refine qnh ?_;rw[qbe,qOZ];have a1:¬(pre.length:Int)<(pre.length:Int):=by omega
  simp only[STD,a1];rfl
 | m::l,pre,a,h,hl,f,hf=>by
  obtain⟨f,rfl⟩:∃g,f=g+1:=⟨f-1,by simp at hf;omega⟩;obtain⟨h1,h2,h3⟩:=h;have hlt:pre.length<(pre++m::l).length:=by simp
  have ih:=qHg l (pre++[m]) (a*m) h3 (by simp at hl ⊢;omega) f (by simp at hf;omega);rw[qOu,List.singleton_append] at ih;have hok:okL (a*m):=by
   cases l with
   | nil=>exact h3
   | cons x l=>exact h3.1
  rw[qwS (qs:=[.s (tI (a*m)),.r (rS ((pre++m::l).map tI)),.i ((pre++m::l).length:Int),.i ((pre++[m]).length:Int),.i 0])]
  ·exact ih
  ·rw[qbe];have hlt2:pre.length<((pre++m::l).map tI).length:=by simp
   rw[qFq hlt2];have e:((pre++m::l).map tI)[pre.length]=tI m:=by simp
   rw[e];have a1:(pre.length:Int)<((pre++m::l).length:Int):=by omega
   have a2:(pre.length:Int)<qg (rS ((pre++m::l).map tI)):=by rw[qvO];omega
   have w:qm .i64 (pre.length:Int) 1=((pre++[m]).length:Int):=by rw[qK (by omega)];simp
   simp only[STD,a1,a2,qaW,and_self,qLe h1 h2 hok,w]
theorem qLZ (l:List Int)(h:qKV 1 l)(hl:l.length<1000):(qp [.r (rS (l.map tI)),.i 0]).run=some (0,[.s (tI (prd 1 l)),.i 0]):=by
 rw[qoL,qvO];have h1:=qHg l [] 1 h (by simp;omega) qpA (by unfold qpA;omega);simp only[qPi,qOJ] at h1;have e:(qf jK [.s [49],.r (rS (l.map tI)),.i ((l.map tI).length:Int),.i 0,.i 0]).run=some (0,[.s (tI (prd 1 l)),.i 0]):=by rw[qO7];exact h1
 simp only[STD,e]
theorem qgY {m n:Int}(hm:okL m)(hn:okL n)(h:okL (m*n)):(qp [.r [[.s (tI m)],[.s (tI n)]],.i 0]).run=some (0,[.s (tI (m*n)),.i 0]):=by have:=qLZ [m,n] ⟨qFL,hm,by rw[qPj];exact hm,hn,by rw[qPj];exact h⟩ (by simp);simp only[prd,qPj] at this;exact this
theorem qyQ (h:okQ q):(q1w [.s (tI q.num),.s (tI (q.den:Int))]).run=some (0,[.s (tQ q)]):=by
 rw[qt9,q1o];have l1:=qBT (q6Y h);have l2:(tN q.den).length<=1024:=h.2;have a1:qu (tI q.num)+qu [47]<=140737488355328:=by unfold qu;simp;omega
 have a2:qu (qeJ (tI q.num) [47])+qu (tN q.den)<=140737488355328:=by unfold qu qeJ;simp;omega
 by_cases h1:q.den=1
 ·simp only[STD,zM,qa8,h1,qj3 h1]
 ·simp only[STD,zM,qa8,h1,qdt h1,a1,a2];simp[qeJ]
theorem qIm (s:qNX):(yO [.s s,.s [45]]).run=some (0,[.b (decide (s.getD 0 0=45))]):=by rw[qjV];simp only[STD,qH9]
theorem qMN (n:Int):((tI n).getD 0 0=45)=(n<0):=by
 by_cases h:n<0
 ·rw[qbQ h];simp[h]
 ·rw[qlb h];obtain⟨c,t,e,h1,h2⟩:=qjz (zL n.natAbs) (qta _);rw[e];simp only[qPr,h,eq_iff_iff,iff_false];intro hc;subst hc;revert h1;decide
theorem qra {m n:Int}(hn0:n≠0)(hm:okL m)(hn:okL n):(qT [.s (tI m),.s (tI n),.i 0]).run=some (0,[.s (tQ (Rat.divInt m n)),.i 0])/\okQ (Rat.divInt m n):=by
 have hG:=qL5 hm hn;have hg0:0<Nat.gcd m.natAbs n.natAbs:=Nat.gcd_pos_of_pos_right _ (by omega);have hgn:Nat.gcd m.natAbs n.natAbs<=n.natAbs:=Nat.gcd_le_right _ (by omega);have hnum:=Rat.num_divInt m n;have hden:=Rat.den_divInt m n;rw[if_neg hn0] at hden;have hgc:Int.gcd n m=Nat.gcd m.natAbs n.natAbs:=by unfold Int.gcd;exact qPt _ _
 rw[hgc] at hnum hden;obtain⟨k,hk⟩:((Nat.gcd m.natAbs n.natAbs:Nat):Int) ∣ m:=Int.ofNat_dvd_left.2 (Nat.gcd_dvd_left _ _);obtain⟨l,hl⟩:((Nat.gcd m.natAbs n.natAbs:Nat):Int) ∣ n:=Int.ofNat_dvd_left.2 (Nat.gcd_dvd_right _ _);generalize Nat.gcd m.natAbs n.natAbs=g at *;generalize Rat.divInt m n=q at *;have hgok:okL (g:Int):=qJX (by simpa using hgn) hn;have hm2:k*(g:Int)=m:=by rw[qP7];exact hk.symm
 have hn2:l*(g:Int)=n:=by rw[qP7];exact hl.symm
 have hgz:(g:Int)≠0:=by omega
 have hok:okQ q:=by
  constructor
  ·refine qO2 (qtA ?_) hm;rw[hnum];refine qO2 (qQ2 _ _) ?_;rw[qPc,qQf hn0];omega
  ·refine qO2 (uv ?_) hn;rw[hden];exact qPS _ _
 refine⟨?_,hok⟩;rw[qjZ];have hP:=qIm (tI n);simp only[qMN] at hP;by_cases hneg:n<0
 ·have e1:-k=q.num:=by rw[hnum,Int.sign_eq_neg_one_of_neg hneg,<-hm2];rw[show (-1:Int)*(k*(g:Int))=(-k)*(g:Int) by rw[Int.neg_mul,qPj,Int.neg_mul]];exact(qPI _ hgz).symm
  have e2:-l=(q.den:Int):=by
   rw[hden];have h3:(n.natAbs:Int)=(-l)*(g:Int):=by rw[Int.neg_mul];omega
   rw[Int.natCast_ediv,h3,qPI _ hgz]
  have hS:=qFx (m:=0) (n:=(g:Int)) qJb hgok (by rw[Int.zero_sub];exact qyw hgok);rw[Int.zero_sub,q1o] at hS;have Q1:=qyC (k:=-k) (n:=-(g:Int)) (by omega) (by rw[qQ3,hm2];exact hm) (qyw hgok);have Q2:=qyC (k:=-l) (n:=-(g:Int)) (by omega) (by rw[qQ3,hn2];exact hn) (qyw hgok);rw[qQ3,hm2,e1] at Q1;rw[qQ3,hn2,e2] at Q2;have hS':(vV [.s [48],.s (tN g),.i 0]).run=some (0,[.s (tI (-(g:Int))),.i 0]):=hS;simp only[STD,hG,hP,hneg,hS',Q1,Q2,qyQ hok]
 ·have e1:k=q.num:=by rw[hnum,Int.sign_eq_one_of_pos (by omega),qPj,<-hm2];exact(qPI _ hgz).symm
  have e2:l=(q.den:Int):=by
   rw[hden];have h3:(n.natAbs:Int)=l*(g:Int):=by omega
   rw[Int.natCast_ediv,h3,qPI _ hgz]
  have Q1:=qyC (k:=k) (n:=(g:Int)) hgz (by rw[hm2];exact hm) hgok;have Q2:=qyC (k:=l) (n:=(g:Int)) hgz (by rw[hn2];exact hn) hgok;rw[hm2,e1,q1o] at Q1;rw[hn2,e2,q1o] at Q2;simp only[STD,hG,hP,hneg,Q1,Q2,qyQ hok]
end Go.Eng

namespace Go.Eng
variable {q:Rat}
theorem qEV (a b:Rat):Rat.divInt (a.num*b.den+b.num*a.den) ((a.den:Int)*(b.den:Int))=a+b:=by rw[Rat.add_def',<-Rat.divInt_ofNat];simp
theorem qDF (a b:Rat):Rat.divInt (a.num*b.den-b.num*a.den) ((a.den:Int)*(b.den:Int))=a-b:=by rw[Rat.sub_def',<-Rat.divInt_ofNat];simp
theorem qDT (a b:Rat):Rat.divInt (a.num*b.num) ((a.den:Int)*(b.den:Int))=a*b:=by rw[Rat.mul_def',<-Rat.divInt_ofNat];simp
theorem qEz (a b:Rat):Rat.divInt (a.num*b.den) ((a.den:Int)*b.num)=a/b:=by rw[Rat.div_def,Rat.inv_def,<-Rat.divInt_mul_divInt,Rat.num_divInt_den]
theorem qpa (a b:Rat):(a.den:Int)*(b.den:Int)≠0:=by have:=Int.mul_pos (qHY a) (qHY b);omega
theorem qN9 {m:Int}(h:m≠0):¬tI m=[48]:=by rw[qbd];exact h
def bnd(N D:Nat)(q:Rat):Prop:=qn q<=N/\qd q<=D
theorem bnd.ok {N D:Nat}(h:bnd N D q)(hN:N<=1024)(hD:D<=1024):okQ q:=⟨qO2 h.1 hN,qO2 h.2 hD⟩
theorem bnd.sm {N D K:Nat}(h:bnd N D q)(hN:N<=K)(hD:D<=K):sm K q:=⟨qO2 h.1 hN,qO2 h.2 hD⟩
theorem bnd.mono {N D N' D':Nat}(h:bnd N D q)(hN:N<=N')(hD:D<=D'):bnd N' D' q:=⟨qO2 h.1 hN,qO2 h.2 hD⟩
theorem bnd.mul {N D N' D':Nat}{a b:Rat}(ha:bnd N D a)(hb:bnd N' D' b):bnd (N+N') (D+D') (a*b):=⟨qO2 (qJV a b) (Nat.add_le_add ha.1 hb.1),qO2 (qJF a b) (Nat.add_le_add ha.2 hb.2)⟩
theorem bnd.add {N D N' D' K:Nat}{a b:Rat}(ha:bnd N D a)(hb:bnd N' D' b)(h1:N+D'+1<=K)(h2:N'+D+1<=K):bnd K (D+D') (a+b):=⟨by have:=qMf a b;have:=ha.1;have:=ha.2;have:=hb.1;have:=hb.2;omega,by have:=qLF a b;have:=ha.2;have:=hb.2;omega⟩
theorem bnd.sub {N D N' D' K:Nat}{a b:Rat}(ha:bnd N D a)(hb:bnd N' D' b)(h1:N+D'+1<=K)(h2:N'+D+1<=K):bnd K (D+D') (a-b):=⟨by have:=qLQ a b;have:=ha.1;have:=ha.2;have:=hb.1;have:=hb.2;omega,by have:=qMb a b;have:=ha.2;have:=hb.2;omega⟩
theorem bnd.div {N D N' D':Nat}{a b:Rat}(h0:b≠0)(ha:bnd N D a)(hb:bnd N' D' b):bnd (N+D') (D+N') (a/b):=⟨by have:=qM7 a h0;have:=ha.1;have:=hb.2;omega,by have:=qLE a h0;have:=ha.2;have:=hb.1;omega⟩
theorem bnd.neg {N D:Nat}{a:Rat}(h:bnd N D a):bnd N D (-a):=⟨by rw[qM1];exact h.1,h.2⟩
theorem qcd:bnd 1 1 0:=⟨by decide,by decide⟩
theorem qwU:bnd 1 1 1:=⟨by decide,by decide⟩
theorem q8T {m n:Int}{N M:Nat}(hm:nl m<=N)(hn:nl n<=M)(h:N+M<=1024):okL (m*n):=by have:=yZ m n;unfold okL;omega
theorem qfW {N D N' D':Nat}{a b:Rat}(ha:bnd N D a)(hb:bnd N' D' b)(h1:N+N'<=1024)(h2:D+D'<=1024):(vK [.s (tQ a),.s (tQ b)]).run=some (0,[.s (tQ (a*b)),.i 0]):=by
 have oa:=ha.ok (by omega) (by omega);have ob:=hb.ok (by omega) (by omega);have k1:okL (a.num*b.num):=q8T ha.1 hb.1 h1;have k2:okL ((a.den:Int)*(b.den:Int)):=q8T ha.2 hb.2 h2;have m1:=qgY (q6Y oa) (q6Y ob) k1;have m2:=qgY (q4s oa) (q4s ob) k2;have hL:=(qra (qpa a b) k1 k2).1;rw[qDT] at hL;rw[qzz];have key:(wZ [.s (tQ a),.s (tQ b)]).run=some (0,[.s (tQ (a*b)),.i 0]):=by
  rw[qda];have h1:(q37 [.s (tI a.num),.s (tI (a.den:Int)),.s (tI b.num),.s (tI (b.den:Int)),.i 0]).run=some (0,[.s (tI (a.num*b.num)),.s (tI ((a.den:Int)*(b.den:Int))),.i 0]):=by rw[quR];simp only[STD,m1,m2]
  simp only[STD,qi6 oa ob,qhL oa,qhL ob,h1,zM,qN9 (qpa a b),hL]
 simp only[STD,key]
theorem qlV {N D N' D':Nat}{a b:Rat}(ha:bnd N D a)(hb:bnd N' D' b)(h1:N+D'<=1023)(h2:N'+D<=1023)(h3:D+D'<=1024):(yQ [.s (tQ a),.s (tQ b)]).run=some (0,[.s (tQ (a+b)),.i 0]):=by
 have p1:=qwk a;have p2:=qwk b;have p3:=qvV a;have p4:=qvV b;have oa:okQ a:=⟨by have:=ha.1;have:=hb.2;omega,by have:=ha.2;have:=hb.2;omega⟩;have ob:okQ b:=⟨by have:=hb.1;have:=ha.2;omega,by have:=ha.2;have:=hb.2;omega⟩;have k1:okL (a.num*(b.den:Int)):=q8T ha.1 hb.2 (by omega);have k2:okL (b.num*(a.den:Int)):=q8T hb.1 ha.2 (by omega);have k3:okL ((a.den:Int)*(b.den:Int)):=q8T ha.2 hb.2 h3;have k4:okL (a.num*(b.den:Int)+b.num*(a.den:Int)):=by have q1:=qzT (a.num*(b.den:Int)) (b.num*(a.den:Int));have q2:=yZ a.num (b.den:Int);have q3:=yZ b.num (a.den:Int);have q4:nl a.num<=N:=ha.1;have q5:nl (b.den:Int)<=D':=hb.2;have q6:nl b.num<=N':=hb.1;have q7:nl (a.den:Int)<=D:=ha.2;unfold okL;omega
 have m1:=qgY (q6Y oa) (q4s ob) k1;have m2:=qgY (q6Y ob) (q4s oa) k2;have m3:=qgY (q4s oa) (q4s ob) k3;have hL:=(qra (qpa a b) k4 k3).1;rw[qEV] at hL;rw[qzu];have key:(wY [.s (tQ a),.s (tQ b)]).run=some (0,[.s (tQ (a+b)),.i 0]):=by
  rw[qdg];have h1:(q2D [.s (tI a.num),.s (tI (a.den:Int)),.s (tI b.num),.s (tI (b.den:Int)),.i 0]).run=some (0,[.s (tI (a.num*b.den+b.num*a.den)),.s (tI ((a.den:Int)*(b.den:Int))),.i 0]):=by rw[qus];simp only[STD,m1,m2,m3,qKw k1 k2 k4]
  simp only[STD,qi6 oa ob,qhL oa,qhL ob,h1,zM,qN9 (qpa a b),hL]
 simp only[STD,key]
theorem qbm {N D N' D':Nat}{a b:Rat}(ha:bnd N D a)(hb:bnd N' D' b)(h1:N+D'<=1023)(h2:N'+D<=1023)(h3:D+D'<=1024):(wn [.s (tQ a),.s (tQ b)]).run=some (0,[.s (tQ (a-b)),.i 0]):=by
 have p1:=qwk a;have p2:=qwk b;have p3:=qvV a;have p4:=qvV b;have oa:okQ a:=⟨by have:=ha.1;have:=hb.2;omega,by have:=ha.2;have:=hb.2;omega⟩;have ob:okQ b:=⟨by have:=hb.1;have:=ha.2;omega,by have:=ha.2;have:=hb.2;omega⟩;have k1:okL (a.num*(b.den:Int)):=q8T ha.1 hb.2 (by omega);have k2:okL (b.num*(a.den:Int)):=q8T hb.1 ha.2 (by omega);have k3:okL ((a.den:Int)*(b.den:Int)):=q8T ha.2 hb.2 h3;have k4:okL (a.num*(b.den:Int)-b.num*(a.den:Int)):=by have q1:=qCu (a.num*(b.den:Int)) (b.num*(a.den:Int));have q2:=yZ a.num (b.den:Int);have q3:=yZ b.num (a.den:Int);have q4:nl a.num<=N:=ha.1;have q5:nl (b.den:Int)<=D':=hb.2;have q6:nl b.num<=N':=hb.1;have q7:nl (a.den:Int)<=D:=ha.2;unfold okL;omega
 have m1:=qgY (q6Y oa) (q4s ob) k1;have m2:=qgY (q6Y ob) (q4s oa) k2;have m3:=qgY (q4s oa) (q4s ob) k3;have hL:=(qra (qpa a b) k4 k3).1;rw[qDF] at hL;rw[qzm];have key:(wT [.s (tQ a),.s (tQ b)]).run=some (0,[.s (tQ (a-b)),.i 0]):=by
  rw[qcw];have h1:(q2B [.s (tI a.num),.s (tI (a.den:Int)),.s (tI b.num),.s (tI (b.den:Int)),.i 0]).run=some (0,[.s (tI (a.num*b.den-b.num*a.den)),.s (tI ((a.den:Int)*(b.den:Int))),.i 0]):=by rw[quS];simp only[STD,m1,m2,m3,qFx k1 k2 k4]
  simp only[STD,qi6 oa ob,qhL oa,qhL ob,h1,zM,qN9 (qpa a b),hL]
 simp only[STD,key]
theorem q7a (q:Rat):(tQ q=[48])=(q=0):=by have:([48]:qNX)=tQ 0:=rfl;rw[this,qEh]
theorem qBm {N D N' D':Nat}{a b:Rat}(hb0:b≠0)(ha:bnd N D a)(hb:bnd N' D' b)(h1:N+D'<=1024)(h2:D+N'<=1024):(q4i [.s (tQ a),.s (tQ b)]).run=some (0,[.s (tQ (a/b)),.i 0]):=by
 have oa:okQ a:=⟨by have:=ha.1;omega,by have:=ha.2;omega⟩;have ob:okQ b:=⟨by have:=hb.1;omega,by have:=hb.2;omega⟩;have k1:okL (a.num*(b.den:Int)):=q8T ha.1 hb.2 h1;have k2:okL ((a.den:Int)*b.num):=q8T ha.2 hb.1 h2;have hbn:b.num≠0:=fun h=>hb0 (Rat.num_eq_zero.1 h);have hz:(a.den:Int)*b.num≠0:=by have:=qHY a;exact Int.mul_ne_zero (by omega) hbn
 have m1:=qgY (q6Y oa) (q4s ob) k1;have m2:=qgY (q4s oa) (q6Y ob) k2;have hL:=(qra hz k1 k2).1;rw[qEz] at hL;rw[qA4];have key:(v8 [.s (tQ a),.s (tQ b)]).run=some (0,[.s (tQ (a/b)),.i 0]):=by
  rw[qcG];have h1:(q34 [.s (tI a.num),.s (tI (a.den:Int)),.s (tI b.num),.s (tI (b.den:Int)),.i 0]).run=some (0,[.s (tI (a.num*b.den)),.s (tI ((a.den:Int)*b.num)),.i 0]):=by rw[quJ];simp only[STD,m1,m2]
  simp only[STD,qi6 oa ob,qhL oa,qhL ob,h1,zM,qN9 hz,hL]
 simp only[STD,qi6 oa ob,zM,q7a,hb0,key]
def rX(a b c:Rat):Int:=a.num*b.den*c.den
def rY(a b:Rat):Int:=b.num*a.den
def rR(c:Rat):Int:=c.num*c.den
structure RootOk (a b c:Rat):Prop where
 oa:okQ a
 ob:okQ b
 oc:okQ c
 x1:okL (a.num*b.den)
 x:okL (rX a b c)
 y:okL (rY a b)
 r:okL (rR c)
 xx:okL (rX a b c*rX a b c)
 yy:okL (rY a b*rY a b)
 yr:okL (rY a b*rY a b*rR c)
 d:okL (rX a b c*rX a b c-rY a b*rY a b*rR c)
theorem RootOk.of {N D N' D' R E:Nat}{a b c:Rat}(ha:bnd N D a)(hb:bnd N' D' b)(hc:bnd R E c)(h1:2*(N+D'+E)<=1023)(h2:2*(N'+D)+R+E<=1023):RootOk a b c:=by have q1:nl a.num<=N:=ha.1;have q2:nl (a.den:Int)<=D:=ha.2;have q3:nl b.num<=N':=hb.1;have q4:nl (b.den:Int)<=D':=hb.2;have q5:nl c.num<=R:=hc.1;have q6:nl (c.den:Int)<=E:=hc.2;have x1:=yZ a.num b.den;have x2:=yZ (a.num*b.den) c.den;have y1:=yZ b.num a.den;have r1:=yZ c.num c.den;have xx:=yZ (rX a b c) (rX a b c);have yy:=yZ (rY a b) (rY a b);have yr:=yZ (rY a b*rY a b) (rR c);have dd:=qCu (rX a b c*rX a b c) (rY a b*rY a b*rR c);have e1:nl (rX a b c)=nl (a.num*b.den*c.den):=rfl;have e2:nl (rY a b)=nl (b.num*a.den):=rfl;have e3:nl (rR c)=nl (c.num*c.den):=rfl;have p1:=qt6 a.num;have p2:=qt6 b.num;have p3:=qt6 c.num;have p4:=qt6 (a.den:Int);have p5:=qt6 (b.den:Int);have p6:=qt6 (c.den:Int);exact { oa:=⟨by show nl a.num<=1024;omega,by show nl (a.den:Int)<=1024;omega⟩,ob:=⟨by show nl b.num<=1024;omega,by show nl (b.den:Int)<=1024;omega⟩,oc:=⟨by show nl c.num<=1024;omega,by show nl (c.den:Int)<=1024;omega⟩,x1:=by unfold okL;omega,x:=by unfold okL;omega,y:=by unfold okL;omega,r:=by unfold okL;omega,xx:=by unfold okL;omega,yy:=by unfold okL;omega,yr:=by unfold okL;omega,d:=by unfold okL;omega }
end Go.Eng

namespace Go.Eng
variable {m:Int}
theorem q0z (hm:-999999999999999<=m/\m<=999999999999999):(wP [.i m]).run=some (0,[.s (tQ (m:Rat))]):=by rw[quN,qG7];simp only[STD,qe2 m (by omega)]
theorem q11 (hm:-999999999999999<=m/\m<=999999999999999):(zC [.i m]).run=some (0,[.s (tQ (m:Rat))]):=by rw[qvl,qG7];simp only[STD,q1x m (by omega) (by omega)]
def co(x:Int):Prop:=-100000<=x/\x<=100000
theorem qbF {x:Int}(h:co x):-999999999999999<=x/\x<=999999999999999:=by unfold co at h;omega
def qKN(l:R)(i:Nat):Prop:=co (cI l i 0)/\co (cI l i 1)/\co (cI l i 2)
def yu(l:R):Prop:=l.length<=64/\∀i,i<l.length->qKN l i
theorem qp8 {k:Nat}(h:nl m<=k)(_:0<k):bnd k 1 (m:Rat):=by
 refine⟨?_,?_⟩
 ·unfold qn;rw[Rat.num_intCast];exact h
 ·unfold qd;rw[Rat.den_intCast];decide
theorem qLy {k:Nat}(h:m.natAbs<10^k)(hk:0<k):nl m<=k:=by obtain⟨j,rfl⟩:∃j,k=j+1:=⟨k-1,by omega⟩;exact q2r j _ h
theorem qhl {x:Int}(h:co x):bnd 6 1 (x:Rat):=qp8 (qLy (by unfold co at h;omega) (by omega)) (by omega)
end Go.Eng

namespace Go.Eng
structure RelM (Z:Mx) (N C:Nat) (M:Nat->Nat->Rat):Prop where
 dim:Dim Z N C
 ok:∀i j,i<N->j<C->q7t Z i j=tQ (M i j)
theorem RelM.congr{Z:Mx}{N C:Nat}{M M':Nat->Nat->Rat}(h:RelM Z N C M)(e:∀i j,i<N->j<C->M i j=M' i j):RelM Z N C M':=⟨h.dim,fun i j hi hj=>by rw[h.ok i j hi hj,e i j hi hj]⟩
theorem qGN{Z:Mx}{N C i c:Nat}(h:Dim Z N C)(hi:i<N)(hc:c<C)(v:Bs)(a b:Nat):q7t (qEH Z i c v) a b=if a=i/\b=c then v else q7t Z a b:=by
 unfold q7t qEH;by_cases ha:a=i
 ·subst ha;have hl:(Z.getD a []).length=C:=h.row hi;have h1:((Z.set a ((Z.getD a []).set c v)).getD a [])=(Z.getD a []).set c v:=by rw[qNZ,qOc (by rw[h.n];exact hi)];rfl
  rw[h1];by_cases hb:b=c
  ·subst hb;rw[if_pos ⟨rfl,rfl⟩,qNZ,qOc (by omega)];rfl
  ·rw[if_neg (fun x=>hb x.2),qNZ,qO1 (fun e=>hb e.symm),<-qNZ]
 ·rw[if_neg (fun x=>ha x.1)];have h1:((Z.set i ((Z.getD i []).set c v)).getD a [])=Z.getD a []:=by rw[qNZ,qO1 (fun e=>ha e.symm),qNZ]
  rw[h1]
theorem qDZ{Z:Mx}{N C i j:Nat}(h:Dim Z N C)(hi:i<N)(hj:j<N)(a b:Nat):q7t (qbs Z i j) a b=q7t Z (swI j i a) b:=by
 unfold q7t qbs swI;have hn:=h.n;have g:∀(L:Mx) (x y:Nat) (r:List Bs),L.length=N->x<N->(L.set x r).getD y []=if y=x then r else L.getD y []:=fun L x y r hL hx=>by
  by_cases e:y=x
  ·subst e;rw[if_pos rfl,qNZ,qOc (by omega)];rfl
  ·rw[if_neg e,qNZ,qO1 (fun z=>e z.symm),qNZ]
 rw[g _ j a _ (by rw[qPb,hn]) hj];by_cases e1:a=j
 ·rw[if_pos e1,if_pos e1]
 ·rw[if_neg e1,if_neg e1,g _ i a _ hn hi];by_cases e2:a=i
  ·rw[if_pos e2,if_pos e2]
  ·rw[if_neg e2,if_neg e2]
theorem RelM.set{Z:Mx}{N C:Nat}{M:Nat->Nat->Rat}(h:RelM Z N C M){i c:Nat}(hi:i<N)(hc:c<C)(q:Rat):RelM (qEH Z i c (tQ q)) N C (fun a b=>if a=i/\b=c then q else M a b):=
 ⟨h.dim.set hi _,fun a b ha hb=>by
  rw[qGN h.dim hi hc];split
  ·rfl
  ·exact h.ok a b ha hb⟩
theorem RelM.swap{Z:Mx}{N C:Nat}{M:Nat->Nat->Rat}(h:RelM Z N C M){i j:Nat}(hi:i<N)(hj:j<N):RelM (qbs Z i j) N C (fun a b=>M (swI j i a) b):=⟨h.dim.swap hi hj,fun a b ha hb=>by rw[qDZ h.dim hi hj];exact h.ok _ b (qwe hj hi ha) hb⟩
theorem qHf{dv:Op2}{N C p:Nat}{M:Nat->Nat->Rat}{f:Rat}(hp:p<N)(hd:∀j,j<C->dv (tQ (M p j)) (tQ f)=some (tQ (M p j/f))) :
  ∀(g m:Nat),m+g=C->∀Z,RelM Z N C (fun i j=>if i=p/\j<m then M p j/f else M i j)->∃Z',quD dv p (tQ f) C g Z=some Z'/\RelM Z' N C (fun i j=>if i=p then M p j/f else M i j)
 | 0,m,hm,Z,hZ=>⟨Z,rfl,hZ.congr fun i j hi hj=>by
   by_cases e:i=p
   ·rw[if_pos ⟨e,by omega⟩,if_pos e]
   ·rw[if_neg (fun x=>e x.1),if_neg e]⟩
 | g+1,m,hm,Z,hZ=>by
  have h1:C-(g+1)=m:=by omega
  have h2:q7t Z p m=tQ (M p m):=by rw[hZ.ok p m hp (by omega),if_neg (by omega)]
  unfold quD;rw[h1,h2,hd m (by omega),qOp];exact qHf hp hd g (m+1) (by omega) _ ((hZ.set hp (show m<C by omega) (M p m/f)).congr fun i j hi hj=>by
   by_cases e:i=p
   ·subst e;by_cases e2:j=m
    ·subst e2;rw[if_pos ⟨rfl,rfl⟩,if_pos ⟨rfl,by omega⟩]
    ·rw[if_neg (fun x=>e2 x.2)];by_cases e3:j<m
     ·rw[if_pos ⟨rfl,e3⟩,if_pos ⟨rfl,by omega⟩]
     ·rw[if_neg (fun x=>e3 x.2),if_neg (fun x=>e3 (by omega))]
   ·rw[if_neg (fun x=>e x.1),if_neg (fun x=>e x.1),if_neg (fun x=>e x.1)])
theorem qvD{ml sb:Op2}{N C p i:Nat}{M:Nat->Nat->Rat}{t:Rat}(hp:p<N)(hi:i<N)(hip:i≠p)(h1:∀j,j<C->ml (tQ t) (tQ (M p j))=some (tQ (t*M p j)))(h2:∀j,j<C->sb (tQ (M i j)) (tQ (t*M p j))=some (tQ (M i j-t*M p j))) :
  ∀(g m:Nat),m+g=C->∀Z,RelM Z N C (fun a j=>if a=i/\j<m then M i j-t*M p j else M a j)->∃Z',qeT ml sb i p (tQ t) C g Z=some Z'/\RelM Z' N C (fun a j=>if a=i then M i j-t*M p j else M a j)
 | 0,m,hm,Z,hZ=>⟨Z,rfl,hZ.congr fun a j ha hj=>by
   by_cases e:a=i
   ·rw[if_pos ⟨e,by omega⟩,if_pos e]
   ·rw[if_neg (fun x=>e x.1),if_neg e]⟩
 | g+1,m,hm,Z,hZ=>by
  have e1:C-(g+1)=m:=by omega
  have q1:q7t Z p m=tQ (M p m):=by rw[hZ.ok p m hp (by omega),if_neg (fun x=>hip x.1.symm)]
  have q2:q7t Z i m=tQ (M i m):=by rw[hZ.ok i m hi (by omega),if_neg (by omega)]
  unfold qeT;rw[e1,q1,h1 m (by omega),qOp,q2,h2 m (by omega),qOp];exact qvD hp hi hip h1 h2 g (m+1) (by omega) _ ((hZ.set hi (show m<C by omega) (M i m-t*M p m)).congr fun a j ha hj=>by
   by_cases e:a=i
   ·subst e;by_cases e2:j=m
    ·subst e2;rw[if_pos ⟨rfl,rfl⟩,if_pos ⟨rfl,by omega⟩]
    ·rw[if_neg (fun x=>e2 x.2)];by_cases e3:j<m
     ·rw[if_pos ⟨rfl,e3⟩,if_pos ⟨rfl,by omega⟩]
     ·rw[if_neg (fun x=>e3 x.2),if_neg (fun x=>e3 (by omega))]
   ·rw[if_neg (fun x=>e x.1),if_neg (fun x=>e x.1),if_neg (fun x=>e x.1)])
theorem qxE{ml sb:Op2}{N C p k:Nat}{M:Nat->Nat->Rat}(hp:p<N)(hk:k<C)(h1:∀i j,i<N->i≠p->j<C->ml (tQ (M i k)) (tQ (M p j))=some (tQ (M i k*M p j)))
  (h2:∀i j,i<N->i≠p->j<C->sb (tQ (M i j)) (tQ (M i k*M p j))=some (tQ (M i j-M i k*M p j))) :
  ∀(g m:Nat),m+g=N->∀Z,RelM Z N C (fun i j=>if i<m/\i≠p then M i j-M i k*M p j else M i j)->∃Z',qqI ml sb p k N C g Z=some Z'/\RelM Z' N C (fun i j=>if i≠p then M i j-M i k*M p j else M i j)
 | 0,m,hm,Z,hZ=>⟨Z,rfl,hZ.congr fun i j hi hj=>by
   by_cases e:i≠p
   ·rw[if_pos ⟨by omega,e⟩,if_pos e]
   ·rw[if_neg (fun x=>e x.2),if_neg e]⟩
 | g+1,m,hm,Z,hZ=>by
  have e1:N-(g+1)=m:=by omega
  have q1:q7t Z m k=tQ (M m k):=by rw[hZ.ok m k (by omega) hk,if_neg (by omega)]
  unfold qqI;rw[e1,q1];have zi:=q7a (M m k);have skip:(m=p\/M m k=0)->RelM Z N C (fun i j=>if i<m+1/\i≠p then M i j-M i k*M p j else M i j):=fun h=>hZ.congr fun i j hi hj=>by
   by_cases e:i=m
   ·subst e;rw[if_neg (by omega)];rcases h with h|h
    ·rw[if_neg (fun x=>x.2 h)]
    ·by_cases e2:i=p
     ·rw[if_neg (fun x=>x.2 e2)]
     ·rw[if_pos ⟨by omega,e2⟩,h];grind
   ·by_cases e2:i<m/\i≠p
    ·rw[if_pos e2,if_pos ⟨by omega,e2.2⟩]
    ·rw[if_neg e2,if_neg (fun x=>e2 ⟨by omega,x.2⟩)]
  by_cases hc:m=p\/M m k=0
  ·rw[if_pos (by rw[zi];exact hc)];exact qxE hp hk h1 h2 g (m+1) (by omega) Z (skip hc)
  ·rw[if_neg (by rw[zi];exact hc)];rw[not_or] at hc;obtain⟨Z1,r1,r2⟩:=qvD (ml:=ml) (sb:=sb) (M:=fun i j=>if i<m/\i≠p then M i j-M i k*M p j else M i j) (t:=M m k) hp (show m<N by omega) hc.1
    (fun j hj=>by rw[if_neg (by omega)];exact h1 m j (by omega) hc.1 hj) (fun j hj=>by rw[if_neg (by omega),if_neg (by omega)];exact h2 m j (by omega) hc.1 hj) C 0 (by omega) Z (hZ.congr fun i j hi hj=>by rw[if_neg (show ¬(i=m/\j<0) by omega)])
   rw[r1,qOp];exact qxE hp hk h1 h2 g (m+1) (by omega) Z1 (r2.congr fun i j hi hj=>by
    by_cases e:i=m
    ·subst e;rw[if_pos rfl,if_neg (by omega),if_neg (by omega),if_pos ⟨by omega,hc.1⟩]
    ·rw[if_neg e];by_cases e2:i<m/\i≠p
     ·rw[if_pos e2,if_pos ⟨by omega,e2.2⟩]
     ·rw[if_neg e2,if_neg (fun x=>e2 ⟨by omega,x.2⟩)])
def pvI(M:Nat->Nat->Rat)(k N:Nat):Nat->Nat
 | 0=>N
 | g+1=>if M (N-(g+1)) k=0 then pvI M k N g else N-(g+1)
theorem qhK(M:Nat->Nat->Rat)(k N:Nat):∀g,g<=N->(pvI M k N g=N/\∀i,N-g<=i->i<N->M i k=0)\/(N-g<=pvI M k N g/\pvI M k N g<N/\M (pvI M k N g) k≠0)
 | 0,_=>.inl ⟨rfl,fun i h1 h2=>by omega⟩
 | g+1,h=>by
  unfold pvI;by_cases e:M (N-(g+1)) k=0
  ·rw[if_pos e];rcases qhK M k N g (by omega) with⟨h1,h2⟩|⟨h1,h2,h3⟩
   ·refine .inl ⟨h1,fun i a b=>?_⟩;by_cases q:i=N-(g+1)
    ·rw[q];exact e
    ·exact h2 i (by omega) b
   ·exact .inr ⟨by omega,h2,h3⟩
  ·rw[if_neg e];exact .inr ⟨qO0 _,by omega,e⟩
theorem qCA{Z:Mx}{N C k:Nat}{M:Nat->Nat->Rat}(h:RelM Z N C M)(hk:k<C):∀g,g<=N->qeL Z k N g=pvI M k N g
 | 0,_=>rfl
 | g+1,hg=>by
  unfold qeL pvI;rw[h.ok (N-(g+1)) k (by omega) hk,qCA h hk g (by omega)];have zi:=q7a (M (N-(g+1)) k);by_cases e:M (N-(g+1)) k=0
  ·rw[if_pos e,if_pos (by rw[zi];exact e)]
  ·rw[if_neg e,if_neg (by rw[zi];exact e)]
def pvQ(N c:Nat)(M:Nat->Nat->Rat):Option Nat:=if pvI M c N (N-c)=N then none else some (pvI M c N (N-c))
theorem qzh(N:Nat):Pivots N (pvQ N) where
 some:=fun c M i hc h=>by
  unfold pvQ at h;rcases qhK M c N (N-c) (by omega) with⟨h1,_⟩|⟨h1,h2,h3⟩
  ·rw[if_pos h1] at h;cases h
  ·rw[if_neg (by omega)] at h;cases h;exact⟨by omega,h2,h3⟩
 none:=fun c M i h hci hi=>by
  unfold pvQ at h;rcases qhK M c N (N-c) (by omega) with⟨_,h2⟩|⟨h1,h2,h3⟩
  ·exact h2 i (by omega) hi
  ·rw[if_neg (by omega)] at h;cases h
def gsP(k p i0:Nat)(M:Nat->Nat->Rat):Nat->Nat->Rat:=fun i j=>if i=p then M i0 j/M i0 k else M (swI p i0 i) j-M (swI p i0 i) k*(M i0 j/M i0 k)
theorem qJA(c i0:Nat)(M:Nat->Nat->Rat):gsP c c i0 M=gs c i0 M:=by funext i j;unfold gsP gs;simp only[Rat.div_def]
def BM(N C a b:Nat)(M:Nat->Nat->Rat):Prop:=∀i j,i<N->j<C->bnd a b (M i j)
structure OpsQ (ml dv sb:Op2):Prop where
 ml:∀{a b:Rat} {N D N' D':Nat},bnd N D a->bnd N' D' b->N+N'<=1024->D+D'<=1024->ml (tQ a) (tQ b)=some (tQ (a*b))
 dv:∀{a b:Rat} {N D N' D':Nat},b≠0->bnd N D a->bnd N' D' b->N+D'<=1024->D+N'<=1024->dv (tQ a) (tQ b)=some (tQ (a/b))
 sb:∀{a b:Rat} {N D N' D':Nat},bnd N D a->bnd N' D' b->N+D'<=1023->N'+D<=1023->D+D'<=1024->sb (tQ a) (tQ b)=some (tQ (a-b))
theorem qNO:OpsQ (opF vK) (opF q4i) (opF wn) where
 ml:=fun ha hb h1 h2=>by unfold opF;rw[qfW ha hb h1 h2];rfl
 dv:=fun h0 ha hb h1 h2=>by unfold opF;rw[qBm h0 ha hb h1 h2];rfl
 sb:=fun ha hb h1 h2 h3=>by unfold opF;rw[qbm ha hb h1 h2 h3];rfl
theorem qKB{ml dv sb:Op2}(ops:OpsQ ml dv sb){N C k p i0 a b u v:Nat}{s:RS}{M:Nat->Nat->Rat}{d:Rat}(hs:RelM s.Z N C M)(hb:BM N C a b M)(hd:s.det=tQ d)(hdb:bnd u v d)(hp:s.p=p)(hpN:p<N)(hk:k<C)(hi:i0<N) (hpi:p<=i0) (h0:M i0 k≠0) (hf:qeL s.Z k N (N-s.p)=i0) (c1:2*a+2*b<=1023) (c2:a+3*b<=1024) (c3:u+v+2+a<=1023) (c4:v+1+b<=1023) :∃s',qlh ml dv sb k N C s=some s'/\RelM s'.Z N C (gsP k p i0 M)/\BM N C (2*a+2*b+1) (a+3*b) (gsP k p i0 M)/\(∃d',s'.det=tQ d'/\bnd (u+v+2+a) (v+1+b) d')/\s'.p=p+1/\s'.lead=s.lead++[k]:=by
 subst hp;unfold qlh;rw[hf,if_neg (by omega)];have bi:∀j,j<C->bnd a b (M i0 j):=fun j hj=>hb i0 j hi hj;obtain⟨dd,e1,e2⟩:∃dd,(if i0=s.p then some s.det else sb [48] s.det)=some (tQ dd)/\bnd (u+v+2) (v+1) dd:=by
  by_cases e:i0=s.p
  ·exact⟨d,by rw[if_pos e,hd],hdb.mono (by omega) (by omega)⟩
  ·refine⟨0-d,?_,?_⟩
   ·rw[if_neg e,hd];have:([48]:Bs)=tQ 0:=by decide
    rw[this];exact ops.sb qcd hdb (by omega) (by omega) (by omega)
   ·have:=qcd.sub hdb (K:=u+v+2) (by omega) (by omega);exact this.mono (qO0 _) (by omega)
 rw[e1,qOp];have h1:=hs.swap hi hpN;have hpv:q7t (qbs s.Z i0 s.p) s.p k=tQ (M i0 k):=by
  rw[h1.ok s.p k hpN hk];have:swI s.p i0 s.p=i0:=by unfold swI;rw[if_pos rfl]
  rw[this]
 rw[hpv,ops.ml e2 (bi k hk) (by omega) (by omega),qOp];have eq_p:∀j,M (swI s.p i0 s.p) j=M i0 j:=fun j=>by
  have:swI s.p i0 s.p=i0:=by unfold swI;rw[if_pos rfl]
  rw[this]
 obtain⟨Z1,q1,q2⟩:=qHf (dv:=dv) (M:=fun i j=>M (swI s.p i0 i) j) (f:=M i0 k) hpN (fun j hj=>by rw[eq_p];exact ops.dv h0 (bi j hj) (bi k hk) (by omega) (by omega)) C 0 (by omega) _ (h1.congr fun i j _ _=>by rw[if_neg (by omega)]);rw[q1,qOp];have yb:∀j,j<C->bnd (a+b) (b+a) (M i0 j/M i0 k):=fun j hj=>(bi j hj).div h0 (bi k hk);have sb':∀i j,i<N->j<C->bnd a b (M (swI s.p i0 i) j):=fun i j hi' hj=>hb _ j (qwe hpN hi hi') hj;obtain⟨Z2,q3,q4⟩:=qxE (ml:=ml) (sb:=sb) (p:=s.p) (k:=k) (M:=fun i j=>if i=s.p then M i0 j/M i0 k else M (swI s.p i0 i) j) hpN hk
  (fun i j hi' e hj=>by rw[if_pos rfl,if_neg e];exact ops.ml (sb' i k hi' hk) (yb j hj) (by omega) (by omega))
  (fun i j hi' e hj=>by rw[if_pos rfl,if_neg e,if_neg e];exact ops.sb (sb' i j hi' hj) ((sb' i k hi' hk).mul (yb j hj)) (by omega) (by omega) (by omega)) N 0 (by omega) Z1
  (q2.congr fun i j _ _=>by
   rw[if_neg (show ¬(i<0/\i≠s.p) by omega)];by_cases e:i=s.p
   ·rw[if_pos e,if_pos e,eq_p]
   ·rw[if_neg e,if_neg e])
 rw[q3,qOp];refine⟨_,rfl,q4.congr fun i j _ _=>?_,fun i j hi' hj=>?_,⟨_,rfl,e2.mul (bi k hk)⟩,rfl,rfl⟩
 ·unfold gsP;by_cases e:i=s.p
  ·rw[if_pos e,if_neg (fun z=>z e),if_pos e]
  ·rw[if_neg e,if_pos e,if_neg e,if_neg e,if_pos rfl]
 ·unfold gsP;by_cases e:i=s.p
  ·rw[if_pos e];exact(yb j hj).mono (by omega) (by omega)
  ·rw[if_neg e];have:=(sb' i j hi' hj).sub ((sb' i k hi' hk).mul (yb j hj)) (K:=2*a+2*b+1) (by omega) (by omega);exact this.mono (qO0 _) (by omega)
def bs:Nat->Nat×Nat
 | 0=>(13,1)
 | k+1=>(2*(bs k).1+2*(bs k).2+1,(bs k).1+3*(bs k).2)
def ds:Nat->Nat×Nat
 | 0=>(1,1)
 | k+1=>((ds k).1+(ds k).2+2+(bs k).1,(ds k).2+1+(bs k).2)
theorem qNn(k:Nat)(h:k<3):2*(bs k).1+2*(bs k).2<=1023/\(bs k).1+3*(bs k).2<=1024/\(ds k).1+(ds k).2+2+(bs k).1<=1023/\(ds k).2+1+(bs k).2<=1023:=by
 match k,h with
 | 0,_=>decide
 | 1,_=>decide
 | 2,_=>decide
theorem BM.mono{N C a b a' b':Nat}{M:Nat->Nat->Rat}(h:BM N C a b M)(h1:a<=a')(h2:b<=b'):BM N C a' b' M:=fun i j hi hj=>(h i j hi hj).mono h1 h2
theorem qKj(k:Nat):(bs k).1<=(bs (k+1)).1/\(bs k).2<=(bs (k+1)).2/\(ds k).1<=(ds (k+1)).1/\(ds k).2<=(ds (k+1)).2:=by simp only[bs,ds];omega
theorem qGj{ml dv sb:Op2}(ops:OpsQ ml dv sb){N C:Nat}(hN:N<=3)(hC:N<=C):∀(g k:Nat),k+g=N->∀(s:RS) (M:Nat->Nat->Rat) (d:Rat),RelM s.Z N C M->BM N C (bs k).1 (bs k).2 M->s.det=tQ d->bnd (ds k).1 (ds k).2 d->s.p<=k->s.lead.length=s.p ->
  ∃fin M',qyF ml dv sb N N C g s=some fin/\RelM fin.Z N C M'/\BM N C (bs N).1 (bs N).2 M'/\fin.lead.length<=s.p+g/\(s.p=k->(q4n N (pvQ N) g k M=some M'/\fin.lead.length=N)\/(q4n N (pvQ N) g k M=none/\fin.lead.length<N))
 | 0,k,hk,s,M,d,hs,hb,hd,hdb,hp,hl=>by
  have:k=N:=by omega
  subst this;exact⟨s,M,rfl,hs,hb,by omega,fun h=>.inl ⟨rfl,by omega⟩⟩
 | g+1,k,hk,s,M,d,hs,hb,hd,hdb,hp,hl=>by
  have hkN:N-(g+1)=k:=by omega
  obtain⟨m1,m2,m3,m4⟩:=qKj k;obtain⟨o1,o2,o3,o4⟩:=qNn k (by omega);unfold qyF;rw[hkN];have hf:=qCA hs (show k<C by omega) (N-s.p) (by omega);rcases qhK M k N (N-s.p) (by omega) with⟨h1,h2⟩|⟨h1,h2,h3⟩
  ·have e:qlh ml dv sb k N C s=some s:=by unfold qlh;rw[if_pos (by rw[hf];exact h1)]
   rw[e,qOp];obtain⟨fin,M',r1,r2,r3,r4,r5⟩:=qGj ops hN hC g (k+1) (by omega) s M d hs (hb.mono m1 m2) hd (hdb.mono m3 m4) (by omega) hl;refine⟨fin,M',r1,r2,r3,by omega,fun hpk=>.inr ⟨?_,by omega⟩⟩;subst hpk;unfold q4n pvQ;rw[if_pos h1]
  ·obtain⟨s',q1,q2,q3,⟨d',q4,q5⟩,q6,q7⟩:=qKB ops hs hb hd hdb rfl (show s.p<N by omega) (show k<C by omega) h2 (by omega) h3 hf o1 o2 o3 o4;rw[q1,qOp];obtain⟨fin,M',r1,r2,r3,r4,r5⟩:=qGj ops hN hC g (k+1) (by omega) s' _ d' q2 q3 q4 q5 (by omega) (by rw[q7,q6,qOh,hl];rfl);refine⟨fin,M',r1,r2,r3,by omega,fun hpk=>?_⟩;have hg:q4n N (pvQ N) (g+1) k M=q4n N (pvQ N) g (k+1) (gsP k s.p (pvI M k N (N-s.p)) M):=by subst hpk;rw[qJA];show (match pvQ N s.p M with|none=>none|some i0=>q4n N (pvQ N) g (s.p+1) (gs s.p i0 M))=_;unfold pvQ;rw[if_neg (by omega)]
   rw[hg];exact r5 (by omega)
variable {n:Nat}
def u7(F:Nat->Nat->Bs)(n:Nat):R:=(mkL F n n).map fun x=>[.s x]
theorem qjl (F:Nat->Nat->Bs)(n:Nat):(u7 F n).length=n*n:=by unfold u7;rw[qO7,qjf]
theorem qoT (F:Nat->Nat->Bs){n i k:Nat}(hi:i<n)(hk:k<n):cS (u7 F n) ((i*n+k:Nat):Int) 0=F i k:=by
 have e:((mkL F n n).map fun x=>[U.s x]).getD (i*n+k) []=[U.s (F i k)]:=by rw[qNZ,qO8,qBM F n n i k hi hk];rfl
 unfold cS zH u7;rw[qO9,e];rfl
theorem qAv {F G:Nat->Nat->Bs}(h:∀i k,i<n->k<n->F i k=G i k):u7 F n=u7 G n:=by
 unfold u7;congr 1;have:∀m,m<=n->mkL F n m=mkL G n m:=by
  intro m;induction m with
  | zero=>intro _;rfl
  | succ m ih=>
   intro hm;rw[mkL,mkL,ih (by omega)];congr 1;exact qPa fun k hk=>h m k (by omega) (qOV.1 hk)
 exact this n (qO0 _)
theorem qzi {l:R}(hl:l.length=n)(hn:n<1000000)(h:∀i,i<n->(zp [.s (cS l (i:Int) 0)]).run=some (0,[.i 0])):(vU [.r l]).run=some (0,[.i 0]):=by
 rw[qp9];have key:=qq (S:=jL) (fun i=>[.r l,.i (n:Int),.i (i:Int)]) (0,[]) n (by omega) (fun i hi=>by
  rw[qaJ];have e:qg l=(n:Int):=by unfold qg;rw[hl]
  simp only[STD,e,h i hi,vX hi (show n<9223372036854775808 by omega),show (i:Int)<n by omega,show (0:Int)<=i by omega,and_self]) (by
  rw[qaJ];simp only[STD,show ¬(n:Int)<n by omega])
 have e:qg l=(n:Int):=by unfold qg;rw[hl]
 have key':(qf jL [.r l,.i (qg l),.i 0]).run=some (0,[]):=by rw[e];exact key
 simp only[STD,key',zh key']
theorem qJG (h:n<=16):(vE [.i (n:Int)]).run=some (0,[.b true]):=by
 rw[quY];have h1:(0:Int)<=n:=by omega
 have h2:(n:Int)<=16:=by omega
 have h3:ile (n:Int) 16=true:=by rw[qF6];exact h2
 simp only[STD,h1,h3]
theorem qkJ {F:Nat->Nat->Bs}(hn:n<=16)(h:∀i k,i<n->k<n->(zp [.s (F i k)]).run=some (0,[.i 0])):(jq [.i n,.i n,.r (u7 F n)]).run=some (0,[.i 0]):=by
 rw[qsM];have hnn:n*n<=16*16:=qOB hn hn;have e1:qg (u7 F n)=((n*n:Nat):Int):=by unfold qg;rw[qjl]
 have e2:wL .i64 (n:Int) (n:Int)=((n*n:Nat):Int):=by rw[q0G (by rw[<-qOM];omega)];simp
 have key:=qzi (l:=u7 F n) (qjl F n) (by omega) (fun j hj=>by
  have hn0:0<n:=by
   rcases qP6 n with h0|h0
   ·subst h0;simp at hj
   ·exact h0
  have h1:j/n<n:=Nat.div_lt_of_lt_mul hj;have h2:j%n<n:=qPg _ hn0;have h3:j=j/n*n+j%n:=by rw[Nat.mul_comm];exact(qPZ j n).symm
  rw[h3,qoT F h1 h2];exact h _ _ h1 h2)
 simp only[STD,qJG hn,e1,e2,key]
def aug(n:Nat)(G:Nat->Nat->Rat):Nat->Nat->Rat:=fun i j=>if j<n then G i j else if j=n+i then 1 else 0
theorem qJz (i k:Nat):qlX i k=tQ (if i=k then 1 else 0):=by
 unfold qlX;by_cases h:i=k
 ·rw[if_pos h,if_pos h];decide
 ·rw[if_neg h,if_neg h];decide
theorem qIi {F:Nat->Nat->Bs}{G:Nat->Nat->Rat}(h:∀i k,i<n->k<n->F i k=tQ (G i k)):RelM ((List.range n).map (row0 F qlX n)) n (2*n) (aug n G):=by
 refine⟨⟨by simp,fun r hr=>?_⟩,fun i j hi hj=>?_⟩
 ·obtain⟨i,_,rfl⟩:=qOP.1 hr;unfold row0;rw[qOh,qO7,qO7,qOv];omega
 ·have e:((List.range n).map (row0 F qlX n)).getD i []=row0 F qlX n i:=by rw[qNZ,qO8,qOD hi];rfl
  unfold q7t aug;rw[e];unfold row0;by_cases hjn:j<n
  ·rw[if_pos hjn,qNZ,qOb (by simpa using hjn),qO8,qOD hjn];exact h i j hi hjn
  ·rw[if_neg hjn,qNZ,qOi (by simp;omega),qO7,qOv,qO8,qOD (by omega)];simp only[qOz,qOW,qJz];congr 1;by_cases e2:j=n+i
   ·rw[if_pos e2,if_pos (by omega)]
   ·rw[if_neg e2,if_neg (by omega)]
theorem qLk {G:Nat->Nat->Rat}(h:∀i k,i<n->k<n->bnd 13 1 (G i k)):BM n (2*n) 13 1 (aug n G):=fun i j hi _=>by
 unfold aug;by_cases h1:j<n
 ·rw[if_pos h1];exact h i j hi h1
 ·rw[if_neg h1];split
  ·exact qwU.mono (by omega) (by omega)
  ·exact qcd.mono (by omega) (by omega)
theorem qKX (ck ml dv sb:List PV->TR){l:R}{fin:RS}(hn:n<=16)(hl:l.length=n*n)(hok:qLw (ck [.i n,.i n,.r l])=true)(hf:qyF (opF ml) (opF dv) (opF sb) n n (2*n) n ⟨(List.range n).map (row0 (fun i k=>cS l ((i*n+k:Nat):Int) 0) qlX n),[49],[],0⟩=some fin) :qLz ck ml dv sb [.i n,.i n,.r l]=if fin.lead.length<n then .leaf (0,[.i 0,.i 0,.r [],.i 14]) else .leaf (0,[.i n,.i n,.r ((mkL (fun i k=>q7t fin.Z i (n+k)) n n).map fun x=>[.s x]),.i 0]):=by simp only[qLz,qO9];rw[if_pos ⟨trivial,by omega,by omega,hl,hok⟩,hf]
theorem qNo (n:Nat)(hn:n<=3):(bs n).1<=337/\(bs n).2<=322:=by
 match n,hn with
 | 0,_=>decide
 | 1,_=>decide
 | 2,_=>decide
 | 3,_=>decide
theorem qNq:jS=qLz jq vK q4i wn:=rfl
theorem qFl (hn:n<=3){G:Nat->Nat->Rat}(hG:∀i k,i<n->k<n->bnd 13 1 (G i k)) :(∃N,q4n n (pvQ n) n 0 (aug n G)=some N/\BM n (2*n) 337 322 N/\(jS [.i n,.i n,.r (u7 (fun i k=>tQ (G i k)) n)]).run=some (0,[.i n,.i n,.r (u7 (fun i k=>tQ (N i (n+k))) n),.i 0])) \/(q4n n (pvQ n) n 0 (aug n G)=none/\(jS [.i n,.i n,.r (u7 (fun i k=>tQ (G i k)) n)]).run=some (0,[.i 0,.i 0,.r [],.i 14])):=by
 obtain⟨fin,M',r1,r2,r3,r4,r5⟩:=qGj qNO (N:=n) (C:=2*n) hn (by omega) n 0 (by omega) ⟨(List.range n).map (row0 (fun i k=>tQ (G i k)) qlX n),[49],[],0⟩ (aug n G) 1
  (qIi fun _ _ _ _=>rfl) (qLk hG) (show ([49]:Bs)=tQ 1 by decide) qwU (qO0 _) rfl
 have hck:qLw (jq [.i n,.i n,.r (u7 (fun i k=>tQ (G i k)) n)])=true:=by unfold qLw;rw[qkJ (by omega) fun i k hi hk=>qa1 ((hG i k hi hk).ok (by omega) (by omega))];rfl
 have hZ:(List.range n).map (row0 (fun i k=>cS (u7 (fun i k=>tQ (G i k)) n) ((i*n+k:Nat):Int) 0) qlX n)=(List.range n).map (row0 (fun i k=>tQ (G i k)) qlX n):=by
  refine qPa fun i hi=>?_;have e:(List.range n).map (fun k=>cS (u7 (fun i k=>tQ (G i k)) n) ((i*n+k:Nat):Int) 0)=(List.range n).map (fun k=>tQ (G i k)):=
   qPa fun k hk=>qoT (fun i k=>tQ (G i k)) (qOV.1 hi) (qOV.1 hk)
  show (List.range n).map (fun k=>cS (u7 (fun i k=>tQ (G i k)) n) ((i*n+k:Nat):Int) 0)++_=(List.range n).map (fun k=>tQ (G i k))++_;rw[e]
 have hrun:(jS [.i n,.i n,.r (u7 (fun i k=>tQ (G i k)) n)])=if fin.lead.length<n then .leaf (0,[.i 0,.i 0,.r [],.i 14]) else .leaf (0,[.i n,.i n,.r ((mkL (fun i k=>q7t fin.Z i (n+k)) n n).map fun x=>[.s x]),.i 0]):=by have hx:=qKX jq vK q4i wn (show n<=16 by omega) (qjl _ _) hck (by rw[hZ];exact r1);rw[<-qNq] at hx;exact hx
 have hbs:=qNo n hn;rcases r5 rfl with⟨q1,q2⟩|⟨q1,q2⟩
 ·refine .inl ⟨M',q1,r3.mono hbs.1 hbs.2,?_⟩;rw[hrun,if_neg (by omega)];have e:(mkL (fun i k=>q7t fin.Z i (n+k)) n n).map (fun x=>[U.s x])=u7 (fun i k=>tQ (M' i (n+k))) n:=qAv fun i k hi hk=>r2.ok i (n+k) hi (by omega);rw[e];rfl
 ·refine .inr ⟨q1,?_⟩;rw[hrun,if_pos q2];rfl
end Go.Eng

namespace Go.Eng
def txR(l:List Bs):R:=l.map fun x=>[.s x]
theorem qoe(l:List Bs):qg (txR l)=(l.length:Int):=by unfold txR qg;rw[qO7]
theorem qfr(l m:List Bs):zD (txR l) (txR m)=txR (l++m):=by unfold txR zD;rw[qOk]
theorem qfd(x:Bs):[[U.s x]]=txR [x]:=rfl
theorem qHw{l:List Bs}{i:Nat}{x:Bs}(h:l[i]?=some x):cS (txR l) (i:Int) 0=x:=by
 have e:(l.map fun x=>[U.s x]).getD i []=[U.s x]:=by rw[qNZ,qO8,h];rfl
 unfold cS zH txR;rw[qO9,e];rfl
theorem qx0{a b:Nat}(h:a*b<9223372036854775808):wL .i64 (a:Int) (b:Int)=((a*b:Nat):Int):=by rw[q0G (by rw[<-qOM];omega)];simp
theorem qD1{a b:Nat}(h:a+b<9223372036854775808):qm .i64 (a:Int) (b:Int)=((a+b:Nat):Int):=by rw[qK (by omega)];simp
theorem qME{n i k:Nat}(hi:i<n)(hk:k<n):i*n+k<n*n:=by have:=qOq n (show i+1<=n by omega);rw[qOf] at this;omega
theorem qNh{n i k:Nat}{L:R}{g:Int}(hn:n<=16)(hi:i<n)(hk:k<n)(hL:L.length=n*n)(hg:cI L ((i*n+k:Nat):Int) 0=g)(hb:-999999999999999<=g/\g<=999999999999999) :(uH [.i i,.i k,.r L,.i n]).run=some (0,[.s (tQ (g:Rat)),.r L,.i n]):=by
 have h1:=qME hi hk;have h2:n*n<=16*16:=qOB hn hn;rw[quG,qx0 (by omega),qD1 (by omega),hg];have e:qg L=((n*n:Nat):Int):=by unfold qg;rw[hL]
 simp only[STD,q0z hb,e,show (0:Int)<=((i*n+k:Nat):Int) by omega,show ((i*n+k:Nat):Int)<((n*n:Nat):Int) by omega,and_self]
theorem qMt{n:Nat}{L:R}{g:Nat->Nat->Int}(hn:n<=16)(hL:L.length=n*n)(hg:∀i k,i<n->k<n->cI L ((i*n+k:Nat):Int) 0=g i k)(hb:∀i k,i<n->k<n->-999999999999999<=g i k/\g i k<=999999999999999) :(q5m [.i n,.i n,.r L,.i n]).run=some (0,[.i n,.i n,.r (u7 (fun i k=>tQ (g i k:Rat)) n),.r L,.i n]):=by
 obtain⟨F,hF⟩:∃F:Nat->Nat->Bs,F=fun i k=>tQ (g i k:Rat):=⟨_,rfl⟩;have hnn:n*n<=16*16:=qOB hn hn;have ml:∀i,i<=n->(mkL F n i).length<=16*16:=fun i hi=>by rw[qjf];exact qO2 (qOq n hi) hnn
 have inner:∀i,i<n->(qf ul [.i n,.i i,.i n,.i i,.i n,.i 0,.r L,.i n,.i 0,.i 0,.i n,.i n,.r (txR (mkL F n i))]).run=some (0,[.i n,.i n,.i i,.r L,.i n,.i 0,.i 0,.i n,.i n,.r (txR (mkL F n (i+1)))]):=fun i hi=>by
  have key:=qq (S:=ul) (fun k=>[.i n,.i i,.i n,.i i,.i n,.i (k:Int),.r L,.i n,.i 0,.i 0,.i n,.i n,.r (txR (mkL F n i++(List.range k).map (F i)))]) (0,[.i n,.i n,.i i,.r L,.i n,.i 0,.i 0,.i n,.i n,.r (txR (mkL F n (i+1)))]) n (by omega) (fun k hk=>by
   rw[qe7];have hlen:(mkL F n i++(List.range k).map (F i)).length<=1000:=by have:=ml i (by omega);rw[qOh,qO7,qOv];omega
   have e1:txR (mkL F n i++(List.range (k+1)).map (F i))=zD (txR (mkL F n i++(List.range k).map (F i))) [[.s (F i k)]]:=by rw[qfd,qfr,qOO,qOk,<-qOu];rfl
   have e2:F i k=tQ (g i k:Rat):=by rw[hF]
   have e3:qg [[U.s (tQ (g i k:Rat))]]=1:=rfl;simp only[STD,qNh hn hi hk hL (hg i k hi hk) (hb i k hi hk),vX hk (show n<9223372036854775808 by omega),e1,e2,e3,qoe,show (k:Int)<n by omega,show (((mkL F n i++(List.range k).map (F i)).length:Int)+1<=8796093022208) by omega]) (by
   rw[qe7];simp only[STD,show ¬(n:Int)<n by omega,mkL])
  simpa using key
 have outer:=qq (S:=q0d) (fun i=>[.i n,.i n,.i (i:Int),.r L,.i n,.i 0,.i 0,.i n,.i n,.r (txR (mkL F n i))]) (0,[.r L,.i n,.i 0,.i 0,.i n,.i n,.r (txR (mkL F n n))]) n (by omega) (fun i hi=>by
  rw[qfZ];simp only[STD,inner i hi,vX hi (show n<9223372036854775808 by omega),show (i:Int)<n by omega]) (by
  rw[qfZ];simp only[STD,show ¬(n:Int)<n by omega])
 have key:(qf q0d [.i n,.i n,.i 0,.r L,.i n,.i 0,.i 0,.i n,.i n,.r []]).run=some (0,[.r L,.i n,.i 0,.i 0,.i n,.i n,.r (txR (mkL F n n))]):=outer;rw[qvh];simp only[STD,key];rw[hF];rfl
theorem qAY{n:Nat}{L:R}{g:Nat->Nat->Int}(hn:n<=16)(hL:L.length=n*n)(hg:∀i k,i<n->k<n->cI L ((i*n+k:Nat):Int) 0=g i k)(hb:∀i k,i<n->k<n->-999999999999999<=g i k/\g i k<=999999999999999) :(qar [.i n,.i n,.r L]).run=some (0,[.i n,.i n,.r (u7 (fun i k=>tQ (g i k:Rat)) n),.i 0]):=by
 have hnn:n*n<=16*16:=qOB hn hn;rw[qzf,qx0 (by omega)];have e:qg L=((n*n:Nat):Int):=by unfold qg;rw[hL]
 simp only[STD,qJG hn,qMt hn hL hg hb,e]
theorem qJU(x:Bs):(wQ [.s x,.i 0,.i 0]).run=some (0,[.s x,.i 0]):=by rw[qjS];simp only[STD]
theorem qMu{a b:Rat}{N D N' D':Nat}(ha:bnd N D a)(hb:bnd N' D' b)(h1:N+N'<=1024)(h2:D+D'<=1024):(uA [.s (tQ a),.s (tQ b),.i 0]).run=some (0,[.s (tQ (a*b)),.i 0]):=by rw[qlD];simp only[STD,qfW ha hb h1 h2,qJU]
theorem qLW{a b:Rat}{N D N' D':Nat}(ha:bnd N D a)(hb:bnd N' D' b)(h1:N+D'<=1023)(h2:N'+D<=1023)(h3:D+D'<=1024):(ur [.s (tQ a),.s (tQ b),.i 0]).run=some (0,[.s (tQ (a+b)),.i 0]):=by rw[qlF];simp only[STD,qlV ha hb h1 h2 h3,qJU]
theorem qKC{F:Nat->Nat->Bs}{n i k:Nat}(hn:n<=16)(hi:i<n)(hk:k<n):(q3N [.i n,.i n,.r (u7 F n),.i i,.i k]).run=some (0,[.s (F i k)]):=by
 have h1:=qME hi hk;have h2:n*n<=16*16:=qOB hn hn;rw[qsf,qx0 (by omega),qD1 (by omega),qoT F hi hk];have e:qg (u7 F n)=((n*n:Nat):Int):=by unfold qg;rw[qjl]
 simp only[STD,e,show (0:Int)<=((i*n+k:Nat):Int) by omega,show ((i*n+k:Nat):Int)<((n*n:Nat):Int) by omega,and_self]
def sbd:Nat->Nat×Nat
 | 0=>(1,1)
 | 1=>(352,324)
 | 2=>(676,647)
 | _=>(1000,970)
theorem qJD(m:Nat)(h:m<3):(sbd m).1+323<=1023/\350+(sbd m).2<=1023/\(sbd m).2+323<=1024/\(sbd m).1+323+1<=(sbd (m+1)).1/\350+(sbd m).2+1<=(sbd (m+1)).1/\(sbd m).2+323<=(sbd (m+1)).2:=by
 match m,h with
 | 0,_=>decide
 | 1,_=>decide
 | 2,_=>decide
theorem qJR{V B:Nat->Rat}{n:Nat}(hV:∀k,k<n->bnd 337 322 (V k))(hB:∀k,k<n->bnd 13 1 (B k)):∀m,m<=n->m<=3->bnd (sbd m).1 (sbd m).2 (su m fun k=>V k*B k)
 | 0,_,_=>qcd
 | m+1,h1,h2=>by
  obtain⟨o1,o2,o3,o4,o5,o6⟩:=qJD m (by omega);exact((qJR hV hB m (by omega) (by omega)).add ((hV m (by omega)).mul (hB m (by omega))) o4 o5).mono (qO0 _) o6
theorem qLf{n:Nat}(hn:n<=3){V:Nat->Nat->Rat}{B:Nat->Rat}(hV:∀i k,i<n->k<n->bnd 337 322 (V i k))(hB:∀k,k<n->bnd 13 1 (B k)) :(q3p [.i n,.i n,.r (u7 (fun i k=>tQ (V i k)) n),.r (txR ((List.range n).map fun k=>tQ (B k)))]).run=some (0,[.r (txR ((List.range n).map fun i=>tQ (su n fun k=>V i k*B k))),.i 0]):=by
 obtain⟨bl,hbl⟩:∃bl,bl=txR ((List.range n).map fun k=>tQ (B k)):=⟨_,rfl⟩;have lb:qg bl=(n:Int):=by rw[hbl,qoe,qO7,qOv]
 have gb:∀k,k<n->cS bl (k:Int) 0=tQ (B k):=fun k hk=>by rw[hbl];exact qHw (by rw[qO8,qOD hk];rfl)
 have inner:∀i,i<n->∀acc:List Bs,(qf yD [.r bl,.i i,.s [48],.i n,.i i,.r bl,.i n,.i 0,.i n,.i n,.r (u7 (fun i k=>tQ (V i k)) n),.i 0,.r (txR acc)]).run =
   some (0,[.r bl,.s (tQ (su n fun k=>V i k*B k)),.i n,.i i,.i n,.i n,.r (u7 (fun i k=>tQ (V i k)) n),.i 0,.r (txR acc)]):=fun i hi acc=>by
  have key:=qq (S:=yD) (fun k=>[.r bl,.i i,.s (tQ (su k fun k=>V i k*B k)),.i n,.i i,.r bl,.i n,.i (k:Int),.i n,.i n,.r (u7 (fun i k=>tQ (V i k)) n),.i 0,.r (txR acc)])
   (0,[.r bl,.s (tQ (su n fun k=>V i k*B k)),.i n,.i i,.i n,.i n,.r (u7 (fun i k=>tQ (V i k)) n),.i 0,.r (txR acc)]) n (by omega) (fun k hk=>by
    rw[qce];obtain⟨o1,o2,o3,_,_,_⟩:=qJD k (by omega);have s1:=qJR (fun k hk=>hV i k hi hk) hB k (by omega) (by omega);simp only[STD,qKC (F:=fun i k=>tQ (V i k)) (show n<=16 by omega) hi hk,gb k hk,lb,qMu (hV i k hi hk) (hB k hk) (by omega) (by omega),qLW s1 ((hV i k hi hk).mul (hB k hk)) o1 o2 o3,
     vX hk (show n<9223372036854775808 by omega),show (k:Int)<n by omega,show (0:Int)<=k by omega,and_self]
    rfl) (by
    rw[qce];simp only[STD,show ¬(n:Int)<n by omega])
  exact key
 have outer:=qq (S:=yx) (fun i=>[.r bl,.i n,.i (i:Int),.i n,.i n,.r (u7 (fun i k=>tQ (V i k)) n),.i 0,.r (txR ((List.range i).map fun i=>tQ (su n fun k=>V i k*B k)))])
  (0,[.i 0,.r (txR ((List.range n).map fun i=>tQ (su n fun k=>V i k*B k)))]) n (by omega) (fun i hi=>by
   rw[qc7];have e1:txR ((List.range (i+1)).map fun i=>tQ (su n fun k=>V i k*B k))=zD (txR ((List.range i).map fun i=>tQ (su n fun k=>V i k*B k))) [[.s (tQ (su n fun k=>V i k*B k))]]:=by rw[qfd,qfr,qOO,qOk];rfl
   have e3:qg [[U.s (tQ (su n fun k=>V i k*B k))]]=1:=rfl;simp only[STD,lb,inner i hi,vX hi (show n<9223372036854775808 by omega),show (i:Int)<n by omega,e1,e3,qoe,qO7,qOv,show (i:Int)+1<=8796093022208 by omega]) (by
   rw[qc7];simp only[STD,show ¬(n:Int)<n by omega])
 have key:(qf yx [.r bl,.i n,.i 0,.i n,.i n,.r (u7 (fun i k=>tQ (V i k)) n),.i 0,.r []]).run=some (0,[.i 0,.r (txR ((List.range n).map fun i=>tQ (su n fun k=>V i k*B k)))]):=outer;have hck:=qkJ (F:=fun i k=>tQ (V i k)) (show n<=16 by omega) fun i k hi hk=>qa1 ((hV i k hi hk).ok (by omega) (by omega));have hnum:=qzi (l:=bl) (n:=n) (by have:=lb;unfold qg at this;omega) (by omega) (fun i hi=>by rw[gb i hi];exact qa1 ((hB i hi).ok (by omega) (by omega)));rw[<-hbl,qrQ];simp only[STD,hck,lb,hnum,key]
def qDH(ox oy oz ax ay az bx by' bz:Int):Int:=(ax-ox)*(bx-ox)+(ay-oy)*(by'-oy)+(az-oz)*(bz-oz)
theorem qFj{a b:Int}(ha:co a)(hb:co b):-200000<=a-b/\a-b<=200000:=by unfold co at ha hb;omega
theorem qcp{a b c d:Int}(ha:co a)(hb:co b)(hc:co c)(hd:co d):-40000000000<=(a-b)*(c-d)/\(a-b)*(c-d)<=40000000000:=by have h1:=qFj ha hb;have h2:=qFj hc hd;have:=qN8 h1.1 h1.2 h2.1 h2.2;omega
theorem qLh{ox oy oz ax ay az bx by' bz:Int}(h1:co ox)(h2:co oy)(h3:co oz)(h4:co ax)(h5:co ay)(h6:co az)(h7:co bx)(h8:co by')(h9:co bz):-120000000000<=qDH ox oy oz ax ay az bx by' bz/\qDH ox oy oz ax ay az bx by' bz<=120000000000:=by have p1:=qcp h4 h1 h7 h1;have p2:=qcp h5 h2 h8 h2;have p3:=qcp h6 h3 h9 h3;unfold qDH;omega
theorem qeX{a b:Int}(ha:co a)(hb:co b):zY .i64 a b=a-b:=zc (by have:=qFj ha hb;omega)
theorem qo5{a b c d:Int}(ha:co a)(hb:co b)(hc:co c)(hd:co d):wL .i64 (a-b) (c-d)=(a-b)*(c-d):=q0G (by have:=qcp ha hb hc hd;omega)
theorem qfx(x y z:Int):(qB [.i x,.i y,.i z]).run=some (0,[.i x,.i y,.i z]):=by rw[qhd];rfl
theorem qNH{ox oy oz ax ay az bx by' bz:Int}(h1:co ox)(h2:co oy)(h3:co oz)(h4:co ax)(h5:co ay)(h6:co az)(h7:co bx)(h8:co by')(h9:co bz) :(q0L [.i ox,.i oy,.i oz,.i ax,.i ay,.i az,.i bx,.i by',.i bz]).run=some (0,[.i (qDH ox oy oz ax ay az bx by' bz)]):=by
 have p1:=qcp h4 h1 h7 h1;have p2:=qcp h5 h2 h8 h2;have p3:=qcp h6 h3 h9 h3;have key:=qq (S:=q0i) (fun i=>[.i (if i=0 then 0 else if i=1 then (ax-ox)*(bx-ox) else if i=2 then (ax-ox)*(bx-ox)+(ay-oy)*(by'-oy) else qDH ox oy oz ax ay az bx by' bz),.i (i:Int),.i ox,.i oy,.i oz,.i ax,.i ay,.i az,.i bx,.i by',.i bz])
  (0,[.i (qDH ox oy oz ax ay az bx by' bz)]) 3 (by omega) (fun i hi=>by
   rw[qgg];rcases (show i=0\/i=1\/i=2 by omega) with rfl|rfl|rfl
   ·have e1:qm .i64 ((0:Nat):Int) 1=((1:Nat):Int):=by decide
    have e2:qm .i64 0 ((ax-ox)*(bx-ox))=(ax-ox)*(bx-ox):=by rw[qK (by omega)];omega
    simp only[STD,e1,qeX h4 h1,qeX h7 h1,qo5 h4 h1 h7 h1,e2,show (((0:Nat):Int)<3)=True from eq_true (by decide),show (((0:Nat):Int)=2)=False from eq_false (by decide),show (((0:Nat):Int)=1)=False from eq_false (by decide),show (((0:Nat):Int)=0)=True from eq_true (by decide),qOS,show ((1:Nat)=0)=False from eq_false (by decide)]
   ·have e1:qm .i64 ((1:Nat):Int) 1=((2:Nat):Int):=by decide
    have e2:qm .i64 ((ax-ox)*(bx-ox)) ((ay-oy)*(by'-oy))=(ax-ox)*(bx-ox)+(ay-oy)*(by'-oy):=qK (by omega);simp only[STD,e1,qeX h5 h2,qeX h8 h2,qo5 h5 h2 h8 h2,e2,show (((1:Nat):Int)<3)=True from eq_true (by decide),show (((1:Nat):Int)=2)=False from eq_false (by decide),show (((1:Nat):Int)=1)=True from eq_true (by decide),show ((1:Nat)=0)=False from eq_false (by decide),show ((1+1:Nat)=0)=False from eq_false (by decide),show ((1+1:Nat)=1)=False from eq_false (by decide)]
   ·have e1:qm .i64 ((2:Nat):Int) 1=((3:Nat):Int):=by decide
    have e2:qm .i64 ((ax-ox)*(bx-ox)+(ay-oy)*(by'-oy)) ((az-oz)*(bz-oz))=qDH ox oy oz ax ay az bx by' bz:=by rw[qK (by omega)];rfl
    simp only[STD,e1,qeX h6 h3,qeX h9 h3,qo5 h6 h3 h9 h3,e2,show (((2:Nat):Int)<3)=True from eq_true (by decide),show (((2:Nat):Int)=2)=True from eq_true (by decide),show ((2:Nat)=0)=False from eq_false (by decide),show ((2:Nat)=1)=False from eq_false (by decide),show ((2+1:Nat)=0)=False from eq_false (by decide),show ((2+1:Nat)=1)=False from eq_false (by decide),show ((2+1:Nat)=2)=False from eq_false (by decide)]) (by
   rw[qgg];simp only[STD,show (((3:Nat):Int)<3)=False from eq_false (by decide),show ((3:Nat)=0)=False from eq_false (by decide),show ((3:Nat)=1)=False from eq_false (by decide),show ((3:Nat)=2)=False from eq_false (by decide)])
 have key':(qf q0i [.i 0,.i 0,.i ox,.i oy,.i oz,.i ax,.i ay,.i az,.i bx,.i by',.i bz]).run=some (0,[.i (qDH ox oy oz ax ay az bx by' bz)]):=key;rw[qu5];simp only[STD,qfx,key']
variable {l:R}
def mkI(F:Nat->Nat->Int)(c:Nat):Nat->List Int
 | 0=>[]
 | i+1=>mkI F c i++(List.range c).map (F i)
theorem qpv(F:Nat->Nat->Int)(c:Nat):∀i,(mkI F c i).length=i*c
 | 0=>by simp[mkI]
 | i+1=>by rw[mkI,qOh,qpv F c i];simp[qOf]
theorem qFf(F:Nat->Nat->Int)(c:Nat):∀(n i k:Nat),i<n->k<c->(mkI F c n)[i*c+k]?=some (F i k)
 | 0,i,k,h,_=>by omega
 | n+1,i,k,h,hk=>by
  rw[mkI];by_cases hi:i<n
  ·have:i*c+k<n*c:=by have:=qOq c (show i+1<=n by omega);rw[qOf] at this;omega
   rw[qOb (by rw[qpv];exact this)];exact qFf F c n i k hi hk
  ·have:i=n:=by omega
   subst this;rw[qOi (by rw[qpv];omega),qpv,show i*c+k-i*c=k by omega];simp[hk]
theorem qMJ (F:Nat->Nat->Int){n i k:Nat}(hi:i<n)(hk:k<n):cI (rI (mkI F n n)) ((i*n+k:Nat):Int) 0=F i k:=by rw[qCc,qO9,qNZ,qFf F n n i k hi hk];rfl
theorem qJN (l m:List Int):zD (rI l) (rI m)=rI (l++m):=by unfold rI zD;rw[qOk]
def dI(l:R)(i k:Nat):Int:=qDH (cI l 0 0) (cI l 0 1) (cI l 0 2) (cI l (i:Int) 0) (cI l (i:Int) 1) (cI l (i:Int) 2) (cI l (k:Int) 0) (cI l (k:Int) 1) (cI l (k:Int) 2)
def gI2(l:R)(i k:Nat):Int:=2*dI l (i+1) (k+1)
theorem yu.row (h:yu l){i:Nat}(hi:i<l.length):co (cI l (i:Int) 0)/\co (cI l (i:Int) 1)/\co (cI l (i:Int) 2):=h.2 i hi
theorem yu.row0 (h:yu l)(hi:0<l.length):co (cI l 0 0)/\co (cI l 0 1)/\co (cI l 0 2):=h.2 0 hi
theorem qAO (h:yu l){i k:Nat}(hi:i<l.length)(hk:k<l.length):-120000000000<=dI l i k/\dI l i k<=120000000000:=by obtain⟨a1,a2,a3⟩:=h.row0 (show 0<l.length by omega);obtain⟨b1,b2,b3⟩:=h.row hi;obtain⟨c1,c2,c3⟩:=h.row hk;exact qLh a1 a2 a3 b1 b2 b3 c1 c2 c3
theorem qNN (h:yu l){i k:Nat}(hi:i<l.length)(hk:k<l.length) :(q0L [.i (cI l 0 0),.i (cI l 0 1),.i (cI l 0 2),.i (cI l (i:Int) 0),.i (cI l (i:Int) 1),.i (cI l (i:Int) 2),.i (cI l (k:Int) 0),.i (cI l (k:Int) 1),.i (cI l (k:Int) 2)]).run=some (0,[.i (dI l i k)]):=by obtain⟨a1,a2,a3⟩:=h.row0 (show 0<l.length by omega);obtain⟨b1,b2,b3⟩:=h.row hi;obtain⟨c1,c2,c3⟩:=h.row hk;exact qNH a1 a2 a3 b1 b2 b3 c1 c2 c3
theorem qEc {n i:Nat}(h:yu l)(hl:l.length=n+1)(hi:i<n)(s1 s2 s3 s4:Bs)(rt:R) :(qf jc [.r l,.i n,.i i,.i n,.i i,.i n,.i 0,.s s1,.s s2,.s s3,.s s4,.r (rI (mkI (gI2 l) n i)),.r rt]).run = some (0,[.r l,.i n,.i i,.i n,.i i,.s s1,.s s2,.s s3,.s s4,.r (rI (mkI (gI2 l) n (i+1))),.r rt]):=by
 have hn:n<=64:=by have:=h.1;omega
 have hlen:(mkI (gI2 l) n i).length<=64*64:=by rw[qpv];exact qOB (by omega) hn
 have key:=qq (S:=jc) (fun k=>[.r l,.i n,.i i,.i n,.i i,.i n,.i (k:Int),.s s1,.s s2,.s s3,.s s4,.r (rI (mkI (gI2 l) n i++(List.range k).map (gI2 l i))),.r rt])
  (0,[.r l,.i n,.i i,.i n,.i i,.s s1,.s s2,.s s3,.s s4,.r (rI (mkI (gI2 l) n (i+1))),.r rt]) n (by omega) (fun k hk=>by
   rw[q9f];have hL:qg l=((n+1:Nat):Int):=by unfold qg;rw[hl]
   have w1:qm .i64 (i:Int) 1=((i+1:Nat):Int):=vX hi (by omega);have w2:qm .i64 (k:Int) 1=((k+1:Nat):Int):=vX hk (by omega);have bd:=qAO h (i:=i+1) (k:=k+1) (by omega) (by omega);have w3:wL .i64 2 (dI l (i+1) (k+1))=gI2 l i k:=q0G (by omega);have e1:rI (mkI (gI2 l) n i++(List.range (k+1)).map (gI2 l i))=zD (rI (mkI (gI2 l) n i++(List.range k).map (gI2 l i))) [[.i (gI2 l i k)]]:=by rw[show [[U.i (gI2 l i k)]]=rI [gI2 l i k] from rfl,qJN,qOO,qOk,<-qOu];rfl
   have e3:qg [[U.i (gI2 l i k)]]=1:=rfl;have e4:((mkI (gI2 l) n i++(List.range k).map (gI2 l i)).length:Int)+1<=17592186044416:=by rw[qOh,qO7,qOv];omega
   simp only[STD,hL,w1,w2,qNN h (i:=i+1) (k:=k+1) (by omega) (by omega),w3,e1,e3,qet,e4,show (k:Int)<n by omega,show (0:Int)<=0 by omega,show (0:Int)<((n+1:Nat):Int) by omega,
    show (0:Int)<=((i+1:Nat):Int) by omega,show ((i+1:Nat):Int)<((n+1:Nat):Int) by omega,show (0:Int)<=((k+1:Nat):Int) by omega,show ((k+1:Nat):Int)<((n+1:Nat):Int) by omega,and_self]) (by
   rw[q9f];simp only[STD,show ¬(n:Int)<n by omega,mkI])
 simpa using key
theorem qHn {n:Nat}(h:yu l)(hl:l.length=n+1)(s1 s2 s3 s4:Bs) :(qf jH [.r l,.i n,.i n,.i 0,.s s1,.s s2,.s s3,.s s4,.r [],.r []]).run = some (0,[.r l,.i n,.s s1,.s s2,.s s3,.s s4,.r (rI (mkI (gI2 l) n n)),.r (txR ((List.range n).map fun i=>tQ (dI l (i+1) (i+1):Rat)))]):=by
 have hn:n<=64:=by have:=h.1;omega
 have key:=qq (S:=jH) (fun i=>[.r l,.i n,.i n,.i (i:Int),.s s1,.s s2,.s s3,.s s4,.r (rI (mkI (gI2 l) n i)),.r (txR ((List.range i).map fun i=>tQ (dI l (i+1) (i+1):Rat)))])
  (0,[.r l,.i n,.s s1,.s s2,.s s3,.s s4,.r (rI (mkI (gI2 l) n n)),.r (txR ((List.range n).map fun i=>tQ (dI l (i+1) (i+1):Rat)))]) n (by omega) (fun i hi=>by
   rw[qb9];have hL:qg l=((n+1:Nat):Int):=by unfold qg;rw[hl]
   have w1:qm .i64 (i:Int) 1=((i+1:Nat):Int):=vX hi (by omega);have bd:=qAO h (i:=i+1) (k:=i+1) (by omega) (by omega);have e1:txR ((List.range (i+1)).map fun i=>tQ (dI l (i+1) (i+1):Rat))=zD (txR ((List.range i).map fun i=>tQ (dI l (i+1) (i+1):Rat))) [[.s (tQ (dI l (i+1) (i+1):Rat))]]:=by rw[qfd,qfr,qOO,qOk];rfl
   have e3:qg [[U.s (tQ (dI l (i+1) (i+1):Rat))]]=1:=rfl;simp only[STD,qEc h hl hi,hL,w1,qNN h (i:=i+1) (k:=i+1) (by omega) (by omega),q0z (m:=dI l (i+1) (i+1)) (by omega),e1,e3,qoe,qO7,qOv,show (i:Int)<n by omega,
    show (i:Int)+1<=8796093022208 by omega,show (0:Int)<=0 by omega,show (0:Int)<((n+1:Nat):Int) by omega,show (0:Int)<=((i+1:Nat):Int) by omega,show ((i+1:Nat):Int)<((n+1:Nat):Int) by omega,and_self]) (by
   rw[qb9];simp only[STD,show ¬(n:Int)<n by omega])
 exact key
def pV(l:R):Nat->V3:=fun i=>⟨(cI l (i:Int) 0:Rat),(cI l (i:Int) 1:Rat),(cI l (i:Int) 2:Rat)⟩
theorem qr3 (l:R)(i k:Nat):((gI2 l i k:Int):Rat)=qve (pV l) i k:=by unfold gI2 dI qDH qve qaN pV;simp only[qPJ,Rat.intCast_add,qPU];rfl
theorem qGq (l:R)(i:Nat):((dI l (i+1) (i+1):Int):Rat)=d2 (pV l 0) (pV l (i+1)):=by unfold dI qDH d2 pV;simp only[qPJ,Rat.intCast_add,qPU];show _=_;have:((cI l 0 0:Int):Rat)=(cI l ((0:Nat):Int) 0:Rat):=rfl;grind
end Go.Eng

namespace Go.Eng
variable {n:Nat}
theorem qBS (n:Nat)(G:Nat->Nat->Rat)(i:Nat)(x:Nat->Rat):su n (fun j=>aug n G i j*x j)=su n (fun j=>G i j*x j):=qk fun j hj=>by unfold aug;rw[if_pos hj]
theorem qFv {G N:Nat->Nat->Rat}(h:q4n n (pvQ n) n 0 (aug n G)=some N){i j:Nat}(hi:i<n)(_:j<n):su n (fun k=>G i k*N k (n+j))=if j=i then 1 else 0:=by
 obtain⟨h1,h2⟩:=qjI (qzh n) n 0 _ N (by omega) (fun i j _ hj=>by omega) h;have:=(h2 (n+j) _).1 ((qaA h1 _ _).2 fun i _=>rfl) i hi;rw[qBS] at this;rw[this];unfold aug;show (if n+j<n then G i (n+j) else if n+j=n+i then (1:Rat) else 0)=_;rw[if_neg (by omega)];by_cases e:j=i
 ·rw[if_pos e,if_pos (by omega)]
 ·rw[if_neg e,if_neg (by omega)]
theorem qL2 {G N:Nat->Nat->Rat}(h:q4n n (pvQ n) n 0 (aug n G)=some N)(t:Nat->Rat)(ht:∀i,i<n->su n (fun j=>G i j*t j)=0):∀j,j<n->t j=0:=by
 obtain⟨h1,h2⟩:=qjI (qzh n) n 0 _ N (by omega) (fun i j _ hj=>by omega) h;have sol:=(h2 n _).1 ((qaA h1 _ (fun i=>N i n)).2 fun i _=>rfl);have s2:qkE n n (aug n G) (fun i=>aug n G i n) (fun i=>N i n+t i):=fun i hi=>by have a:=sol i hi;have b:=ht i hi;rw[<-qBS] at b;rw[qk (g:=fun j=>aug n G i j*N j n+aug n G i j*t j) (fun j _=>by grind),q3U,b,a];grind
 intro j hj;have:=(qaA h1 _ _).1 ((h2 n _).2 s2) j hj;grind
def qMc(n:Nat)(N:Nat->Nat->Rat)(B:Nat->Rat):Nat->Rat:=fun i=>su n fun k=>N i (n+k)*B k
theorem qH6 {G N:Nat->Nat->Rat}(h:q4n n (pvQ n) n 0 (aug n G)=some N)(B:Nat->Rat){i:Nat}(hi:i<n):su n (fun k=>G i k*qMc n N B k)=B i:=by
 have e:su n (fun k=>G i k*qMc n N B k)=su n (fun j=>B j*su n (fun k=>G i k*N k (n+j))):=by rw[qk (g:=fun k=>su n (fun j=>B j*(G i k*N k (n+j)))) (fun k _=>by unfold qMc;rw[<-wz];exact qk fun j _=>by grind),qC8];exact qk fun j _=>by rw[wz]
 rw[e,q8b (k:=i) _ hi (fun j hj hne=>by rw[qFv h hi hj,if_neg hne];grind),qFv h hi hi,if_pos rfl];grind
theorem qM3 {l:R}{N:Nat->Nat->Rat}(h:q4n n (pvQ n) n 0 (aug n (qve (pV l)))=some N):Bl n (pV l) (qMc n N fun k=>d2 (pV l 0) (pV l (k+1))):=⟨qad.2 fun t ht=>qL2 h t ht,fun _ hi=>qH6 h _ hi⟩
theorem qJh {c:Nat->V3}(h:q4n n (pvQ n) n 0 (aug n (qve c))=none):¬Ind (n+1) c:=by obtain⟨x,⟨j,hj,hne⟩,hs⟩:=qp0 (qzh n) n 0 _ (by omega) (fun i j _ hj=>by omega) h;intro hi;exact hne (qad.1 hi x (fun i hi=>by rw[<-qBS];exact hs i hi) j hj)
theorem qM6 {q:Rat}{P M:Int}(hM:M≠0)(h:q*(M:Rat)=(P:Rat)):q.num.natAbs<=P.natAbs/\q.den<=M.natAbs:=by
 have hM':(M:Rat)≠0:=by intro e;exact hM (Rat.intCast_inj.1 (e.trans (by simp)))
 have e:q=Rat.divInt P M:=by rw[Rat.divInt_eq_div,<-h];exact(Rat.mul_div_cancel hM').symm
 rw[e];constructor
 ·rw[Rat.num_divInt];refine qO2 (qQ2 _ _) ?_;rw[qPc,qQf hM];omega
 ·rw[Rat.den_divInt,if_neg hM];exact qPS _ _
def qHi(a b c d e f g h i:Rat):Rat:=a*(e*i-f*h)-b*(d*i-f*g)+c*(d*h-e*g)
theorem qKK (a b c d e f g h i p q r s t u v w x:Rat):qHi a b c d e f g h i*qHi p q r s t u v w x = qHi (a*p+b*s+c*v) (a*q+b*t+c*w) (a*r+b*u+c*x) (d*p+e*s+f*v) (d*q+e*t+f*w) (d*r+e*u+f*x) (g*p+h*s+i*v) (g*q+h*t+i*w) (g*r+h*u+i*x):=by unfold qHi;grind
end Go.Eng

namespace Go.Eng
theorem q3c{x y:Int}{a b:Nat}(hx:x.natAbs<=a)(hy:y.natAbs<=b):(x*y).natAbs<=a*b:=by rw[qPc];exact qOB hx hy
theorem qLi{x y:Int}{a b:Nat}(hx:x.natAbs<=a)(hy:y.natAbs<=b):(x+y).natAbs<=a+b:=by omega
theorem qln{x y:Int}{a b:Nat}(hx:x.natAbs<=a)(hy:y.natAbs<=b):(x-y).natAbs<=a+b:=by omega
def qKR(a b c d e f g h i:Int):Int:=a*(e*i-f*h)-b*(d*i-f*g)+c*(d*h-e*g)
theorem qio(a b c d e f g h i:Int):((qKR a b c d e f g h i:Int):Rat)=qHi a b c d e f g h i:=by unfold qKR qHi;simp only[qPJ,Rat.intCast_add,qPU]
theorem qxb{A:Nat}{a b c d e f g h i:Int}(ha:a.natAbs<=A)(hb:b.natAbs<=A)(hc:c.natAbs<=A)(hd:d.natAbs<=A)(he:e.natAbs<=A)(hf:f.natAbs<=A)(hg:g.natAbs<=A)(hh:h.natAbs<=A)(hi:i.natAbs<=A) :(qKR a b c d e f g h i).natAbs<=A*(A*A+A*A)+A*(A*A+A*A)+A*(A*A+A*A):=qLi (qln (q3c ha (qln (q3c he hi) (q3c hf hh))) (q3c hb (qln (q3c hd hi) (q3c hf hg)))) (q3c hc (qln (q3c hd hh) (q3c he hg)))
def AA:Nat:=240000000000
theorem qLK{n:Nat}(hn:n<=3){g:Nat->Nat->Int}{b:Nat->Int}{N:Nat->Nat->Rat}{t:Nat->Rat}(hg:∀i k,i<n->k<n->(g i k).natAbs<=AA)(hb:∀i,i<n->(b i).natAbs<=AA)(hinv:∀i j,i<n->j<n->su n (fun k=>(g i k:Rat)*N k j)=if j=i then 1 else 0) (ht:∀i,i<n->su n (fun k=>(g i k:Rat)*t k)=(b i:Rat)) :∃D:Int,D≠0/\D.natAbs<=10^35/\∀i,i<n->∃T:Int,t i*(D:Rat)=(T:Rat)/\T.natAbs<=10^35:=by
 match n,hn with
 | 0,_=>exact⟨1,by decide,by decide,fun i hi=>by omega⟩
 | 1,_=>
  have g0:=hg 0 0 (by omega) (by omega);have b0:=hb 0 (by omega);have i0:=hinv 0 0 (by omega) (by omega);have t0:=ht 0 (by omega);simp only[su,if_true] at i0 t0;unfold AA at g0 b0;refine⟨g 0 0,fun e=>?_,by omega,fun i hi=>⟨b 0,?_,by omega⟩⟩
  ·rw[e] at i0;have:((0:Int):Rat)=0:=rfl;rw[this] at i0;grind
  ·have:i=0:=by omega
   subst this;grind
 | 2,_=>
  have g00:=hg 0 0 (by omega) (by omega);have g01:=hg 0 1 (by omega) (by omega);have g10:=hg 1 0 (by omega) (by omega);have g11:=hg 1 1 (by omega) (by omega);have b0:=hb 0 (by omega);have b1:=hb 1 (by omega);have i00:=hinv 0 0 (by omega) (by omega);have i01:=hinv 0 1 (by omega) (by omega);have i10:=hinv 1 0 (by omega) (by omega);have i11:=hinv 1 1 (by omega) (by omega);have t0:=ht 0 (by omega);have t1:=ht 1 (by omega);simp only[su,if_true,show (1=0)=False from eq_false (by decide),show (0=1)=False from eq_false (by decide),if_false] at i00 i01 i10 i11 t0 t1;have A2:AA*AA+AA*AA<=10^35:=by decide
  refine⟨g 0 0*g 1 1-g 0 1*g 1 0,fun e=>?_,qO2 (qln (q3c g00 g11) (q3c g01 g10)) A2,fun i hi=>?_⟩
  ·have e':((g 0 0:Int):Rat)*(g 1 1:Rat)-(g 0 1:Rat)*(g 1 0:Rat)=0:=by rw[<-qPJ,<-qPJ,<-qPU,e];rfl
   grind
  ·rcases (show i=0\/i=1 by omega) with rfl|rfl
   ·refine⟨b 0*g 1 1-g 0 1*b 1,?_,qO2 (qln (q3c b0 g11) (q3c g01 b1)) A2⟩;simp only[qPJ,qPU];rw[<-t0,<-t1];grind
   ·refine⟨g 0 0*b 1-b 0*g 1 0,?_,qO2 (qln (q3c g00 b1) (q3c b0 g10)) A2⟩;simp only[qPJ,qPU];rw[<-t0,<-t1];grind
 | 3,_=>
  have A3:AA*(AA*AA+AA*AA)+AA*(AA*AA+AA*AA)+AA*(AA*AA+AA*AA)<=10^35:=by decide
  have G:=fun i k (hi:i<3) (hk:k<3)=>hg i k hi hk;have i00:=hinv 0 0 (by omega) (by omega);have i01:=hinv 0 1 (by omega) (by omega);have i02:=hinv 0 2 (by omega) (by omega);have i10:=hinv 1 0 (by omega) (by omega);have i11:=hinv 1 1 (by omega) (by omega);have i12:=hinv 1 2 (by omega) (by omega);have i20:=hinv 2 0 (by omega) (by omega);have i21:=hinv 2 1 (by omega) (by omega);have i22:=hinv 2 2 (by omega) (by omega);have t0:=ht 0 (by omega);have t1:=ht 1 (by omega);have t2:=ht 2 (by omega);have B0:=hb 0 (by omega);have B1:=hb 1 (by omega);have B2:=hb 2 (by omega);simp only[su,if_true,Rat.zero_add,show (1=0)=False from eq_false (by decide),show (0=1)=False from eq_false (by decide),show (2=0)=False from eq_false (by decide),show (0=2)=False from eq_false (by decide),show (1=2)=False from eq_false (by decide),show (2=1)=False from eq_false (by decide),if_false] at i00 i01 i02 i10 i11 i12 i20 i21 i22 t0 t1 t2;have G00:=G 0 0 (by omega) (by omega);have G01:=G 0 1 (by omega) (by omega);have G02:=G 0 2 (by omega) (by omega);have G10:=G 1 0 (by omega) (by omega);have G11:=G 1 1 (by omega) (by omega);have G12:=G 1 2 (by omega) (by omega);have G20:=G 2 0 (by omega) (by omega);have G21:=G 2 1 (by omega) (by omega);have G22:=G 2 2 (by omega) (by omega);refine⟨qKR (g 0 0) (g 0 1) (g 0 2) (g 1 0) (g 1 1) (g 1 2) (g 2 0) (g 2 1) (g 2 2),fun e=>?_,qO2 (qxb G00 G01 G02 G10 G11 G12 G20 G21 G22) A3,fun i hi=>?_⟩
  ·have e':=qio (g 0 0) (g 0 1) (g 0 2) (g 1 0) (g 1 1) (g 1 2) (g 2 0) (g 2 1) (g 2 2);rw[e] at e';have m:=qKK (g 0 0) (g 0 1) (g 0 2) (g 1 0) (g 1 1) (g 1 2) (g 2 0) (g 2 1) (g 2 2) (N 0 0) (N 0 1) (N 0 2) (N 1 0) (N 1 1) (N 1 2) (N 2 0) (N 2 1) (N 2 2);rw[i00,i01,i02,i10,i11,i12,i20,i21,i22,<-e'] at m;have z:((0:Int):Rat)=0:=rfl;have o:qHi 1 0 0 0 1 0 0 0 1=1:=by unfold qHi;grind
   rw[z,o] at m;grind
  ·rw[qio];rcases (show i=0\/i=1\/i=2 by omega) with rfl|rfl|rfl
   ·refine⟨qKR (b 0) (g 0 1) (g 0 2) (b 1) (g 1 1) (g 1 2) (b 2) (g 2 1) (g 2 2),?_,qO2 (qxb B0 G01 G02 B1 G11 G12 B2 G21 G22) A3⟩;rw[qio,<-t0,<-t1,<-t2];unfold qHi;grind
   ·refine⟨qKR (g 0 0) (b 0) (g 0 2) (g 1 0) (b 1) (g 1 2) (g 2 0) (b 2) (g 2 2),?_,qO2 (qxb G00 B0 G02 G10 B1 G12 G20 B2 G22) A3⟩;rw[qio,<-t0,<-t1,<-t2];unfold qHi;grind
   ·refine⟨qKR (g 0 0) (g 0 1) (b 0) (g 1 0) (g 1 1) (b 1) (g 2 0) (g 2 1) (b 2),?_,qO2 (qxb G00 G01 B0 G10 G11 B1 G20 G21 B2) A3⟩;rw[qio,<-t0,<-t1,<-t2];unfold qHi;grind
theorem qrb{A B:Nat->Rat}{m NA DA NB DB:Nat}(hA:∀k,k<m->bnd NA DA (A k))(hB:∀k,k<m->bnd NB DB (B k)) :
  ∀k,k<=m->bnd (NA+NB+1+k*(DA+DB+2)) (1+k*(DA+DB)) (su k fun k=>A k*B k)
 | 0,_=>qcd.mono (by omega) (by omega)
 | k+1,hk=>by
  have h:=qrb hA hB k (by omega);have e1:=qOf k 1 (DA+DB+2);have e2:=qOf k 1 (DA+DB);have e3:=Nat.mul_add k (DA+DB) 2;have:=h.add ((hA k (by omega)).mul (hB k (by omega))) (K:=NA+NB+1+(k+1)*(DA+DB+2)) (by omega) (by omega);exact this.mono (qO0 _) (by omega)
theorem qGK{A B:Nat->Rat}{m NA DA NB DB:Nat}(hm:m<=1000)(hA:∀k,k<m->bnd NA DA (A k))(hB:∀k,k<m->bnd NB DB (B k))(hc:NA+NB+1+m*(DA+DB+2)<=1023){a b:R}(la:qg a=m)(lb:qg b=m)(ga:∀k,k<m->cS a (k:Int) 0=tQ (A k)) (gb:∀k,k<m->cS b (k:Int) 0=tQ (B k)):(qx [.r a,.r b]).run=some (0,[.s (tQ (su m fun k=>A k*B k)),.i 0]):=by
 have key:=qq (S:=qI) (fun k=>[.r b,.s (tQ (su k fun k=>A k*B k)),.r a,.i m,.i (k:Int)]) (0,[.s (tQ (su m fun k=>A k*B k))]) m (by omega) (fun k hk=>by
  rw[u4];have h:=qrb hA hB k (by omega);have e0:=qOq (DA+DB+2) (show k+1<=m by omega);have e1:=qOf k 1 (DA+DB+2);have e2:=qOf k 1 (DA+DB);have e3:=Nat.mul_add k (DA+DB) 2;simp only[STD,la,lb,ga k hk,gb k hk,qfW (hA k hk) (hB k hk) (by omega) (by omega),qlV h ((hA k hk).mul (hB k hk)) (by omega) (by omega) (by omega),vX hk (show m<9223372036854775808 by omega),
   show (k:Int)<m by omega,show (0:Int)<=k by omega,and_self]
  rfl) (by
  rw[u4];simp only[STD,show ¬(m:Int)<m by omega])
 have key':(qf qI [.r b,.s [48],.r a,.i (qg a),.i 0]).run=some (0,[.s (tQ (su m fun k=>A k*B k))]):=by rw[la];exact key
 rw[q6F];simp only[STD,key',zh key']
theorem qNS(x y z:Bs):qg (txR [x,y,z])=((3:Nat):Int)/\cS (txR [x,y,z]) ((0:Nat):Int) 0=x/\cS (txR [x,y,z]) ((1:Nat):Int) 0=y/\cS (txR [x,y,z]) ((2:Nat):Int) 0=z:=⟨rfl,rfl,rfl,rfl⟩
theorem qLN(a b:V3):su 3 (fun k=>(if k=0 then a.x-b.x else if k=1 then a.y-b.y else a.z-b.z)*(if k=0 then a.x-b.x else if k=1 then a.y-b.y else a.z-b.z))=d2 a b:=by simp only[su,if_true,show (1=0)=False from eq_false (by decide),show (2=0)=False from eq_false (by decide),show (2=1)=False from eq_false (by decide),if_false];unfold d2;grind
structure CB (c:V3):Prop where
 x:bnd 42 36 c.x
 y:bnd 42 36 c.y
 z:bnd 42 36 c.z
def spV(x y z:Int):V3:=⟨(x:Rat),(y:Rat),(z:Rat)⟩
theorem qfB{c:Rat}{x:Int}(h:bnd 42 36 c)(hx:co x):bnd 44 37 (c-(x:Rat)):=h.sub (qhl hx) (by omega) (by omega)
theorem qDv{c:V3}{x y z:Int}(hc:CB c)(hx:co x)(hy:co y)(hz:co z):bnd 317 223 (d2 c (spV x y z)):=by
 have key:∀k,k<3->bnd 44 37 (if k=0 then c.x-(spV x y z).x else if k=1 then c.y-(spV x y z).y else c.z-(spV x y z).z):=fun k _=>by
  split
  ·exact qfB hc.x hx
  ·split
   ·exact qfB hc.y hy
   ·exact qfB hc.z hz
 rw[<-qLN];exact qrb key key 3 (by omega)
theorem qLt(X Y Z:Bs):zD (txR (([X,Y,Z]:List Bs).take 0)) [[.s X]]=txR (([X,Y,Z]:List Bs).take (0+1))/\zD (txR (([X,Y,Z]:List Bs).take 1)) [[.s Y]]=txR (([X,Y,Z]:List Bs).take (1+1)) /\zD (txR (([X,Y,Z]:List Bs).take 2)) [[.s Z]]=txR (([X,Y,Z]:List Bs).take (2+1))/\qg (txR (([X,Y,Z]:List Bs).take 0))=0/\qg (txR (([X,Y,Z]:List Bs).take 1))=1/\qg (txR (([X,Y,Z]:List Bs).take 2))=2 /\qg [[U.s X]]=1/\qg [[U.s Y]]=1/\qg [[U.s Z]]=1:=⟨rfl,rfl,rfl,rfl,rfl,rfl,rfl,rfl,rfl⟩
theorem qBH{x y z:Int}{cx cy cz X Y Z:Bs}(hx:co x)(hy:co y)(hz:co z)(sx:(wn [.s cx,.s (tQ (x:Rat))]).run=some (0,[.s X,.i 0]))(sy:(wn [.s cy,.s (tQ (y:Rat))]).run=some (0,[.s Y,.i 0]))(sz:(wn [.s cz,.s (tQ (z:Rat))]).run=some (0,[.s Z,.i 0])):(qf uk [.i x,.i y,.i z,.i 0,.s cx,.s cy,.s cz,.r []]).run=some (0,[.r (txR [X,Y,Z])]):=by
 obtain⟨t0,t1,t2,r0,r1,r2,q0,q1,q2⟩:=qLt X Y Z;have key:=qq (S:=uk) (fun k=>[.i x,.i y,.i z,.i (k:Int),.s cx,.s cy,.s cz,.r (txR (([X,Y,Z]:List Bs).take k))]) (0,[.r (txR [X,Y,Z])]) 3 (by omega) (fun k hk=>by
   rw[qdV];rcases (show k=0\/k=1\/k=2 by omega) with rfl|rfl|rfl
   ·have e1:qm .i64 ((0:Nat):Int) 1=((0+1:Nat):Int):=by decide
    have e2:ql7 [x,y,z] ((0:Nat):Int)=x:=rfl;simp only[STD,e1,e2,q0z (qbF hx),sx,t0,r0,q0,show (((0:Nat):Int)<3)=True from eq_true (by decide),show ((0:Int)<=((0:Nat):Int))=True from eq_true (by decide),
     show (((0:Nat):Int)=2)=False from eq_false (by decide),show (((0:Nat):Int)=1)=False from eq_false (by decide),show (((0:Nat):Int)=0)=True from eq_true (by decide),and_self,show ((0:Int)+1<=8796093022208)=True from eq_true (by decide)]
   ·have e1:qm .i64 ((1:Nat):Int) 1=((1+1:Nat):Int):=by decide
    have e2:ql7 [x,y,z] ((1:Nat):Int)=y:=rfl;simp only[STD,e1,e2,q0z (qbF hy),sy,t1,r1,q1,show (((1:Nat):Int)<3)=True from eq_true (by decide),show ((0:Int)<=((1:Nat):Int))=True from eq_true (by decide),
     show (((1:Nat):Int)=2)=False from eq_false (by decide),show (((1:Nat):Int)=1)=True from eq_true (by decide),and_self,show ((1:Int)+1<=8796093022208)=True from eq_true (by decide)]
   ·have e1:qm .i64 ((2:Nat):Int) 1=((2+1:Nat):Int):=by decide
    have e2:ql7 [x,y,z] ((2:Nat):Int)=z:=rfl;simp only[STD,e1,e2,q0z (qbF hz),sz,t2,r2,q2,show (((2:Nat):Int)<3)=True from eq_true (by decide),show ((0:Int)<=((2:Nat):Int))=True from eq_true (by decide),
     show (((2:Nat):Int)=2)=True from eq_true (by decide),and_self,show ((2:Int)+1<=8796093022208)=True from eq_true (by decide)]) (by
   rw[qdV];simp only[STD,show (((3:Nat):Int)<3)=False from eq_false (by decide)];rfl)
 exact key
theorem qK6{c:V3}{x y z:Int}(hc:CB c)(hx:co x)(hy:co y)(hz:co z):(vu [.s (tQ c.x),.s (tQ c.y),.s (tQ c.z),.i x,.i y,.i z]).run=some (0,[.s (tQ (d2 c (spV x y z))),.i 0]):=by
 have key':=qBH hx hy hz (qbm hc.x (qhl hx) (by omega) (by omega) (by omega)) (qbm hc.y (qhl hy) (by omega) (by omega) (by omega)) (qbm hc.z (qhl hz) (by omega) (by omega) (by omega));have kb:∀k,k<3->bnd 44 37 (if k=0 then c.x-(spV x y z).x else if k=1 then c.y-(spV x y z).y else c.z-(spV x y z).z):=fun k _=>by
  split
  ·exact qfB hc.x hx
  ·split
   ·exact qfB hc.y hy
   ·exact qfB hc.z hz
 obtain⟨l0,l1,l2,l3⟩:=qNS (tQ (c.x-(x:Rat))) (tQ (c.y-(y:Rat))) (tQ (c.z-(z:Rat)));have gg:∀k:Nat,k<3->cS (txR [tQ (c.x-(x:Rat)),tQ (c.y-(y:Rat)),tQ (c.z-(z:Rat))]) (k:Int) 0=tQ (if k=0 then c.x-(spV x y z).x else if k=1 then c.y-(spV x y z).y else c.z-(spV x y z).z):=fun k hk=>by
  rcases (show k=0\/k=1\/k=2 by omega) with rfl|rfl|rfl
  ·exact l1
  ·exact l2
  ·exact l3
 have ht:=qGK (m:=3) (by omega) kb kb (by decide) l0 l0 gg gg;rw[qLN] at ht;rw[qsP];simp only[STD,qfx,key',zh key',ht]
variable {n:Nat}
theorem qsp{t:Nat->Rat}{n:Nat}(h:∀k,k<n->bnd 36 36 (t k)):∀k,k<=n->bnd (38*k+1) (36*k+1) (su k t)
 | 0,_=>qcd
 | k+1,hk=>by
  have:=(qsp h k (by omega)).add (h k (by omega)) (K:=38*(k+1)+1) (by omega) (by omega);exact this.mono (qO0 _) (by omega)
theorem qhD (F:Nat->Bs){k:Nat}(hk:k<n):cS (txR ((List.range n).map F)) (k:Int) 0=F k:=qHw (by rw[qO8,qOD hk];rfl)
theorem q4D (n:Nat)(F:Nat->Bs):qg (txR ((List.range n).map F))=(n:Int):=by rw[qoe,qO7,qOv]
theorem qNx (hn:n<=3){t:Nat->Rat}(h:∀k,k<n->bnd 36 36 (t k)):(qaT [.r (txR ((List.range n).map fun k=>tQ (t k)))]).run=some (0,[.s (tQ (su n t)),.i 0]):=by
 obtain⟨bl,hbl⟩:∃bl,bl=txR ((List.range n).map fun k=>tQ (t k)):=⟨_,rfl⟩;have lb:qg bl=(n:Int):=by rw[hbl,q4D]
 have gb:∀k,k<n->cS bl (k:Int) 0=tQ (t k):=fun k hk=>by rw[hbl];exact qhD (fun k=>tQ (t k)) hk
 have ck:(qA [.r bl]).run=some (0,[.i 0]):=by rw[hbl];exact qrm (by simp;omega) (fun s hs=>by obtain⟨k,hk,rfl⟩:=qOP.1 hs;exact qa1 ((h k (qOV.1 hk)).ok (by omega) (by omega)))
 have key:=qq (S:=q1t) (fun k=>[.s (tQ (su k t)),.r bl,.i n,.i (k:Int)]) (0,[.s (tQ (su n t))]) n (by omega) (fun k hk=>by
  rw[qij];have sb:=qsp h k (by omega);simp only[STD,lb,gb k hk,qlV sb (h k hk) (by omega) (by omega) (by omega),vX hk (show n<9223372036854775808 by omega),show (k:Int)<n by omega,show (0:Int)<=k by omega,and_self];rfl) (by
  rw[qij];simp only[STD,show ¬(n:Int)<n by omega])
 have key':(qf q1t [.s [48],.r bl,.i (n:Int),.i 0]).run=some (0,[.s (tQ (su n t))]):=key;rw[<-hbl,qzq];simp only[STD,ck,key',zh key',lb,show ¬(4096:Int)<n by omega]
theorem qyc {q:Rat}{P M:Int}{a b:Nat}(hM:M≠0)(h:q*(M:Rat)=(P:Rat))(hP:P.natAbs<10^(a+1))(hD:M.natAbs<10^(b+1)):bnd (a+1) (b+1) q:=by obtain⟨h1,h2⟩:=qM6 hM h;exact⟨q2r a _ (by omega),q2r b _ (by omega)⟩
theorem qIE (hn:n<=3){t:Nat->Rat}{D:Int}(hD:D.natAbs<=10^35)(h:∀i,i<n->∃T:Int,t i*(D:Rat)=(T:Rat)/\T.natAbs<=10^35):∀j,j<n+1->∃W:Int,wts t n j*(D:Rat)=(W:Rat)/\W.natAbs<=4*10^35:=by
 have sums:∀k,k<=n->∃W:Int,su k t*(D:Rat)=(W:Rat)/\W.natAbs<=k*10^35:=by
  intro k;induction k with
  | zero=>exact fun _=>⟨0,by simp only[su];rw[Rat.zero_mul];rfl,by simp⟩
  | succ k ih=>
   intro hk;obtain⟨W,e1,e2⟩:=ih (by omega);obtain⟨T,e3,e4⟩:=h k (by omega);refine⟨W+T,?_,?_⟩
   ·simp only[su];rw[Rat.add_mul,e1,e3,Rat.intCast_add]
   ·rw[qOf];omega
 intro j hj;unfold wts;by_cases e:j=0
 ·obtain⟨W,e1,e2⟩:=sums n (qO0 _);refine⟨D-W,?_,?_⟩
  ·rw[if_pos e,qPU,<-e1];grind
  ·have:=qOq (10^35) hn;omega
 ·obtain⟨T,e3,e4⟩:=h (j-1) (by omega);exact⟨T,by rw[if_neg e];exact e3,by omega⟩
theorem qIS (hn:n<=3){w:Nat->Rat}{x:Nat->Int}{D:Int}(hx:∀j,j<n+1->co (x j))(h:∀j,j<n+1->∃W:Int,w j*(D:Rat)=(W:Rat)/\W.natAbs<=4*10^35) :∃C:Int,su (n+1) (fun j=>w j*(x j:Rat))*(D:Rat)=(C:Rat)/\C.natAbs<=16*10^40:=by
 have sums:∀k,k<=n+1->∃C:Int,su k (fun j=>w j*(x j:Rat))*(D:Rat)=(C:Rat)/\C.natAbs<=k*(4*10^40):=by
  intro k;induction k with
  | zero=>exact fun _=>⟨0,by simp only[su];rw[Rat.zero_mul];rfl,by simp⟩
  | succ k ih=>
   intro hk;obtain⟨C,e1,e2⟩:=ih (by omega);obtain⟨W,e3,e4⟩:=h k (by omega);refine⟨C+W*x k,?_,?_⟩
   ·simp only[su];rw[Rat.add_mul,e1,Rat.intCast_add,qPJ,<-e3];grind
   ·have hc:=hx k (by omega);have:=q3c e4 (show (x k).natAbs<=100000 by unfold co at hc;omega);rw[qOf];omega
 obtain⟨C,e1,e2⟩:=sums (n+1) (qO0 _);refine⟨C,e1,?_⟩;exact qO2 e2 (qO2 (qOq (4*10^40) (show n+1<=4 by omega)) (by decide))
end Go.Eng

namespace Go.Eng
variable {l:R}
def axv(l:R)(a k:Nat):Int:=ql7 [cI l (k:Int) 0,cI l (k:Int) 1,cI l (k:Int) 2] (a:Int)
theorem yu.ax (h:yu l){k:Nat}(hk:k<l.length){a:Nat}(ha:a<3):co (axv l a k):=by
 obtain⟨h1,h2,h3⟩:=h.row hk;rcases (show a=0\/a=1\/a=2 by omega) with rfl|rfl|rfl
 ·exact h1
 ·exact h2
 ·exact h3
theorem qpm {m a:Nat}(h:yu l)(hl:l.length=m)(ha:a<3)(s1 s2 s3 s4 t1 t2 t3 t4:Bs)(wl:R) :(qf j7 [.r l,.i a,.i a,.r l,.i m,.i 0,.s s1,.s s2,.s s3,.s s4,.r wl,.s t1,.s t2,.s t3,.s t4,.r []]).run = some (0,[.r l,.i a,.i a,.s s1,.s s2,.s s3,.s s4,.r wl,.s t1,.s t2,.s t3,.s t4,.r (txR ((List.range m).map fun k=>tQ (axv l a k:Rat)))]):=by
 have hm:m<=64:=by have:=h.1;omega
 have hL:qg l=(m:Int):=by unfold qg;rw[hl]
 have key:=qq (S:=j7) (fun k=>[.r l,.i a,.i a,.r l,.i m,.i (k:Int),.s s1,.s s2,.s s3,.s s4,.r wl,.s t1,.s t2,.s t3,.s t4,.r (txR ((List.range k).map fun k=>tQ (axv l a k:Rat)))])
  (0,[.r l,.i a,.i a,.s s1,.s s2,.s s3,.s s4,.r wl,.s t1,.s t2,.s t3,.s t4,.r (txR ((List.range m).map fun k=>tQ (axv l a k:Rat)))]) m (by omega) (fun k hk=>by
   rw[q9j];have e0:ql7 [cI l (k:Int) 0,cI l (k:Int) 1,cI l (k:Int) 2] (a:Int)=axv l a k:=rfl;have e1:txR ((List.range (k+1)).map fun k=>tQ (axv l a k:Rat))=zD (txR ((List.range k).map fun k=>tQ (axv l a k:Rat))) [[.s (tQ (axv l a k:Rat))]]:=by rw[qfd,qfr,qOO,qOk];rfl
   have e3:qg [[U.s (tQ (axv l a k:Rat))]]=1:=rfl;simp only[STD,qfx,hL,e0,q0z (qbF (h.ax (show k<l.length by omega) ha)),vX hk (show m<9223372036854775808 by omega),e1,e3,qoe,qO7,qOv,show (k:Int)<m by omega,
    show (a:Int)<3 by omega,show (0:Int)<=a by omega,show (k:Int)+1<=8796093022208 by omega,show (0:Int)<=k by omega,and_self]) (by
   rw[q9j];simp only[STD,show ¬(m:Int)<m by omega])
 exact key
theorem qEr {m:Nat}(h:yu l)(hl:l.length=m)(hm:m<=4){w:Nat->Rat}(hw:∀k,k<m->bnd 36 36 (w k))(s1 s2 s3 s4:Bs) :(qf j9 [.r l,.i 0,.s s1,.s s2,.s s3,.s s4,.r (txR ((List.range m).map fun k=>tQ (w k))),.s [],.s [],.s [],.s []]).run = some (0,[.r l,.s s1,.s s2,.s s3,.s s4,.r (txR ((List.range m).map fun k=>tQ (w k))),.s (tQ (cen m w (pV l)).x),.s (tQ (cen m w (pV l)).y),.s (tQ (cen m w (pV l)).z),.s []]):=by
 obtain⟨wl,hwl⟩:∃wl,wl=txR ((List.range m).map fun k=>tQ (w k)):=⟨_,rfl⟩;have hL:qg l=(m:Int):=by unfold qg;rw[hl]
 have lw:qg wl=(m:Int):=by rw[hwl,q4D]
 have gw:∀k,k<m->cS wl (k:Int) 0=tQ (w k):=fun k hk=>by rw[hwl];exact qhD (fun k=>tQ (w k)) hk
 rw[<-hwl];have tot:∀a,a<3->(qx [.r wl,.r (txR ((List.range m).map fun k=>tQ (axv l a k:Rat)))]).run=some (0,[.s (tQ (su m fun k=>w k*(axv l a k:Rat))),.i 0]):=fun a ha=>
  qGK (by omega) hw (fun k hk=>qhl (h.ax (show k<l.length by omega) ha)) (by omega) lw (q4D _ _) gw (fun k hk=>qhD (fun k=>tQ (axv l a k:Rat)) hk)
 have q0:=tot 0 (by omega);have q1:=tot 1 (by omega);have q2:=tot 2 (by omega);have key:=qq (S:=j9) (fun a=>[.r l,.i (a:Int),.s s1,.s s2,.s s3,.s s4,.r wl,.s (if 0<a then tQ (su m fun k=>w k*(axv l 0 k:Rat)) else []),.s (if 1<a then tQ (su m fun k=>w k*(axv l 1 k:Rat)) else []),.s (if 2<a then tQ (su m fun k=>w k*(axv l 2 k:Rat)) else []),.s []])
  (0,[.r l,.s s1,.s s2,.s s3,.s s4,.r wl,.s (tQ (su m fun k=>w k*(axv l 0 k:Rat))),.s (tQ (su m fun k=>w k*(axv l 1 k:Rat))),.s (tQ (su m fun k=>w k*(axv l 2 k:Rat))),.s []]) 3 (by omega) (fun a ha=>by
   rw[q9i];rcases (show a=0\/a=1\/a=2 by omega) with rfl|rfl|rfl
   ·simp only[STD,hL,qpm h hl ha,q0];rfl
   ·simp only[STD,hL,qpm h hl ha,q1];rfl
   ·simp only[STD,hL,qpm h hl ha,q2];rfl) (by
   rw[q9i];simp only[STD];rfl)
 exact key
end Go.Eng

namespace Go.Eng
theorem qD3(n:Nat)(t:Nat->Rat):zD [[.s (tQ (1-su n t))]] (txR ((List.range n).map fun k=>tQ (t k)))=txR ((List.range (n+1)).map fun j=>tQ (wts t n j)):=by rw[qfd,qfr,List.range_succ_eq_map,qP5,List.map_map];rfl
theorem qCG{l:R}{n:Nat}(h:yu l)(hl:l.length=n+1)(hn:n<=3) :(∃t,Bl n (pV l) t/\(∀j,j<n+1->bnd 36 36 (wts t n j))/\CB (cen (n+1) (wts t n) (pV l)) /\(uh [.r l]).run=some (0,[.s (tQ (cen (n+1) (wts t n) (pV l)).x),.s (tQ (cen (n+1) (wts t n) (pV l)).y),.s (tQ (cen (n+1) (wts t n) (pV l)).z),.s (tQ (d2 (cen (n+1) (wts t n) (pV l)) (pV l 0))),.r (txR ((List.range (n+1)).map fun j=>tQ (wts t n j))),.b true,.i 0])) \/(¬Ind (n+1) (pV l)/\(uh [.r l]).run=some (0,[.s [],.s [],.s [],.s [],.r [],.b false,.i 0])):=by
 have hL:qg l=((n+1:Nat):Int):=by unfold qg;rw[hl]
 have w0:zY .i64 ((n+1:Nat):Int) 1=(n:Int):=by rw[zc (by omega)];omega
 have bd:∀i k,i<n->k<n->-120000000000<=dI l (i+1) (k+1)/\dI l (i+1) (k+1)<=120000000000:=fun i k hi hk=>qAO h (by omega) (by omega);have bg:∀i k,i<n->k<n->(gI2 l i k).natAbs<=240000000000:=fun i k hi hk=>by have:=bd i k hi hk;unfold gI2;omega
 have r0:=qHn h hl [] [] [] [];have r1:=qAY (n:=n) (L:=rI (mkI (gI2 l) n n)) (g:=gI2 l) (by omega) (by unfold rI;rw[qO7,qpv]) (fun i k hi hk=>qMJ _ hi hk) (fun i k hi hk=>by have:=bg i k hi hk;omega);rcases qFl hn (G:=fun i k=>(gI2 l i k:Rat)) (fun i k hi hk=>qp8 (qLy (by have:=bg i k hi hk;omega) (by omega)) (by omega)) with⟨N,g1,g2,g3⟩|⟨g1,g3⟩
 ·left;have eg:(fun i k=>(gI2 l i k:Rat))=qve (pV l):=by funext i k;exact qr3 l i k
  have eb:(fun k=>d2 (pV l 0) (pV l (k+1)))=fun k=>(dI l (k+1) (k+1):Rat):=by funext k;exact(qGq l k).symm
  obtain⟨t,et⟩:∃t,t=qMc n N fun k=>(dI l (k+1) (k+1):Rat):=⟨_,rfl⟩;have bl:Bl n (pV l) t:=by rw[eg] at g1;have:=qM3 g1;rw[eb] at this;rw[et];exact this
  obtain⟨D,d0,d1,d2'⟩:=qLK hn (g:=gI2 l) (b:=fun i=>dI l (i+1) (i+1)) (N:=fun k j=>N k (n+j)) (t:=t) (fun i k hi hk=>bg i k hi hk)
   (fun i hi=>by have:=bd i i hi hi;show _<=240000000000;omega) (fun i j hi hj=>qFv g1 hi hj) (fun i hi=>by rw[et];exact qH6 g1 _ hi)
  have tb:∀k,k<n->bnd 36 36 (t k):=fun k hk=>by obtain⟨T,e1,e2⟩:=d2' k hk;exact qyc (a:=35) (b:=35) d0 e1 (qPQ e2 (by decide)) (qPQ d1 (by decide))
  have wf:=qIE hn d1 d2';have wb:∀j,j<n+1->bnd 36 36 (wts t n j):=fun j hj=>by obtain⟨W,e1,e2⟩:=wf j hj;exact qyc (a:=35) (b:=35) d0 e1 (qPQ e2 (by decide)) (qPQ d1 (by decide))
  have cb:∀x:Nat->Int,(∀j,j<n+1->co (x j))->bnd 42 36 (su (n+1) fun j=>wts t n j*(x j:Rat)):=fun x hx=>by obtain⟨C,e1,e2⟩:=qIS hn hx wf;exact qyc (a:=41) (b:=35) d0 e1 (qPQ e2 (by decide)) (qPQ d1 (by decide))
  have hCB:CB (cen (n+1) (wts t n) (pV l)):=⟨cb _ fun j hj=>(h.row (show j<l.length by omega)).1,cb _ fun j hj=>(h.row (show j<l.length by omega)).2.1,cb _ fun j hj=>(h.row (show j<l.length by omega)).2.2⟩;refine⟨t,bl,wb,hCB,?_⟩;have r3:=qLf hn (V:=fun i k=>N i (n+k)) (B:=fun k=>(dI l (k+1) (k+1):Rat)) (fun i k hi hk=>g2 i (n+k) hi (by omega)) (fun k hk=>qp8 (qLy (by have:=bd k k hk hk;omega) (by omega)) (by omega));have e3:(fun i=>tQ (su n fun k=>N i (n+k)*(dI l (k+1) (k+1):Rat)))=fun i=>tQ (t i):=by rw[et];rfl
  rw[e3] at r3;have r4:=qNx hn tb;have sb:=qsp tb n (qO0 _);have r5:=qbm qwU sb (by omega) (by omega) (by omega);rw[show tQ 1=([49]:Bs) by decide] at r5;have r6:=qEr h hl (by omega) wb [] [] [] [];obtain⟨c,hc⟩:∃c,c=cen (n+1) (wts t n) (pV l):=⟨_,rfl⟩;rw[<-hc] at r6 hCB ⊢;obtain⟨z1,z2,z3⟩:=h.row0 (show 0<l.length by omega);have r7:(vu [.s (tQ c.x),.s (tQ c.y),.s (tQ c.z),.i (cI l 0 0),.i (cI l 0 1),.i (cI l 0 2)]).run=some (0,[.s (tQ (d2 c (pV l 0))),.i 0]):=qK6 hCB z1 z2 z3;have e5:qg [[U.s (tQ (1-su n t))]]=1:=rfl;have e6:=qD3 n t;rw[qev];simp only[STD,w0,r0,r1,g3,r3,r4,r5,e5,e6,q4D,r6,zh r6,r7,hL,show (1:Int)+n<=8796093022208 by omega,show (0:Int)<((n+1:Nat):Int) by omega];rw[if_neg (by decide),if_pos ⟨by decide,trivial⟩]
 ·right;have eg:(fun i k=>(gI2 l i k:Rat))=qve (pV l):=by funext i k;exact qr3 l i k
  refine⟨by rw[eg] at g1;exact qJh g1,?_⟩;rw[qev];simp only[STD,hL,w0,r0,r1,g3]
theorem qAm{a:Rat}(h:okQ a):(q4I [.s (tQ a)]).run=some (0,[.i (sgn a.num),.i 0]):=by
 have e1:(q5k [.s (tQ a)]).run=some (0,[.s (tI a.num),.s (tI (a.den:Int)),.i 0]):=by rw[quh];simp only[STD,qa1 h,qhL h]
 rw[qxa];simp only[STD,e1,qAx (q6Y h)]
theorem qhi{N D N' D':Nat}{a b:Rat}(ha:bnd N D a)(hb:bnd N' D' b)(h1:N+D'<=1023)(h2:N'+D<=1023) :(wG [.s (tQ a),.s (tQ b)]).run=some (0,[.i (sgn (a.num*(b.den:Int)-b.num*(a.den:Int))),.i 0]):=by
 have p1:=qwk a;have p2:=qwk b;have p3:=qvV a;have p4:=qvV b;have oa:okQ a:=⟨by have:=ha.1;have:=hb.2;omega,by have:=ha.2;have:=hb.1;omega⟩;have ob:okQ b:=⟨by have:=hb.1;have:=ha.2;omega,by have:=ha.1;have:=hb.2;omega⟩;have k1:okL (a.num*(b.den:Int)):=q8T ha.1 hb.2 (by omega);have k2:okL (b.num*(a.den:Int)):=q8T hb.1 ha.2 (by omega);have m1:=qgY (q6Y oa) (q4s ob) k1;have m2:=qgY (q6Y ob) (q4s oa) k2;have m1':(qp [.r [[.s (tI a.num)],[.s (tI (b.den:Int))]],.i 0]).run=some (0,[.s (tI (a.num*(b.den:Int))),.i 0]):=m1;have m2':(qp [.r [[.s (tI b.num)],[.s (tI (a.den:Int))]],.i 0]).run=some (0,[.s (tI (b.num*(a.den:Int))),.i 0]):=m2;have hch:=qrm (l:=[tQ a,tQ b]) (by simp) (fun s hs=>by
  simp only[qOj,List.not_mem_nil,or_false] at hs;rcases hs with rfl|rfl
  ·exact qa1 oa
  ·exact qa1 ob)
 have hch':(qA [.r [[.s (tQ a)],[.s (tQ b)]]]).run=some (0,[.i 0]):=hch;rw[qqJ];simp only[STD,hch',qhL oa,qhL ob,m1',m2',qiP k1 k2]
theorem qMD{m:Int}:sgn m<0↔m<0:=by unfold sgn;split<;>(try split)<;>omega
theorem qFR{m:Int}:0<sgn m↔0<m:=by unfold sgn;split<;>(try split)<;>omega
theorem qLX{a:Rat}:a.num<0↔a<0:=by rw[<-Rat.not_le,<-Rat.num_nonneg];omega
theorem qHI{a b:Rat}:0<a.num*(b.den:Int)-b.num*(a.den:Int)↔b<a:=by rw[Rat.lt_iff];omega
theorem qaO{α:Type}{f:Nat->Option α}:∀{k i:Nat} {r:α},q6H f i k=some r->∃j,i<=j/\j<i+k/\f j=some r
 | 0,i,r,h=>by simp[q6H] at h
 | k+1,i,r,h=>by
  simp only[q6H] at h;cases hf:f i with
  | some a=>
   rw[hf] at h;exact⟨i,by omega,by omega,by rw[hf];exact h⟩
  | none=>
   rw[hf] at h;obtain⟨j,h1,h2,h3⟩:=qaO h;exact⟨j,by omega,by omega,h3⟩
theorem qIk{n:Nat}(hn:n<=1000){w:Nat->Rat}(hw:∀k,k<n->okQ (w k)) :∃b,(qM [.r (txR ((List.range n).map fun k=>tQ (w k)))]).run=some (0,[.b b])/\(b=true↔∃k,k<n/\w k<0):=by
 obtain⟨x,hx⟩:∃x,x=txR ((List.range n).map fun k=>tQ (w k)):=⟨_,rfl⟩;have lx:qg x=(n:Int):=by rw[hx,q4D]
 have gx:∀k,k<n->cS x (k:Int) 0=tQ (w k):=fun k hk=>by rw[hx];exact qhD (fun k=>tQ (w k)) hk
 have one:∀k,k<n->(qO [.s (tQ (w k))]).run=some (0,[.b (decide (w k<0))]):=fun k hk=>by rw[qbp];simp only[STD,qAm (hw k hk)];rw[show ilt (sgn (w k).num) 0=decide (w k<0) from decide_eq_decide.2 (qMD.trans qLX)]
 have key:=q0g (S:=qv) (fun k=>[.r x,.i n,.i (k:Int)]) (fun k=>if w k<0 then some (1,[.i (k:Int)]) else none) (0,[]) n (by omega)
  (fun k hk hf=>by
   have h0:¬w k<0:=fun h=>by rw[if_pos h] at hf;cases hf
   rw[wj];simp only[STD,lx,gx k hk,one k hk,h0,vX hk (show n<9223372036854775808 by omega),show (k:Int)<n by omega,show (0:Int)<=k by omega,and_self])
  (fun k r hk hf=>by
   have h0:w k<0:=qOA fun h=>by rw[if_neg h] at hf;cases hf
   rw[if_pos h0] at hf;cases hf;rw[wj];simp only[STD,lx,gx k hk,one k hk,h0,show (k:Int)<n by omega,show (0:Int)<=k by omega,and_self])
  (by rw[wj];simp only[STD,show ¬(n:Int)<n by omega])
 rw[<-hx,q2X];cases hs:q6H (fun k=>if w k<0 then some (1,[PV.i (k:Int)]) else (none:Option (Nat×List PV))) 0 n with
 | none=>
  rw[hs] at key;have key':(qf qv [.r x,.i n,.i 0]).run=some (0,[]):=key;have r:(qG [.r x]).run=some (0,[.i (-1)]):=by rw[yN];simp only[STD,lx,key',zh key']
  refine⟨false,by simp only[STD,r];rfl,⟨fun h=>(by cases h),fun⟨k,hk,h⟩=>?_⟩⟩;have:=qeA hs k (by omega) (by omega);simp only[if_pos h] at this;cases this
 | some r=>
  rw[hs] at key;obtain⟨k,h1,h2,h3⟩:=qaO hs;have h0:w k<0:=qOA fun h=>by simp only[if_neg h] at h3;cases h3
  simp only[if_pos h0] at h3;cases h3;have key':(qf qv [.r x,.i n,.i 0]).run=some (1,[.i (k:Int)]):=key;have r:(qG [.r x]).run=some (0,[.i (k:Int)]):=by rw[yN];simp only[STD,lx,key',zh key',show ¬((1:Nat)=0) by decide]
  refine⟨true,?_,⟨fun _=>⟨k,by omega,h0⟩,fun _=>rfl⟩⟩;simp only[STD,r];rw[show ile 0 (k:Int)=true from by simp[ile]]
theorem qI7{n:Nat}(hn:n<=1000){w:Nat->Rat}(hw:∀k,k<n->okQ (w k))(s1 s2 s3 s4:Bs) :∃b,(vA [.s s1,.s s2,.s s3,.s s4,.r (txR ((List.range n).map fun k=>tQ (w k)))]).run=some (0,[.b b])/\(b=true↔∀k,k<n->0<=w k):=by
 obtain⟨b,h1,h2⟩:=qIk hn hw;refine⟨!b,by rw[qdJ];simp only[STD,h1],?_⟩;constructor
 ·intro h k hk;apply Rat.not_lt.1;intro hl;have:=h2.2 ⟨k,hk,hl⟩;rw[this] at h;cases h
 ·intro h;cases b with
  | false=>rfl
  | true=>
   obtain⟨k,hk,hl⟩:=h2.1 rfl;exact absurd (h k hk) (Rat.not_le.2 hl)
theorem qEg{l:R}(h:yu l){c:V3}(hc:CB c){s:Rat}(hs:bnd 317 223 s)(wl:R) :∃b,(wF [.s (tQ c.x),.s (tQ c.y),.s (tQ c.z),.s (tQ s),.r wl,.r l]).run=some (0,[.b b,.i 0])/\(b=true↔∀k,k<l.length->d2 c (pV l k)<=s):=by
 have hl:=h.1;have lx:qg l=(l.length:Int):=rfl;have aw:∀k,k<l.length->(vu [.s (tQ c.x),.s (tQ c.y),.s (tQ c.z),.i (cI l (k:Int) 0),.i (cI l (k:Int) 1),.i (cI l (k:Int) 2)]).run=some (0,[.s (tQ (d2 c (pV l k))),.i 0]):=fun k hk=>by obtain⟨h1,h2,h3⟩:=h.row hk;exact qK6 hc h1 h2 h3
 have cp:∀k,k<l.length->(wG [.s (tQ (d2 c (pV l k))),.s (tQ s)]).run=some (0,[.i (sgn ((d2 c (pV l k)).num*(s.den:Int)-s.num*((d2 c (pV l k)).den:Int))),.i 0]):=fun k hk=>by obtain⟨h1,h2,h3⟩:=h.row hk;exact qhi (qDv hc h1 h2 h3) hs (by omega) (by omega)
 have key:=q0g (S:=qR) (fun k=>[.r l,.i l.length,.i (k:Int),.s (tQ c.x),.s (tQ c.y),.s (tQ c.z),.s (tQ s),.r wl]) (fun k=>if s<d2 c (pV l k) then some (1,[.b false,.i 0]) else none) (0,[]) l.length (by omega)
  (fun k hk hf=>by
   have h0:¬s<d2 c (pV l k):=fun h=>by rw[if_pos h] at hf;cases hf
   rw[yo];simp only[STD,lx,aw k hk,cp k hk,qFR,qHI,h0,vX hk (show l.length<9223372036854775808 by omega),show (k:Int)<l.length by omega,show (0:Int)<=k by omega,and_self])
  (fun k r hk hf=>by
   have h0:s<d2 c (pV l k):=qOA fun h=>by rw[if_neg h] at hf;cases hf
   rw[if_pos h0] at hf;cases hf;rw[yo];simp only[STD,lx,aw k hk,cp k hk,qFR,qHI,h0,show (k:Int)<l.length by omega,show (0:Int)<=k by omega,and_self])
  (by rw[yo];simp only[STD,show ¬(l.length:Int)<l.length by omega])
 rw[qbA];cases hs:q6H (fun k=>if s<d2 c (pV l k) then some (1,[PV.b false,.i 0]) else (none:Option (Nat×List PV))) 0 l.length with
 | none=>
  rw[hs] at key;have key':(qf qR [.r l,.i l.length,.i 0,.s (tQ c.x),.s (tQ c.y),.s (tQ c.z),.s (tQ s),.r wl]).run=some (0,[]):=key;refine⟨true,by simp only[STD,lx,key',zh key'],⟨fun _ k hk=>?_,fun _=>rfl⟩⟩;apply Rat.not_lt.1;intro h0;have:=qeA hs k (by omega) (by omega);simp only[if_pos h0] at this;cases this
 | some r=>
  rw[hs] at key;obtain⟨k,h1,h2,h3⟩:=qaO hs;have h0:s<d2 c (pV l k):=qOA fun h=>by simp only[if_neg h] at h3;cases h3
  simp only[if_pos h0] at h3;cases h3;have key':(qf qR [.r l,.i l.length,.i 0,.s (tQ c.x),.s (tQ c.y),.s (tQ c.z),.s (tQ s),.r wl]).run=some (1,[.b false,.i 0]):=key;refine⟨false,by simp only[STD,lx,key',zh key'];rfl,⟨fun h=>(by cases h),fun h=>?_⟩⟩;exact absurd (h k (by omega)) (Rat.not_le.2 h0)
variable {L:List Nat}{l:R}
def rN(L:List Nat):R:=rI (L.map fun k:Nat=>(k:Int))
def chR(l:R)(L:List Nat):R:=L.map fun k:Nat=>[.i (cI l (k:Int) 0),.i (cI l (k:Int) 1),.i (cI l (k:Int) 2)]
theorem qao (L:List Nat):qg (rN L)=(L.length:Int):=by unfold rN;rw[qet,qO7]
theorem qFB {j k:Nat}(h:L[j]?=some k):cI (rN L) (j:Int) 0=(k:Int):=by unfold rN;rw[qCc,qO9,qNZ,qO8,h];rfl
theorem qhG (l:R)(L:List Nat):(chR l L).length=L.length:=by unfold chR;rw[qO7]
theorem qJ1 (hL:L.length<=1000)(h:∀k,k∈L->k<l.length):(q18 [.r l,.r (rN L)]).run=some (0,[.r (chR l L)]):=by
 have key:=qq (S:=jE) (fun j=>[.r l,.r (rN L),.i L.length,.i (j:Int),.r (chR l (L.take j))]) (0,[.r (chR l L)]) L.length (by omega) (fun j hj=>by
  obtain⟨k,hk⟩:∃k,L[j]?=some k:=⟨L[j],qO5 hj⟩;have hkl:=h k (qON hk);have e1:chR l (L.take (j+1))=zD (chR l (L.take j)) [[.i (cI l (k:Int) 0),.i (cI l (k:Int) 1),.i (cI l (k:Int) 2)]]:=by unfold chR zD;rw[List.take_add_one,hk,qOk];rfl
  have e2:qg (chR l (L.take j))=(j:Int):=by unfold qg;rw[qhG,qOX,qOY (by omega)]
  have e3:qg [[U.i (cI l (k:Int) 0),.i (cI l (k:Int) 1),.i (cI l (k:Int) 2)]]=1:=rfl;have e4:qg l=(l.length:Int):=rfl;rw[qb6];simp only[STD,qao,qFB hk,e1,e2,e3,e4,vX hj (show L.length<9223372036854775808 by omega),show (j:Int)<L.length by omega,show (0:Int)<=j by omega,show (0:Int)<=k by omega,show (k:Int)<l.length by omega,
   show (j:Int)+1<=5864062014805 by omega,and_self]) (by
  rw[qb6];simp only[STD,show ¬(L.length:Int)<L.length by omega,qP9])
 have key':(qf jE [.r l,.r (rN L),.i (L.length:Int),.i 0,.r []]).run=some (0,[.r (chR l L)]):=key;rw[qpu];simp only[STD,qao,key']
theorem qHN {j k:Nat}(h:L[j]?=some k):cI (chR l L) (j:Int) 0=cI l (k:Int) 0/\cI (chR l L) (j:Int) 1=cI l (k:Int) 1/\cI (chR l L) (j:Int) 2=cI l (k:Int) 2:=by
 have e:(chR l L).getD ((j:Int).toNat) []=[.i (cI l (k:Int) 0),.i (cI l (k:Int) 1),.i (cI l (k:Int) 2)]:=by unfold chR;rw[qO9,qNZ,qO8,h];rfl
 refine⟨?_,?_,?_⟩<;>(conv=>lhs;unfold cI zH)<;>rw[e]<;>rfl
theorem qsj (hs:yu l)(hL:L.length<=64)(h:∀k,k∈L->k<l.length):yu (chR l L):=by refine⟨by rw[qhG];exact hL,fun j hj=>?_⟩;rw[qhG] at hj;obtain⟨k,hk⟩:∃k,L[j]?=some k:=⟨L[j],qO5 hj⟩;obtain⟨e1,e2,e3⟩:=qHN (l:=l) hk;have:=hs.2 k (h k (qON hk));unfold qKN at this ⊢;rw[e1,e2,e3];exact this
def Lf(l:R)(L:List Nat)(j:Nat):Nat:=L.getD j l.length
theorem qzb (l:R)(L:List Nat):pV (chR l L)=fun j=>pV l (Lf l L j):=by
 funext j;unfold pV Lf;cases h:L[j]? with
 | some k=>
  obtain⟨e1,e2,e3⟩:=qHN (l:=l) h;rw[e1,e2,e3,qNZ,h];rfl
 | none=>
  have h1:=List.getElem?_eq_none_iff.1 h;have e:(chR l L).getD ((j:Int).toNat) []=[]:=by rw[qO9,qNZ,qOl (by rw[qhG];exact h1)];rfl
  have e':l.getD (((l.length:Nat):Int).toNat) []=[]:=by rw[qO9,qNZ,qOl (qO0 _)];rfl
  rw[qNZ,h];show V3.mk _ _ _=V3.mk _ _ _;unfold cI zH;simp only[Option.getD_none];rw[e,e']
def qB5(p:Nat->V3)(m n:Nat)(L:Nat->Nat)(t:Nat->Rat):Prop:=Bl n (fun j=>p (L j)) t/\(∀j,j<n+1->0<=wts t n j)/\∀i,i<m->d2 (cen (n+1) (wts t n) fun j=>p (L j)) (p i)<=d2 (cen (n+1) (wts t n) fun j=>p (L j)) (p (L 0))
theorem qn7 {n:Nat}{c:Nat->V3}{t t':Nat->Rat}(h:Bl n c t)(h':Bl n c t'):∀j,j<n+1->wts t n j=wts t' n j:=fun j hj=>by
 unfold wts;have:=qLb h h';rw[qk this];by_cases e:j=0
 ·rw[if_pos e,if_pos e]
 ·rw[if_neg e,if_neg e];exact this (j-1) (by omega)
theorem qhM {n:Nat}{w w':Nat->Rat}{c:Nat->V3}(h:∀j,j<n->w j=w' j):cen n w c=cen n w' c:=by
 have e:∀f:Nat->Rat,su n (fun j=>w j*f j)=su n fun j=>w' j*f j:=fun f=>qk fun j hj=>by rw[h j hj]
 unfold cen;rw[e,e,e]
end Go.Eng

namespace Go.Eng
theorem qww{l:R}(h:yu l){c:V3}(hc:CB c){k:Nat}(hk:k<l.length):bnd 317 223 (d2 c (pV l k)):=by obtain⟨h1,h2,h3⟩:=h.row hk;exact qDv hc h1 h2 h3
theorem qA7{p:Nat->V3}{m n:Nat}{L:Nat->Nat}{t t':Nat->Rat}(h:qB5 p m n L t)(h':Bl n (fun j=>p (L j)) t'):qB5 p m n L t':=by
 have e:=qn7 h.1 h';have ec:=qhM (c:=fun j=>p (L j)) e;refine⟨h',fun j hj=>?_,fun i hi=>?_⟩
 ·rw[<-e j hj];exact h.2.1 j hj
 ·rw[<-ec];exact h.2.2 i hi
theorem qsh{l:R}(hs:yu l){L:List Nat}{n:Nat}(hL:L.length=n+1)(hn:n<=3)(hlt:∀k,k∈L->k<l.length) :(∃t,qB5 (pV l) l.length n (Lf l L) t/\(∀j,j<n+1->bnd 36 36 (wts t n j))/\CB (cen (n+1) (wts t n) fun j=>pV l (Lf l L j)) /\(zK [.r l,.r (rN L)]).run=some (0,[.s (tQ (cen (n+1) (wts t n) fun j=>pV l (Lf l L j)).x),.s (tQ (cen (n+1) (wts t n) fun j=>pV l (Lf l L j)).y),.s (tQ (cen (n+1) (wts t n) fun j=>pV l (Lf l L j)).z),.s (tQ (d2 (cen (n+1) (wts t n) fun j=>pV l (Lf l L j)) (pV l (Lf l L 0)))),.r (txR ((List.range (n+1)).map fun j=>tQ (wts t n j))),.b true,.i 0])) \/((∀t,¬qB5 (pV l) l.length n (Lf l L) t)/\∃s1 s2 s3 s4 wl,(zK [.r l,.r (rN L)]).run=some (0,[.s s1,.s s2,.s s3,.s s4,.r wl,.b false,.i 0])):=by
 have ch:=qJ1 (l:=l) (L:=L) (by omega) hlt;have sp:=qsj hs (show L.length<=64 by omega) hlt;have key:=qCG sp (n:=n) (by rw[qhG];exact hL) hn;rw[qzb] at key;rcases key with⟨t,h1,h2,h3,h4⟩|⟨h1,h4⟩
 ·obtain⟨c,hc⟩:∃c,c=cen (n+1) (wts t n) fun j=>pV l (Lf l L j):=⟨_,rfl⟩;have l0:Lf l L 0<l.length:=by unfold Lf;rw[qNZ,qO5 (show 0<L.length by omega)];exact hlt _ (qOI _)
  rw[<-hc] at h3 h4;have fb:=qww hs h3 l0;obtain⟨b1,i1,i2⟩:=qI7 (show n+1<=1000 by omega) (w:=wts t n) (fun k hk=>(h2 k hk).ok (by omega) (by omega)) (tQ c.x) (tQ c.y) (tQ c.z) (tQ (d2 c (pV l (Lf l L 0))));obtain⟨b2,j1,j2⟩:=qEg hs h3 fb (txR ((List.range (n+1)).map fun j=>tQ (wts t n j)));have nope:(b1=false\/b2=false)->∀t',¬qB5 (pV l) l.length n (Lf l L) t':=fun hb t' ht'=>by
   have hh:=qA7 ht' h1;unfold qB5 at hh;rw[<-hc] at hh;rcases hb with e|e
   ·rw[i2.2 hh.2.1] at e;cases e
   ·rw[j2.2 hh.2.2] at e;cases e
  rw[q9e];cases b1 with
  | false=>
   right;refine⟨nope (Or.inl rfl),[],[],[],[],[],?_⟩;simp only[STD,ch,h4,i1]
  | true=>
   cases b2 with
   | false=>
    right;refine⟨nope (Or.inr rfl),tQ c.x,tQ c.y,tQ c.z,tQ (d2 c (pV l (Lf l L 0))),txR ((List.range (n+1)).map fun j=>tQ (wts t n j)),?_⟩;simp only[STD,ch,h4,i1,j1]
   | true=>
    left;refine⟨t,⟨h1,i2.1 rfl,?_⟩,h2,by rw[<-hc];exact h3,?_⟩
    ·rw[<-hc];exact j2.1 rfl
    ·rw[<-hc];simp only[STD,ch,h4,i1,j1]
 ·right;refine⟨fun t ht=>h1 ht.1.ind,[],[],[],[],[],?_⟩;rw[q9e];simp only[STD,ch,h4]
theorem qkO{l:R}{L:List Nat}(hL:L.length<=1000)(h:∀k,k∈L->k<l.length):(q1v [.r l,.r (rN L)]).run=some (0,[.r (chR l L)]):=by
 have key:=qq (S:=q1k) (fun j=>[.r l,.r (rN L),.i (j:Int),.r (chR l (L.take j))]) (0,[.r (chR l L)]) L.length (by omega) (fun j hj=>by
  obtain⟨k,hk⟩:∃k,L[j]?=some k:=⟨L[j],qO5 hj⟩;have hkl:=h k (qON hk);have e1:chR l (L.take (j+1))=zD (chR l (L.take j)) [[.i (cI l (k:Int) 0),.i (cI l (k:Int) 1),.i (cI l (k:Int) 2)]]:=by unfold chR zD;rw[List.take_add_one,hk,qOk];rfl
  have e2:qg (chR l (L.take j))=(j:Int):=by unfold qg;rw[qhG,qOX,qOY (by omega)]
  have e3:qg [[U.i (cI l (k:Int) 0),.i (cI l (k:Int) 1),.i (cI l (k:Int) 2)]]=1:=rfl;have e4:qg l=(l.length:Int):=rfl;rw[qeu];simp only[STD,qao,qFB hk,e1,e2,e3,e4,vX hj (show L.length<9223372036854775808 by omega),show (j:Int)<L.length by omega,show (0:Int)<=j by omega,show (0:Int)<=k by omega,show (k:Int)<l.length by omega,
   show (j:Int)+1<=5864062014805 by omega,and_self]) (by
  rw[qeu];simp only[STD,qao,show ¬(L.length:Int)<L.length by omega,qP9])
 have key':(qf q1k [.r l,.r (rN L),.i 0,.r []]).run=some (0,[.r (chR l L)]):=key;rw[qtI];simp only[STD,key']
theorem qq9{c:V3}{x y z:Int}(hc:CB c)(hx:co x)(hy:co y)(hz:co z):(uQ [.s (tQ c.x),.s (tQ c.y),.s (tQ c.z),.i x,.i y,.i z]).run=some (0,[.s (tQ (d2 c (spV x y z)))]):=by
 have bx:=qfB hc.x hx;have bY:=qfB hc.y hy;have bz:=qfB hc.z hz;have mx:=bx.mul bx;have my:=bY.mul bY;have mz:=bz.mul bz;have a1:=qcd.add mx (K:=200) (by omega) (by omega);have a2:=a1.add my (K:=400) (by omega) (by omega);obtain⟨A,hA⟩:∃A,A=(c.x-(x:Rat))*(c.x-(x:Rat)):=⟨_,rfl⟩;obtain⟨B,hB⟩:∃B,B=(c.y-(y:Rat))*(c.y-(y:Rat)):=⟨_,rfl⟩;obtain⟨C,hC⟩:∃C,C=(c.z-(z:Rat))*(c.z-(z:Rat)):=⟨_,rfl⟩;have hd:d2 c (spV x y z)=0+A+B+C:=by rw[hA,hB,hC];unfold d2 spV;grind
 have s1:=q6m (hc.x.sm (K:=100000) (by omega) (by omega)) ((qhl hx).sm (K:=100000) (by omega) (by omega));have s2:=q6m (hc.y.sm (K:=100000) (by omega) (by omega)) ((qhl hy).sm (K:=100000) (by omega) (by omega));have s3:=q6m (hc.z.sm (K:=100000) (by omega) (by omega)) ((qhl hz).sm (K:=100000) (by omega) (by omega));have t1:=q30 (bx.sm (K:=100000) (by omega) (by omega)) (bx.sm (K:=100000) (by omega) (by omega));have t2:=q30 (bY.sm (K:=100000) (by omega) (by omega)) (bY.sm (K:=100000) (by omega) (by omega));have t3:=q30 (bz.sm (K:=100000) (by omega) (by omega)) (bz.sm (K:=100000) (by omega) (by omega));have u1:=q8e (qcd.sm (K:=100000) (by omega) (by omega)) (mx.sm (K:=100000) (by omega) (by omega));have u2:=q8e (a1.sm (K:=100000) (by omega) (by omega)) (my.sm (K:=100000) (by omega) (by omega));have u3:=q8e (a2.sm (K:=100000) (by omega) (by omega)) (mz.sm (K:=100000) (by omega) (by omega));rw[<-hA] at t1 u1 u2 u3;rw[<-hB] at t2 u2 u3;rw[<-hC] at t3 u3;obtain⟨acc,hacc⟩:∃acc:Nat->Bs,acc=fun k=>if k=0 then tQ 0 else if k=1 then tQ (0+A) else if k=2 then tQ (0+A+B) else tQ (0+A+B+C):=⟨_,rfl⟩
 have c0:acc 0=tQ 0:=by rw[hacc];rfl
 have c1:acc 1=tQ (0+A):=by rw[hacc];rfl
 have c2:acc 2=tQ (0+A+B):=by rw[hacc];rfl
 have c3:acc 3=tQ (0+A+B+C):=by rw[hacc];rfl
 have key:=qq (S:=q3y) (fun k=>[.s (acc k),.i x,.i y,.i z,.i (k:Int),.s (tQ c.x),.s (tQ c.y),.s (tQ c.z)]) (0,[.s (acc 3)]) 3 (by omega) (fun k hk=>by
  rw[qi2];rcases (show k=0\/k=1\/k=2 by omega) with rfl|rfl|rfl
  ·have e1:qm .i64 ((0:Nat):Int) 1=((0+1:Nat):Int):=by decide
   have e2:ql7 [x,y,z] ((0:Nat):Int)=x:=rfl;simp only[STD,e1,e2,q11 (qbF hx),s1,t1,c0,u1,c1,show (((0:Nat):Int)<3)=True from eq_true (by decide),show ((0:Int)<=((0:Nat):Int))=True from eq_true (by decide),
    show (((0:Nat):Int)=2)=False from eq_false (by decide),show (((0:Nat):Int)=1)=False from eq_false (by decide),show (((0:Nat):Int)=0)=True from eq_true (by decide),and_self]
  ·have e1:qm .i64 ((1:Nat):Int) 1=((1+1:Nat):Int):=by decide
   have e2:ql7 [x,y,z] ((1:Nat):Int)=y:=rfl;simp only[STD,e1,e2,q11 (qbF hy),s2,t2,c1,u2,c2,show (((1:Nat):Int)<3)=True from eq_true (by decide),show ((0:Int)<=((1:Nat):Int))=True from eq_true (by decide),
    show (((1:Nat):Int)=2)=False from eq_false (by decide),show (((1:Nat):Int)=1)=True from eq_true (by decide),and_self]
  ·have e1:qm .i64 ((2:Nat):Int) 1=((2+1:Nat):Int):=by decide
   have e2:ql7 [x,y,z] ((2:Nat):Int)=z:=rfl;simp only[STD,e1,e2,q11 (qbF hz),s3,t3,c2,u3,c3,show (((2:Nat):Int)<3)=True from eq_true (by decide),show ((0:Int)<=((2:Nat):Int))=True from eq_true (by decide),
    show (((2:Nat):Int)=2)=True from eq_true (by decide),and_self]) (by
  rw[qi2];simp only[STD,show (((3:Nat):Int)<3)=False from eq_false (by decide)])
 have key':(qf q3y [.s [48],.i x,.i y,.i z,.i 0,.s (tQ c.x),.s (tQ c.y),.s (tQ c.z)]).run=some (0,[.s (tQ (d2 c (spV x y z)))]):=by rw[hd,<-c3];have:=key;simp only[c0] at this;exact this
 rw[qwT];simp only[STD,key']
theorem qGo{q:Rat}:(0<sgq q)=(0<q):=by
 apply propext;rcases qsu q with⟨h,e⟩|⟨h,e⟩|⟨h,e⟩<;>rw[e]
 ·exact⟨fun h'=>by omega,fun h'=>absurd h' (Rat.not_lt.2 (Rat.le_of_lt h))⟩
 ·exact⟨fun h'=>by omega,fun h'=>by rw[h] at h';exact absurd h' Rat.lt_irrefl⟩
 ·exact⟨fun _=>h,fun _=>by omega⟩
theorem qqp{l:R}(h:yu l){c:V3}(hc:CB c){s:Rat}(hs:bnd 317 223 s) :∃b,(q3Y [.r l,.s (tQ c.x),.s (tQ c.y),.s (tQ c.z),.s (tQ s)]).run=some (0,[.b b])/\(b=true↔∀k,k<l.length->d2 c (pV l k)<=s):=by
 have hl:=h.1;have lx:qg l=(l.length:Int):=rfl;have aw:∀k,k<l.length->(uQ [.s (tQ c.x),.s (tQ c.y),.s (tQ c.z),.i (cI l (k:Int) 0),.i (cI l (k:Int) 1),.i (cI l (k:Int) 2)]).run=some (0,[.s (tQ (d2 c (pV l k)))]):=fun k hk=>by obtain⟨h1,h2,h3⟩:=h.row hk;exact qq9 hc h1 h2 h3
 have cp:∀k,k<l.length->(uq [.s (tQ (d2 c (pV l k))),.s (tQ s)]).run=some (0,[.i (sgq (d2 c (pV l k)-s))]):=fun k hk=>
  qnX ((qww h hc hk).sm (by omega) (by omega)) (hs.sm (by omega) (by omega))
 have gt:∀k,(0<d2 c (pV l k)-s)=(s<d2 c (pV l k)):=fun k=>propext ⟨fun h=>by grind,fun h=>by grind⟩;have key:=q0g (S:=jC) (fun k=>[.r l,.s (tQ s),.i (k:Int),.s (tQ c.x),.s (tQ c.y),.s (tQ c.z)]) (fun k=>if s<d2 c (pV l k) then some (1,[.b false]) else none) (0,[]) l.length (by omega)
  (fun k hk hf=>by
   have h0:¬s<d2 c (pV l k):=fun h=>by rw[if_pos h] at hf;cases hf
   rw[q4o];simp only[STD,lx,aw k hk,cp k hk,qGo,gt,h0,vX hk (show l.length<9223372036854775808 by omega),show (k:Int)<l.length by omega,show (0:Int)<=k by omega,and_self])
  (fun k r hk hf=>by
   have h0:s<d2 c (pV l k):=qOA fun h=>by rw[if_neg h] at hf;cases hf
   rw[if_pos h0] at hf;cases hf;rw[q4o];simp only[STD,lx,aw k hk,cp k hk,qGo,gt,h0,show (k:Int)<l.length by omega,show (0:Int)<=k by omega,and_self])
  (by rw[q4o];simp only[STD,lx,show ¬(l.length:Int)<l.length by omega])
 rw[qox];cases hs:q6H (fun k=>if s<d2 c (pV l k) then some (1,[PV.b false]) else (none:Option (Nat×List PV))) 0 l.length with
 | none=>
  rw[hs] at key;have key':(qf jC [.r l,.s (tQ s),.i 0,.s (tQ c.x),.s (tQ c.y),.s (tQ c.z)]).run=some (0,[]):=key;refine⟨true,by simp only[STD,key',zh key'],⟨fun _ k hk=>?_,fun _=>rfl⟩⟩;apply Rat.not_lt.1;intro h0;have:=qeA hs k (by omega) (by omega);simp only[if_pos h0] at this;cases this
 | some r=>
  rw[hs] at key;obtain⟨k,h1,h2,h3⟩:=qaO hs;have h0:s<d2 c (pV l k):=qOA fun h=>by simp only[if_neg h] at h3;cases h3
  simp only[if_pos h0] at h3;cases h3;have key':(qf jC [.r l,.s (tQ s),.i 0,.s (tQ c.x),.s (tQ c.y),.s (tQ c.z)]).run=some (1,[.b false]):=key;refine⟨false,by simp only[STD,key',zh key'];rfl,⟨fun h=>(by cases h),fun h=>?_⟩⟩;exact absurd (h k (by omega)) (Rat.not_le.2 h0)
theorem qwx{n:Nat}(hn:n<=3){t:Nat->Rat}(h:∀k,k<n->bnd 36 36 (t k)):(q5Q [.r (txR ((List.range n).map fun k=>tQ (t k)))]).run=some (0,[.s (tQ (su n t))]):=by
 obtain⟨bl,hbl⟩:∃bl,bl=txR ((List.range n).map fun k=>tQ (t k)):=⟨_,rfl⟩;have lb:qg bl=(n:Int):=by rw[hbl,q4D]
 have gb:∀k,k<n->cS bl (k:Int) 0=tQ (t k):=fun k hk=>by rw[hbl];exact qhD (fun k=>tQ (t k)) hk
 have key:=qq (S:=q2k) (fun k=>[.r bl,.s (tQ (su k t)),.i (k:Int)]) (0,[.s (tQ (su n t))]) n (by omega) (fun k hk=>by
  rw[qgp];have sb:=qsp h k (by omega);simp only[STD,lb,gb k hk,q8e (sb.sm (K:=100000) (by omega) (by omega)) ((h k hk).sm (K:=100000) (by omega) (by omega)),vX hk (show n<9223372036854775808 by omega),show (k:Int)<n by omega,show (0:Int)<=k by omega,and_self];rfl) (by
  rw[qgp];simp only[STD,lb,show ¬(n:Int)<n by omega])
 have key':(qf q2k [.r bl,.s [48],.i 0]).run=some (0,[.s (tQ (su n t))]):=key;rw[<-hbl,qv3];simp only[STD,key']
theorem qJj{l:R}(i:Nat)(w:Nat->Rat)(a:Nat):su (i+1) (fun k=>w k*(axv l a k:Rat))=su i (fun k=>w k*(axv l a k:Rat))+w i*(axv l a i:Rat):=rfl
theorem qsd{l wl:R}{m i:Nat}(h:yu l)(hl:l.length=m)(hm:m<=4)(hi:i<m){w:Nat->Rat}(hw:∀k,k<m->bnd 36 36 (w k))(lw:qg wl=(m:Int))(gw:∀k,k<m->cS wl (k:Int) 0=tQ (w k))(p1 p2 p3:Bs) :(qf q17 [.r l,.r wl,.i i,.i (cI l (i:Int) 0),.i (cI l (i:Int) 1),.i (cI l (i:Int) 2),.i 0,.s p1,.s p2,.s p3,.s (tQ (su i fun k=>w k*(axv l 0 k:Rat))),.s (tQ (su i fun k=>w k*(axv l 1 k:Rat))),.s (tQ (su i fun k=>w k*(axv l 2 k:Rat)))]).run = some (0,[.r l,.r wl,.i i,.s p1,.s p2,.s p3,.s (tQ (su (i+1) fun k=>w k*(axv l 0 k:Rat))),.s (tQ (su (i+1) fun k=>w k*(axv l 1 k:Rat))),.s (tQ (su (i+1) fun k=>w k*(axv l 2 k:Rat)))]):=by
 have cb:∀a,a<3->∀k,k<m->co (axv l a k):=fun a ha k hk=>h.ax (by omega) ha;have sb:∀a,a<3->bnd 400 300 (su i fun k=>w k*(axv l a k:Rat)):=fun a ha=>
  (qrb (m:=m) hw (fun k hk=>qhl (cb a ha k hk)) i (by omega)).mono (by omega) (by omega)
 have tm:∀a,a<3->(zn [.s (tQ (w i)),.s (tQ (axv l a i:Rat))]).run=some (0,[.s (tQ (w i*(axv l a i:Rat)))]):=fun a ha=>
  q30 ((hw i hi).sm (by omega) (by omega)) ((qhl (cb a ha i hi)).sm (by omega) (by omega))
 have pl:∀a,a<3->(wu [.s (tQ (su i fun k=>w k*(axv l a k:Rat))),.s (tQ (w i*(axv l a i:Rat)))]).run=some (0,[.s (tQ (su (i+1) fun k=>w k*(axv l a k:Rat)))]):=fun a ha=>by rw[qJj];exact q8e ((sb a ha).sm (by omega) (by omega)) (((hw i hi).mul (qhl (cb a ha i hi))).sm (by omega) (by omega))
 have wh:∀a,a<3->(zC [.i (axv l a i)]).run=some (0,[.s (tQ (axv l a i:Rat))]):=fun a ha=>q11 (qbF (cb a ha i hi));have key:=qq (S:=q17) (fun a=>[.r l,.r wl,.i i,.i (cI l (i:Int) 0),.i (cI l (i:Int) 1),.i (cI l (i:Int) 2),.i (a:Int),.s p1,.s p2,.s p3,.s (if 0<a then tQ (su (i+1) fun k=>w k*(axv l 0 k:Rat)) else tQ (su i fun k=>w k*(axv l 0 k:Rat))),
   .s (if 1<a then tQ (su (i+1) fun k=>w k*(axv l 1 k:Rat)) else tQ (su i fun k=>w k*(axv l 1 k:Rat))),.s (if 2<a then tQ (su (i+1) fun k=>w k*(axv l 2 k:Rat)) else tQ (su i fun k=>w k*(axv l 2 k:Rat)))])
  (0,[.r l,.r wl,.i i,.s p1,.s p2,.s p3,.s (tQ (su (i+1) fun k=>w k*(axv l 0 k:Rat))),.s (tQ (su (i+1) fun k=>w k*(axv l 1 k:Rat))),.s (tQ (su (i+1) fun k=>w k*(axv l 2 k:Rat)))]) 3 (by omega) (fun a ha=>by
   rw[qdQ];have hii:(i:Int)<m:=by omega
   have hi0:(0:Int)<=i:=by omega
   rcases (show a=0\/a=1\/a=2 by omega) with rfl|rfl|rfl
   ·have e2:ql7 [cI l (i:Int) 0,cI l (i:Int) 1,cI l (i:Int) 2] ((0:Nat):Int)=axv l 0 i:=rfl;simp only[STD,e2,wh 0 ha,tm 0 ha,pl 0 ha,gw i hi,lw,hii,hi0,Nat.lt_irrefl,qPO,and_self,show (((0:Nat):Int)<3)=True from eq_true (by decide),show ((0:Int)<=((0:Nat):Int))=True from eq_true (by decide),
     show (((0:Nat):Int)=2)=False from eq_false (by decide),show (((0:Nat):Int)=1)=False from eq_false (by decide),show (((0:Nat):Int)=0)=True from eq_true (by decide)]
    rfl
   ·have e2:ql7 [cI l (i:Int) 0,cI l (i:Int) 1,cI l (i:Int) 2] ((1:Nat):Int)=axv l 1 i:=rfl;simp only[STD,e2,wh 1 ha,tm 1 ha,pl 1 ha,gw i hi,lw,hii,hi0,Nat.lt_irrefl,and_self,show (((1:Nat):Int)<3)=True from eq_true (by decide),show ((0:Int)<=((1:Nat):Int))=True from eq_true (by decide),
     show (((1:Nat):Int)=2)=False from eq_false (by decide),show (((1:Nat):Int)=1)=True from eq_true (by decide)]
    rfl
   ·have e2:ql7 [cI l (i:Int) 0,cI l (i:Int) 1,cI l (i:Int) 2] ((2:Nat):Int)=axv l 2 i:=rfl;simp only[STD,e2,wh 2 ha,tm 2 ha,pl 2 ha,gw i hi,lw,hii,hi0,Nat.lt_irrefl,and_self,show (((2:Nat):Int)<3)=True from eq_true (by decide),show ((0:Int)<=((2:Nat):Int))=True from eq_true (by decide),
     show (((2:Nat):Int)=2)=True from eq_true (by decide)]
    rfl) (by
   rw[qdQ];simp only[STD,show (((3:Nat):Int)<3)=False from eq_false (by decide)];rfl)
 exact key
theorem qvq{l:R}{m:Nat}(h:yu l)(hl:l.length=m)(hm:m<=4){w:Nat->Rat}(hw:∀k,k<m->bnd 36 36 (w k)) :(q7O [.r l,.r (txR ((List.range m).map fun k=>tQ (w k)))]).run=some (0,[.s (tQ (cen m w (pV l)).x),.s (tQ (cen m w (pV l)).y),.s (tQ (cen m w (pV l)).z)]):=by
 obtain⟨wl,hwl⟩:∃wl,wl=txR ((List.range m).map fun k=>tQ (w k)):=⟨_,rfl⟩;have hL:qg l=(m:Int):=by unfold qg;rw[hl]
 have lw:qg wl=(m:Int):=by rw[hwl,q4D]
 have gw:∀k,k<m->cS wl (k:Int) 0=tQ (w k):=fun k hk=>by rw[hwl];exact qhD (fun k=>tQ (w k)) hk
 rw[<-hwl];have key:=qq (S:=q1b) (fun i=>[.r l,.r wl,.i (i:Int),.s [],.s [],.s [],.s (tQ (su i fun k=>w k*(axv l 0 k:Rat))),.s (tQ (su i fun k=>w k*(axv l 1 k:Rat))),.s (tQ (su i fun k=>w k*(axv l 2 k:Rat)))])
  (0,[.s [],.s [],.s [],.s (tQ (su m fun k=>w k*(axv l 0 k:Rat))),.s (tQ (su m fun k=>w k*(axv l 1 k:Rat))),.s (tQ (su m fun k=>w k*(axv l 2 k:Rat)))]) m (by omega) (fun i hi=>by
   rw[qe9];simp only[STD,hL,qsd h hl hm hi hw lw gw,vX hi (show m<9223372036854775808 by omega),show (i:Int)<m by omega,show (0:Int)<=i by omega,and_self]) (by
   rw[qe9];simp only[STD,hL,show ¬(m:Int)<m by omega])
 have key':(qf q1b [.r l,.r wl,.i 0,.s [],.s [],.s [],.s [48],.s [48],.s [48]]).run=_:=key;rw[qrK];simp only[STD,key'];rfl
theorem qFC{ax ay az bx b2 bz:Int}(h1:co ax)(h2:co ay)(h3:co az)(h4:co bx)(h5:co b2)(h6:co bz):(q8i [.i ax,.i ay,.i az,.i bx,.i b2,.i bz]).run=some (0,[.i (ax-bx),.i (ay-b2),.i (az-bz)]):=by rw[qyv];simp only[STD,qeX h1 h4,qeX h2 h5,qeX h3 h6]
theorem qDd{ox oy oz ax ay az bx b2 bz:Int}(h1:co ox)(h2:co oy)(h3:co oz)(h4:co ax)(h5:co ay)(h6:co az)(h7:co bx)(h8:co b2)(h9:co bz) :(vO [.i (ax-ox),.i (ay-oy),.i (az-oz),.i (bx-ox),.i (b2-oy),.i (bz-oz)]).run=some (0,[.i (qDH ox oy oz ax ay az bx b2 bz)]):=by have p1:=qcp h4 h1 h7 h1;have p2:=qcp h5 h2 h8 h2;have p3:=qcp h6 h3 h9 h3;have e:qDH ox oy oz ax ay az bx b2 bz=(ax-ox)*(bx-ox)+(ay-oy)*(b2-oy)+(az-oz)*(bz-oz):=rfl;rw[qlN];simp only[STD,qo5 h4 h1 h7 h1,qo5 h5 h2 h8 h2,qo5 h6 h3 h9 h3];have w1:qm .i64 ((ax-ox)*(bx-ox)) ((ay-oy)*(b2-oy))=(ax-ox)*(bx-ox)+(ay-oy)*(b2-oy):=qK (by omega);have w2:qm .i64 ((ax-ox)*(bx-ox)+(ay-oy)*(b2-oy)) ((az-oz)*(bz-oz))=(ax-ox)*(bx-ox)+(ay-oy)*(b2-oy)+(az-oz)*(bz-oz):=qK (by omega);rw[w1,w2,e]
theorem qND{l:R}{n i:Nat}(h:yu l)(hl:l.length=n+1)(hi:i<n)(acc:R) :(qf uC [.r l,.i ((i+1:Nat):Int),.i 1,.r acc,.i (cI l ((i+1:Nat):Int) 0-cI l 0 0),.i (cI l ((i+1:Nat):Int) 1-cI l 0 1),.i (cI l ((i+1:Nat):Int) 2-cI l 0 2),.r []]).run = some (0,[.r l,.i ((i+1:Nat):Int),.r acc,.i (cI l ((i+1:Nat):Int) 0-cI l 0 0),.i (cI l ((i+1:Nat):Int) 1-cI l 0 1),.i (cI l ((i+1:Nat):Int) 2-cI l 0 2),.r (txR ((List.range n).map fun k=>tQ (gI2 l i k:Rat)))]):=by
 have hn:n<=64:=by have:=h.1;omega
 have hL:qg l=((n+1:Nat):Int):=by unfold qg;rw[hl]
 obtain⟨z1,z2,z3⟩:=h.row0 (show 0<l.length by omega);obtain⟨a1,a2,a3⟩:=h.row (show i+1<l.length by omega);have key:=qq (S:=uC) (fun k=>[.r l,.i ((i+1:Nat):Int),.i ((k+1:Nat):Int),.r acc,.i (cI l ((i+1:Nat):Int) 0-cI l 0 0),.i (cI l ((i+1:Nat):Int) 1-cI l 0 1),.i (cI l ((i+1:Nat):Int) 2-cI l 0 2),.r (txR ((List.range k).map fun k=>tQ (gI2 l i k:Rat)))])
  (0,[.r l,.i ((i+1:Nat):Int),.r acc,.i (cI l ((i+1:Nat):Int) 0-cI l 0 0),.i (cI l ((i+1:Nat):Int) 1-cI l 0 1),.i (cI l ((i+1:Nat):Int) 2-cI l 0 2),.r (txR ((List.range n).map fun k=>tQ (gI2 l i k:Rat)))]) n (by omega) (fun k hk=>by
   obtain⟨b1,b2,b3⟩:=h.row (show k+1<l.length by omega);have bd:=qAO h (i:=i+1) (k:=k+1) (by omega) (by omega);have w1:qm .i64 ((k+1:Nat):Int) 1=((k+1+1:Nat):Int):=vX (show k+1<9223372036854775807 by omega) (by omega);have w3:wL .i64 2 (dI l (i+1) (k+1))=gI2 l i k:=q0G (by omega);have tt:(vO [.i (cI l ((i+1:Nat):Int) 0-cI l 0 0),.i (cI l ((i+1:Nat):Int) 1-cI l 0 1),.i (cI l ((i+1:Nat):Int) 2-cI l 0 2),.i (cI l ((k+1:Nat):Int) 0-cI l 0 0),.i (cI l ((k+1:Nat):Int) 1-cI l 0 1),.i (cI l ((k+1:Nat):Int) 2-cI l 0 2)]).run=some (0,[.i (dI l (i+1) (k+1))]):=qDd z1 z2 z3 a1 a2 a3 b1 b2 b3;have e1:txR ((List.range (k+1)).map fun k=>tQ (gI2 l i k:Rat))=zD (txR ((List.range k).map fun k=>tQ (gI2 l i k:Rat))) [[.s (tQ (gI2 l i k:Rat))]]:=by rw[qfd,qfr,qOO,qOk];rfl
   have e3:qg [[U.s (tQ (gI2 l i k:Rat))]]=1:=rfl;have bg:-999999999999999<=gI2 l i k/\gI2 l i k<=999999999999999:=by unfold gI2;omega
   rw[qam];simp only[STD,hL,qFC b1 b2 b3 z1 z2 z3,tt,w1,w3,q11 bg,e1,e3,q4D,show ((k+1:Nat):Int)<((n+1:Nat):Int) by omega,show (0:Int)<=((k+1:Nat):Int) by omega,show (0:Int)<((n+1:Nat):Int) by omega,
    show (0:Int)<=0 by omega,show (k:Int)+1<=8796093022208 by omega,and_self]) (by
   rw[qam];simp only[STD,hL,show ¬((n+1:Nat):Int)<((n+1:Nat):Int) by omega])
 exact key
def qcT(F:Nat->Nat->Bs)(n c:Nat):R:=(List.range n).map fun i=>[U.l (txR ((List.range c).map (F i)))]
theorem q9v(F:Nat->Nat->Bs)(n c:Nat):qg (qcT F n c)=(n:Int):=by unfold qcT qg;rw[qO7,qOv]
theorem qz4(F:Nat->Nat->Bs)(n c:Nat):qcT F (n+1) c=zD (qcT F n c) [[.l (txR ((List.range c).map (F n)))]]:=by unfold qcT zD;rw[qOO,qOk];rfl
theorem qr7(F:Nat->Nat->Bs){n c i:Nat}(hi:i<n):cR (qcT F n c) (i:Int) 0=txR ((List.range c).map (F i)):=by
 have e:(qcT F n c).getD ((i:Int).toNat) []=[U.l (txR ((List.range c).map (F i)))]:=by unfold qcT;rw[qO9,qNZ,qO8,qOD hi];rfl
 unfold cR zH;rw[e];rfl
theorem qF8(l:R)(n i:Nat):zD (txR ((List.range n).map fun k=>tQ (gI2 l i k:Rat))) [[.s (tQ (dI l (i+1) (i+1):Rat))]]=txR ((List.range (n+1)).map fun j=>tQ (qtR (pV l) n i j)):=by
 rw[qfd,qfr,qOO,qOk];have e:(List.range n).map (fun k=>tQ (gI2 l i k:Rat))=(List.range n).map fun j=>tQ (qtR (pV l) n i j):=qPa fun k hk=>by have:=qOV.1 hk;unfold qtR;rw[if_neg (by omega),qr3]
 rw[e];have e2:tQ (dI l (i+1) (i+1):Rat)=tQ (qtR (pV l) n i n):=by unfold qtR;rw[if_pos rfl,qGq]
 rw[e2];rfl
theorem qNP{l:R}{n:Nat}(h:yu l)(hl:l.length=n+1) :(qf kY [.r l,.i 1,.r []]).run=some (0,[.r (qcT (fun i j=>tQ (qtR (pV l) n i j)) n (n+1))]):=by
 have hn:n<=64:=by have:=h.1;omega
 have hL:qg l=((n+1:Nat):Int):=by unfold qg;rw[hl]
 obtain⟨z1,z2,z3⟩:=h.row0 (show 0<l.length by omega);have key:=qq (S:=kY) (fun i=>[.r l,.i ((i+1:Nat):Int),.r (qcT (fun i j=>tQ (qtR (pV l) n i j)) i (n+1))]) (0,[.r (qcT (fun i j=>tQ (qtR (pV l) n i j)) n (n+1))]) n (by omega) (fun i hi=>by
  obtain⟨a1,a2,a3⟩:=h.row (show i+1<l.length by omega);have bd:=qAO h (i:=i+1) (k:=i+1) (by omega) (by omega);have w1:qm .i64 ((i+1:Nat):Int) 1=((i+1+1:Nat):Int):=vX (show i+1<9223372036854775807 by omega) (by omega);have tt:(vO [.i (cI l ((i+1:Nat):Int) 0-cI l 0 0),.i (cI l ((i+1:Nat):Int) 1-cI l 0 1),.i (cI l ((i+1:Nat):Int) 2-cI l 0 2),.i (cI l ((i+1:Nat):Int) 0-cI l 0 0),.i (cI l ((i+1:Nat):Int) 1-cI l 0 1),.i (cI l ((i+1:Nat):Int) 2-cI l 0 2)]).run=some (0,[.i (dI l (i+1) (i+1))]):=qDd z1 z2 z3 a1 a2 a3 a1 a2 a3;have e3:qg [[U.s (tQ (dI l (i+1) (i+1):Rat))]]=1:=rfl;have e4:∀x:R,qg [[U.l x]]=1:=fun _=>rfl;have es:=qz4 (fun i j=>tQ (qtR (pV l) n i j)) i (n+1);rw[qck];simp only[STD,hL,qFC a1 a2 a3 z1 z2 z3,qND h hl hi,tt,w1,q11 (m:=dI l (i+1) (i+1)) (by omega),e3,e4,q4D,qF8,q9v,es,show ((i+1:Nat):Int)<((n+1:Nat):Int) by omega,show (0:Int)<=((i+1:Nat):Int) by omega,show (0:Int)<((n+1:Nat):Int) by omega,
   show (0:Int)<=0 by omega,show (n:Int)+1<=8796093022208 by omega,show (i:Int)+1<=5864062014805 by omega,and_self]) (by
  rw[qck];simp only[STD,hL,show ¬((n+1:Nat):Int)<((n+1:Nat):Int) by omega])
 exact key
def nxt(P:Nat->Nat->Rat)(c i j:Nat):Rat:=if i=c then P c j/P c c else P i j-P i c*(P c j/P c c)
structure NxOk (P:Nat->Nat->Rat) (n C c:Nat):Prop where
 cell:∀i j,i<n->j<C->sm 100000 (P i j)
 quo:∀j,j<C->sm 100000 (P c j/P c c)
 prod:∀i j,i<n->j<C->sm 100000 (P i c*(P c j/P c c))
theorem qtr(P:Nat->Nat->Rat){n C i j:Nat}(hi:i<n)(hj:j<C):cS (cR (qcT (fun i j=>tQ (P i j)) n C) (i:Int) 0) (j:Int) 0=tQ (P i j):=by rw[qr7 _ hi];exact qhD (fun j=>tQ (P i j)) hj
theorem qxh(P:Nat->Nat->Rat){n C i:Nat}(hi:i<n):qg (cR (qcT (fun i j=>tQ (P i j)) n C) (i:Int) 0)=(C:Int):=by rw[qr7 _ hi,q4D]
theorem qNw{P:Nat->Nat->Rat}{n C c i:Nat}(hc:c<n)(hcC:c<C)(hi:i<n)(hC:C<=1000)(_:n<=1000)(hp:P c c≠0)(ok:NxOk P n C c)(acc:R) :(qf wD [.i c,.r (qcT (fun i j=>tQ (P i j)) n C),.i i,.i 0,.r acc,.r []]).run = some (0,[.i c,.r (qcT (fun i j=>tQ (P i j)) n C),.i i,.r acc,.r (txR ((List.range C).map fun j=>tQ (nxt P c i j)))]):=by
 obtain⟨rw',hrw⟩:∃rw',rw'=qcT (fun i j=>tQ (P i j)) n C:=⟨_,rfl⟩;have gl:qg rw'=(n:Int):=by rw[hrw,q9v]
 have gr:∀i,i<n->qg (cR rw' (i:Int) 0)=(C:Int):=fun i hi=>by rw[hrw];exact qxh P hi
 have gc:∀i j,i<n->j<C->cS (cR rw' (i:Int) 0) (j:Int) 0=tQ (P i j):=fun i j hi hj=>by rw[hrw];exact qtr P hi hj
 rw[<-hrw];have key:=qq (S:=wD) (fun j=>[.i c,.r rw',.i i,.i (j:Int),.r acc,.r (txR ((List.range j).map fun j=>tQ (nxt P c i j)))]) (0,[.i c,.r rw',.i i,.r acc,.r (txR ((List.range C).map fun j=>tQ (nxt P c i j)))]) C (by omega) (fun j hj=>by
  have by1:=qDJ hp (ok.cell c j hc hj) (ok.cell c c hc hcC);have ti1:=q30 (ok.cell i c hi hcC) (ok.quo j hj);have mi1:=q6m (ok.cell i j hi hj) (ok.prod i j hi hj);have e1:txR ((List.range (j+1)).map fun j=>tQ (nxt P c i j))=zD (txR ((List.range j).map fun j=>tQ (nxt P c i j))) [[.s (tQ (nxt P c i j))]]:=by rw[qfd,qfr,qOO,qOk];rfl
  have e3:∀s:Bs,qg [[U.s s]]=1:=fun _=>rfl;have b1:(i:Int)<n:=by omega
  have b2:(c:Int)<n:=by omega
  have b3:(j:Int)<C:=by omega
  have b4:(c:Int)<C:=by omega
  have z1:(0:Int)<=i:=by omega
  have z2:(0:Int)<=c:=by omega
  have z3:(0:Int)<=j:=by omega
  rw[q5K];by_cases e:i=c
  ·have en:nxt P c i j=P c j/P c c:=by unfold nxt;rw[if_pos e]
   have ei:(i:Int)=c:=by omega
   rw[en] at e1;simp only[STD,gl,gr c hc,gc c j hc hj,gc c c hc hcC,by1,e1,e3,ei,q4D,vX hj (show C<9223372036854775808 by omega),b2,b3,b4,z2,z3,and_self,show (j:Int)+1<=8796093022208 by omega]
  ·have en:nxt P c i j=P i j-P i c*(P c j/P c c):=by unfold nxt;rw[if_neg e]
   have ei:¬(i:Int)=c:=by omega
   rw[en] at e1;simp only[STD,gl,gr i hi,gr c hc,gc c j hc hj,gc c c hc hcC,gc i j hi hj,gc i c hi hcC,by1,ti1,mi1,e1,e3,ei,q4D,vX hj (show C<9223372036854775808 by omega),b1,b2,b3,b4,z1,z2,z3,and_self,show (j:Int)+1<=8796093022208 by omega]) (by
  rw[q5K];simp only[STD,gl,gr i hi,show (i:Int)<n by omega,show (0:Int)<=i by omega,show ¬(C:Int)<C by omega,and_self])
 exact key
theorem qNp{P:Nat->Nat->Rat}{n C c:Nat}(hc:c<n)(hcC:c<C)(hC:C<=1000)(hn:n<=1000)(hp:P c c≠0)(ok:NxOk P n C c) :(qf j0 [.i c,.r (qcT (fun i j=>tQ (P i j)) n C),.i 0,.r []]).run=some (0,[.i c,.r (qcT (fun i j=>tQ (nxt P c i j)) n C)]):=by
 obtain⟨rw',hrw⟩:∃rw',rw'=qcT (fun i j=>tQ (P i j)) n C:=⟨_,rfl⟩;have gl:qg rw'=(n:Int):=by rw[hrw,q9v]
 have inner:∀i,i<n->∀acc:R,(qf wD [.i c,.r rw',.i i,.i 0,.r acc,.r []]).run=some (0,[.i c,.r rw',.i i,.r acc,.r (txR ((List.range C).map fun j=>tQ (nxt P c i j)))]):=fun i hi acc=>by rw[hrw];exact qNw hc hcC hi hC hn hp ok acc
 rw[<-hrw];have key:=qq (S:=j0) (fun i=>[.i c,.r rw',.i (i:Int),.r (qcT (fun i j=>tQ (nxt P c i j)) i C)]) (0,[.i c,.r (qcT (fun i j=>tQ (nxt P c i j)) n C)]) n (by omega) (fun i hi=>by
  have es:=qz4 (fun i j=>tQ (nxt P c i j)) i C;have e4:∀x:R,qg [[U.l x]]=1:=fun _=>rfl;rw[q5O];simp only[STD,gl,inner i hi,es,e4,q9v,vX hi (show n<9223372036854775808 by omega),show (i:Int)<n by omega,show (i:Int)+1<=5864062014805 by omega]) (by
  rw[q5O];simp only[STD,gl,show ¬(n:Int)<n by omega])
 exact key
theorem qNm{P:Nat->Nat->Rat}{n:Nat}(hn:n<=1000) :(qf j4 [.i 0,.r (qcT (fun i j=>tQ (P i j)) n (n+1)),.r []]).run=some (0,[.r (txR ((List.range n).map fun i=>tQ (P i n)))]):=by
 obtain⟨rw',hrw⟩:∃rw',rw'=qcT (fun i j=>tQ (P i j)) n (n+1):=⟨_,rfl⟩;have gl:qg rw'=(n:Int):=by rw[hrw,q9v]
 have gr:∀i,i<n->qg (cR rw' (i:Int) 0)=((n+1:Nat):Int):=fun i hi=>by rw[hrw];exact qxh P hi
 have gc:∀i,i<n->cS (cR rw' (i:Int) 0) (n:Int) 0=tQ (P i n):=fun i hi=>by rw[hrw];exact qtr P hi (by omega)
 rw[<-hrw];have key:=qq (S:=j4) (fun i=>[.i (i:Int),.r rw',.r (txR ((List.range i).map fun i=>tQ (P i n)))]) (0,[.r (txR ((List.range n).map fun i=>tQ (P i n)))]) n (by omega) (fun i hi=>by
  have e1:txR ((List.range (i+1)).map fun i=>tQ (P i n))=zD (txR ((List.range i).map fun i=>tQ (P i n))) [[.s (tQ (P i n))]]:=by rw[qfd,qfr,qOO,qOk];rfl
  have e3:∀s:Bs,qg [[U.s s]]=1:=fun _=>rfl;rw[q5l];simp only[STD,gl,gr i hi,gc i hi,e1,e3,q4D,vX hi (show n<9223372036854775808 by omega),show (i:Int)<n by omega,show (0:Int)<=i by omega,show (0:Int)<=n by omega,show (n:Int)<((n+1:Nat):Int) by omega,show (i:Int)+1<=8796093022208 by omega,and_self]) (by
  rw[q5l];simp only[STD,gl,show ¬(n:Int)<n by omega])
 exact key
theorem qDs(G:Nat->R){n i:Nat}(hi:i<n)(x:R):qaz ((List.range n).map fun k=>[U.l (G k)]) (i:Int) 0 [.l x]=(List.range n).map fun k=>[U.l (if k=i then x else G k)]:=by
 have e:((List.range n).map fun k=>[U.l (G k)]).getD i []=[U.l (G i)]:=by rw[qNZ,qO8,qOD hi];rfl
 unfold qaz;rw[qO9,e];show List.set _ i [U.l x]=_;apply qOR;intro k;by_cases hk:k<n
 ·by_cases hki:k=i
  ·subst hki;rw[qOc (by rw[qO7,qOv];exact hk),qO8,qOD hk];simp
  ·rw[qO1 (fun h=>hki h.symm),qO8,qO8,qOD hk];simp[hki]
 ·rw[qOl (by rw[qPb,qO7,qOv];omega),qOl (by rw[qO7,qOv];omega)]
theorem qI2(F:Nat->Nat->Bs){n C c i:Nat}(hc:c<n)(hi:i<n) :qaz (qaz (qcT F n C) (c:Int) 0 [.l (txR ((List.range C).map (F i)))]) (i:Int) 0 [.l (txR ((List.range C).map (F c)))]=qcT (fun k=>F (swI c i k)) n C:=by
 unfold qcT;rw[qDs (fun k=>txR ((List.range C).map (F k))) hc,qDs _ hi];apply qPa;intro k _;unfold swI;by_cases h1:k=i
 ·subst h1;by_cases h2:k=c
  ·subst h2;simp
  ·simp[h2]
 ·by_cases h2:k=c
  ·subst h2;simp[h1]
  ·simp[h1,h2]
theorem qCE{α:Type}(P:Nat->Nat->Rat)(c n:Nat)(G:Nat->α):∀(m i:Nat),c+i+m=n->q6H (fun k=>if P (c+k) c=0 then none else some (G (c+k))) i m=if pvI P c n m=n then none else some (G (pvI P c n m))
 | 0,i,h=>by simp[q6H,pvI]
 | m+1,i,h=>by
  have e:n-(m+1)=c+i:=by omega
  simp only[q6H,pvI,e];by_cases h0:P (c+i) c=0
  ·rw[if_pos h0,if_pos h0];exact qCE P c n G m (i+1) (by omega)
  ·rw[if_neg h0,if_neg h0,if_neg (by omega)]
theorem qHL(l:R)(i:Int)(off:Nat)(us:List U):qg (qaz l i off us)=qg l:=by unfold qaz qg;rw[qPb]
theorem qM2(q:Rat):(seq (tQ q) [48]=true)=(q=0):=by rw[zM,q7a]
theorem qFV{P:Nat->Nat->Rat}{n C c:Nat}(hc:c<n)(hcC:c<C)(hn:n<=1000) :(q5M [.r (qcT (fun i j=>tQ (P i j)) n C),.i c]).run = if pvI P c n (n-c)=n then some (0,[.r [],.b false]) else some (0,[.r (qcT (fun i j=>tQ (P (swI c (pvI P c n (n-c)) i) j)) n C),.b true]):=by
 obtain⟨x,hx⟩:∃x,x=qcT (fun i j=>tQ (P i j)) n C:=⟨_,rfl⟩;have gl:qg x=(n:Int):=by rw[hx,q9v]
 have gr:∀i,i<n->qg (cR x (i:Int) 0)=(C:Int):=fun i hi=>by rw[hx];exact qxh P hi
 have gc:∀i j,i<n->j<C->cS (cR x (i:Int) 0) (j:Int) 0=tQ (P i j):=fun i j hi hj=>by rw[hx];exact qtr P hi hj
 have sw:∀i,i<n->qaz (qaz x (c:Int) 0 [.l (cR x (i:Int) 0)]) (i:Int) 0 [.l (cR x (c:Int) 0)]=qcT (fun k j=>tQ (P (swI c i k) j)) n C:=fun i hi=>by rw[hx,qr7 _ hi,qr7 _ hc];exact qI2 (fun i j=>tQ (P i j)) hc hi
 have key:=q0g (S:=yE) (fun k=>[.r x,.i c,.i ((c+k:Nat):Int),.r x]) (fun k=>if P (c+k) c=0 then none else some (1,[PV.b true,.r (qcT (fun i j=>tQ (P (swI c (c+k) i) j)) n C)])) (0,[]) (n-c) (by omega)
  (fun k hk hf=>by
   have h0:P (c+k) c=0:=qOA fun h=>by rw[if_neg h] at hf;cases hf
   have w1:qm .i64 ((c+k:Nat):Int) 1=((c+(k+1):Nat):Int):=vX (show c+k<9223372036854775807 by omega) (by omega);rw[q5Z];simp only[STD,gl,gr (c+k) (by omega),gc (c+k) c (by omega) hcC,qM2,h0,w1,show ((c+k:Nat):Int)<n by omega,show (0:Int)<=((c+k:Nat):Int) by omega,show (0:Int)<=c by omega,show (c:Int)<C by omega,and_self,not_true])
  (fun k r hk hf=>by
   have h0:¬P (c+k) c=0:=fun h=>by rw[if_pos h] at hf;cases hf
   rw[if_neg h0] at hf;cases hf;rw[q5Z];simp only[STD,gl,gr (c+k) (by omega),gc (c+k) c (by omega) hcC,qM2,h0,qHL,sw (c+k) (by omega),show ((c+k:Nat):Int)<n by omega,show (0:Int)<=((c+k:Nat):Int) by omega,show (0:Int)<=c by omega,show (c:Int)<C by omega,show (c:Int)<n by omega,and_self])
  (by rw[q5Z];simp only[STD,gl,show ¬((c+(n-c):Nat):Int)<n by omega])
 have sc:q6H (fun k=>if P (c+k) c=0 then none else some (1,[PV.b true,.r (qcT (fun i j=>tQ (P (swI c (c+k) i) j)) n C)])) 0 (n-c)=if pvI P c n (n-c)=n then (none:Option (Nat×List PV)) else some (1,[PV.b true,.r (qcT (fun i j=>tQ (P (swI c (pvI P c n (n-c)) i) j)) n C)]):=
  qCE P c n (fun i=>((1:Nat),[PV.b true,.r (qcT (fun k j=>tQ (P (swI c i k) j)) n C)])) (n-c) 0 (by omega)
 rw[sc] at key;have ra:zD [] x=x:=rfl;rw[<-hx,qqm];by_cases hp:pvI P c n (n-c)=n
 ·rw[if_pos hp] at key ⊢;have key':(qf yE [.r x,.i c,.i c,.r x]).run=some (0,[]):=key;simp only[STD,gl,ra,key',zh key',show qg []=0 from rfl,show (0:Int)+n<=5864062014805 by omega]
 ·rw[if_neg hp] at key ⊢;have key':(qf yE [.r x,.i c,.i c,.r x]).run=some (1,[PV.b true,.r (qcT (fun k j=>tQ (P (swI c (pvI P c n (n-c)) k) j)) n C)]):=key;simp only[STD,gl,ra,key',zh key',show qg []=0 from rfl,show (0:Int)+n<=5864062014805 by omega];rfl
theorem qCx(c i:Nat):swI c i c=i:=by unfold swI;rw[if_pos rfl]
theorem qLY(c i0:Nat)(M:Nat->Nat->Rat):nxt (fun i j=>M (swI c i0 i) j) c=gs c i0 M:=by rw[<-qJA];funext i j;unfold nxt gsP;simp only[qCx]
end Go.Eng

