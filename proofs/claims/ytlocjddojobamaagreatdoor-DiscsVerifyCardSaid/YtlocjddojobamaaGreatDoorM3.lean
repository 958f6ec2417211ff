/- Texts of the proof, merged: what the code computes, and plain laws. No statement stands here. -/
import Derived.Shelf.Strings.SlTrimAscii
import Derived.Shelf.Strings.Search2
import Derived.Shelf.Small.Strs
import Derived.Shelf.Strconv.Itoa3
import Derived.Shelf.Strconv.Atoi
import Derived.Shelf.Strings.BuilderK
import Derived.Shelf.LaysM
import Derived.Test.YtlocjddojobamaaGreatDoorProg
import Derived.WalkKit
import Derived.BigCall
import Derived.Deep.RegionWith
import Derived.Laws.Externs
import Derived.Lib.Builder
import Derived.Lib.AppendStr
import Derived.KernelRfl
import Derived.Test.YtlocjddojobamaaGreatDoorM2
namespace Go.Eng
def q7i (fn:Func):Code:=fn.body.getD .skip
def wM (fn:Func) (k:Nat):Code:=((wV (q7i fn))[k]?).getD .skip
def qkK:Code→Code
 | .loop c=>c
 | c=>c
def qFw (E:Env) (f:FuncId) (fn:Func) (k:Nat):qzF:=match wM fn k with
 | .rangeFunc _ ps a b=>qv1 (um E (q8p E 9) (q7s E) (qik E (q8p E 9)) f a (k+1)) (um E (q8p E 9) (q7s E) (qik E (q8p E 9)) f b (k+1+vn a)) ps.toList
 | _=>fun _ _=>.fail
def hdl (E:Env):Option (FuncId × Func × Nat)→q7A
 | none=>q8p E 9
 | some (fc,fnc,kc)=>qC4 (qFw E fc fnc kc) (q8p E 9)
def rgh (E:Env):Option (FuncId × Func × Nat)→qd4
 | none=>qik E (q8p E 9)
 | some _=>quH
def qlT (E:Env) (y:Option (FuncId × Func × Nat)) (f:FuncId) (fn:Func) (k:Nat) (st:St):Tree (Ex × St):=um E (hdl E y) (q7s E) (rgh E y) f (qkK (wM fn k)) (k+1) st
def jx (E:Env) (f:FuncId) (fn:Func) (k:Nat) (tin:Tmpl) (outs:List Out) (ps:List PV):TR:=(qlT E none f fn k (tin.make ps)).bind (qCw tin outs)
def qvp (E:Env) (y:Option (FuncId × Func × Nat)) (f:FuncId) (fn:Func) (k:Nat) (tin:Tmpl) (outs:List Out) (ps:List PV):TR:=(qlT E y f fn k (tin.make ps)).bind (qCw tin outs)
def qW (E:Env) (f:FuncId) (fn:Func) (fz:Bool) (i:FIn) (outs:List FOut) (ps:List PV):TR:=(qyw E 9 f fn (i.make ps).1 (i.make ps).2).bind fun q=>qE6 outs 0 (qcs fz q)
def q7j:Nat:=2 ^ 70
def qg (S:List PV→TR) (ps:List PV):TR:=qkJ S q7j ps
structure EnvOK (E:Env) (P:Program):Prop where
 tok:E.tok P
 specs:E.specs P
 loops:E.loopsOK P
 bodies:E.bodies P
theorem qm {P:Program} {E:Env} (h:E.tt.map (fun x=>qxC P x.1)=E.tt.map (·.2)):E.tok P:=by
 intro x hx
 have:∀ (l:List (TypeId × TI)),l.map (fun x=>qxC P x.1)=l.map (·.2)→∀ x,x ∈ l→qxC P x.1=x.2:=by
  intro l
  induction l with
  | nil=>intro _ x hx;cases hx
  | cons y l ih=>
   intro h x hx
   simp only [List.map_cons,List.cons.injEq] at h
   rcases List.mem_cons.1 hx with rfl | hx
   ·exact h.1
   ·exact ih h.2 x hx
 exact this _ h x hx
theorem q8 {α:Type} {p:α→Prop}:∀ x,x ∈ ([]:List α)→p x:=fun _ h=>by cases h
theorem all_cons {α:Type} {p:α→Prop} {a:α} {l:List α} (h:p a) (t:∀ x,x ∈ l→p x):∀ x,x ∈ a :: l→p x:=fun x hx=>by
 rcases List.mem_cons.1 hx with rfl | hx
 ·exact h
 ·exact t x hx
theorem qh {P:Program} {f:FuncId} {fn:Func} (h:P.funcs[f]?=some fn) (hn:(fn.name == "runtime.NumGoroutine")=false):P.funcs[(f,fn).1]?=some (f,fn).2∧((f,fn).2.name == "runtime.NumGoroutine")=false:=⟨h,hn⟩
theorem zp {P:Program} {gl:List (Nat × AV)} {ni:Nat} {f k:Nat} {fn:Func} {L:St→Tree (Ex × St)} (hf:P.funcs[f]?=some fn) (hb:fn.body.isSome=true)
  (hn:((wV (q7i fn))[k]?).isSome=true) {it:List (FuncId × FuncId × Nat)} (hg:qO P gl ni (zo P it f) (wM fn k) L) :
  ∃ fn' c c',P.funcs[((f,k),L).1.1]?=some fn'∧fn'.body=some c∧(wV c)[((f,k),L).1.2]?=some c'∧qO P gl ni (zo P it ((f,k),L).1.1) c' ((f,k),L).2:=by
 refine ⟨fn,q7i fn,wM fn k,hf,?_,?_,hg⟩
 ·unfold q7i
  cases h:fn.body with
  | none=>rw [h] at hb;cases hb
  | some c=>rfl
 ·show (wV (q7i fn))[k]?=some (wM fn k)
  unfold wM
  cases h:(wV (q7i fn))[k]? with
  | none=>rw [h] at hn;cases hn
  | some c=>rfl
def qxT:Code→Bool
 | .loop _=>true
 | _=>false
theorem qwR {A C:List Code} (hA:∀ (k:Nat) (d:Code),A[k]?=some d→∀ (j:Nat) (c':Code),(wV d)[j]?=some c'→A[k+j]?=some c') (hC:∀ (k:Nat) (d:Code),C[k]?=some d→∀ (j:Nat) (c':Code),(wV d)[j]?=some c'→C[k+j]?=some c') :
  ∀ (k:Nat) (d:Code),(A++C)[k]?=some d→∀ (j:Nat) (c':Code),(wV d)[j]?=some c'→(A++C)[k+j]?=some c':=by
 intro k d hd j c' hc
 rcases Nat.lt_or_ge k A.length with h | h
 ·rw [List.getElem?_append_left h] at hd
  have:=hA k d hd j c' hc
  rw [List.getElem?_append_left (zu this)];exact this
 ·rw [List.getElem?_append_right h] at hd
  have:=hC _ d hd j c' hc
  rw [List.getElem?_append_right (by omega),show k+j - A.length=k - A.length+j by omega];exact this
theorem qtv {c:Code} {l:List Code} (hc:wV c=c :: l) (hl:∀ (k:Nat) (d:Code),l[k]?=some d→∀ (j:Nat) (c':Code),(wV d)[j]?=some c'→l[k+j]?=some c') :
  ∀ (k:Nat) (d:Code),(c :: l)[k]?=some d→∀ (j:Nat) (c':Code),(wV d)[j]?=some c'→(c :: l)[k+j]?=some c':=by
 intro k d hd j c' hj
 cases k with
 | zero=>
  simp only [List.getElem?_cons_zero,Option.some.injEq] at hd
  subst hd
  rw [hc] at hj
  simpa using hj
 | succ k=>
  simp only [List.getElem?_cons_succ] at hd
  have:=hl k d hd j c' hj
  rw [show k+1+j=(k+j)+1 by omega,List.getElem?_cons_succ];exact this
theorem qvz:∀ (c:Code) (k:Nat) (d:Code),(wV c)[k]?=some d→∀ (j:Nat) (c':Code),(wV d)[j]?=some c'→(wV c)[k+j]?=some c':=by
 intro c
 induction c with
 | seq a b iha ihb=>exact qtv rfl (qwR iha ihb)
 | cond x a b iha ihb=>exact qwR iha ihb
 | block id c ih=>exact ih
 | scope c ih=>exact ih
 | loop c ih=>exact qtv rfl ih
 | rangeFunc x ps a b iha ihb=>exact qtv rfl (qwR iha ihb)
 | _=>intro k d hd;simp [wV] at hd
theorem qA0 {fn:Func} {k:Nat} (h:((wV (q7i fn))[k]?).isSome=true):(wV (q7i fn))[k]?=some (wM fn k):=by
 unfold wM
 cases h':(wV (q7i fn))[k]? with
 | none=>rw [h'] at h;cases h
 | some c=>rfl
def qEA (E:Env) (P:Program) (f:FuncId):Option (FuncId × Func × Nat)→Prop
 | none=>q8m E.iter f=true
 | some (fc,fnc,kc)=>P.funcs[fc]?=some fnc∧(qso E.iter f fc kc&&(q8m E.iter fc&&(fnc.body.isSome&&((wV (q7i fnc))[kc]?).isSome)))=true
theorem qt5 {fn:Func} (h:fn.body.isSome=true):fn.body=some (q7i fn):=by
 unfold q7i
 cases hb:fn.body with
 | none=>rw [hb] at h;cases h
 | some c=>rfl
theorem qDg {E:Env} {P:Program} (hm:P.follows .mixedOrders=true) (h:EnvOK E P) {f:FuncId} {y:Option (FuncId × Func × Nat)} (hy:qEA E P f y):(∀ B,zo P E.iter f B→CallOK E P (hdl E y) B)∧qjb E P (rgh E y):=by
 have hcall:=qfu hm h.tok h.specs h.loops h.bodies 9
 cases y with
 | none=>exact ⟨fun B _=>hcall B,qcT hm h.tok h.specs h.loops h.bodies hcall⟩
 | some y=>
  obtain ⟨fc,fnc,kc⟩:=y
  obtain ⟨hf,hc⟩:=hy
  simp only [Bool.and_eq_true] at hc
  obtain ⟨c1,c2,c3,c4⟩:=hc
  refine ⟨fun B hB=>⟨(hcall B).fn,?_⟩,qlX E P⟩
  have hfi:qgB E.iter f=some (fc,kc):=by
   unfold qso at c1
   split at c1
   ·rename_i z hz
    simp only [Bool.and_eq_true] at c1
    rw [hz]
    obtain ⟨z1,z2⟩:=z
    have e1:z1=fc:=Nat.eq_of_beq_eq_true c1.1
    have e2:z2=kc:=Nat.eq_of_beq_eq_true c1.2
    rw [e1,e2]
   ·cases c1
  obtain ⟨_,hI⟩:=hB
  rw [hfi] at hI
  have hnode:=qA0 c4
  have hsub:=qvz (q7i fnc) kc _ hnode
  intro args st r X a vargs hs ha hr
  simp only [hdl,qC4,qFw] at hr
  cases hn:wM fnc kc with
  | rangeFunc x ps c d=>
   rw [hn] at hr hnode hsub
   refine qyb hf (qt5 c3) hnode c2 (fun B X st act r hbo hs hr n=>?_) (fun B X st act r hbo hs hr n=>?_) hI args st r X a vargs hs ha hr
   ·refine qbl hm h.tok h.specs h.loops hf (qt5 c3) (fun B _=>hcall B) (qbd hm h.tok h.specs h.loops h.bodies) (q6M E) (qcT hm h.tok h.specs h.loops h.bodies hcall) c (kc+1) (fun j c' hj=>?_) hbo hs hr
    have:=hsub (1+j) c' (by simp only [wV];rw [Nat.add_comm,List.getElem?_cons_succ,List.getElem?_append_left (zu hj)];exact hj)
    rw [show kc+1+j=kc+(1+j) by omega];exact this
   ·refine qbl hm h.tok h.specs h.loops hf (qt5 c3) (fun B _=>hcall B) (qbd hm h.tok h.specs h.loops h.bodies) (q6M E) (qcT hm h.tok h.specs h.loops h.bodies hcall) d (kc+1+vn c) (fun j c' hj=>?_) hbo hs hr
    have:=hsub (1+vn c+j) c' (by
     simp only [wV]
     rw [show 1+vn c+j=(vn c+j)+1 by omega,List.getElem?_cons_succ,List.getElem?_append_right (by rw [q02];omega),q02]
     rw [show vn c+j - vn c=j by omega];exact hj)
    rw [show kc+1+vn c+j=kc+(1+vn c+j) by omega];exact this
  | _=>rw [hn] at hr;cases hr
theorem q7m {E:Env} {P:Program} (hm:P.follows .mixedOrders=true) (h:EnvOK E P) {f k:Nat} {fn:Func} (hf:P.funcs[f]?=some fn)
  (hlp:qxT (wM fn k)=true) {tin:Tmpl} {outs:List Out} {S:List PV→TR} {y:Option (FuncId × Func × Nat)} (hy:qEA E P f y)
  (hk:(tin.ok E.nimp&&outs.all fun o=>o.tm.ok E.nimp)=true)
  (hnk:(fn.body.isSome&&((wV (q7i fn))[k]?).isSome)=true)
  (hS:∀ ps,S ps=qvp E y f fn k tin outs ps):qO P E.glob E.nimp (zo P E.iter f) (wM fn k) (qE tin outs (qg S)):=by
 simp only [Bool.and_eq_true] at hk hnk
 have hnode:=qA0 hnk.2
 have hsub:∀ j c',(wV (qkK (wM fn k)))[j]?=some c'→(wV (q7i fn))[k+1+j]?=some c':=by
  intro j c' hj
  have:=qvz (q7i fn) k _ hnode (1+j) c' (by
   cases hn:wM fn k <;> simp [hn,qxT] at hlp
   rw [hn] at hj
   simp only [wV,qkK] at hj ⊢
   rw [Nat.add_comm,List.getElem?_cons_succ];exact hj)
  rw [show k+1+j=k+(1+j) by omega];exact this
 have hc:wM fn k=.loop (qkK (wM fn k)):=by
  cases hn:wM fn k <;> simp [hn,qxT] at hlp
  rfl
 rw [hc]
 refine qAR (ev:=qlT E y f fn k) (S:=S) ?_ hk.1 hk.2 (fun ps r _ hr=>by rw [hS] at hr;exact hr) (fun ps=>⟨q7j,rfl⟩)
 intro n0 B X st a r hbo hs hr
 obtain ⟨w1,w2⟩:=qDg hm h hy
 exact qbl hm h.tok h.specs h.loops hf (qt5 hnk.1) w1 (qbd hm h.tok h.specs h.loops h.bodies) (q6M E) w2 (qkK (wM fn k)) (k+1) hsub hbo hs hr
theorem qv {E:Env} {P:Program} (hm:P.follows .mixedOrders=true) (h:EnvOK E P) {f k:Nat} {fn:Func} (hf:P.funcs[f]?=some fn)
  (hlp:qxT (wM fn k)=true) {tin:Tmpl} {outs:List Out} {S:List PV→TR} (hni:q8m E.iter f=true)
  (hk:(tin.ok E.nimp&&outs.all fun o=>o.tm.ok E.nimp)=true)
  (hnk:(fn.body.isSome&&((wV (q7i fn))[k]?).isSome)=true)
  (hS:∀ ps,S ps=jx E f fn k tin outs ps):qO P E.glob E.nimp (zo P E.iter f) (wM fn k) (qE tin outs (qg S)):=
 q7m hm h hf hlp (y:=none) hni hk hnk hS
theorem qt {E:Env} {P:Program} (hm:P.follows .mixedOrders=true) (h:EnvOK E P) {f:FuncId} {fn:Func} (hf:P.funcs[f]?=some fn)
  (hn:((fn.name == "runtime.NumGoroutine") || fn.body.isNone)=false) {fz:Bool} {i:FIn} {outs:List FOut} {T:List PV→TR}
  (hk:(Nat.beq i.h.length E.nimp&&i.h.all BP.isCells&&outs.all fun o=>qdX E.nimp o.h)=true)
  (hT:∀ ps,T ps=qW E f fn fz i outs ps):wi P E.glob f (qf i outs T):=by
 simp only [Bool.or_eq_false_iff] at hn
 simp only [Bool.and_eq_true] at hk
 exact qAx hm h.tok h.specs h.loops h.bodies hf hn.1 hn.2 (n:=9) (fz:=fz) ⟨Nat.eq_of_beq_eq_true hk.1.1,hk.1.2⟩ hk.2 (fun ps r _ hr=>by rw [hT] at hr;exact hr)
end Go.Eng

namespace Go.Eng
open Go.Shelf Go.RowKit Go.Proofs Go.Sort
theorem qn5 (w:World) (q:Nat) (os:Array Obj):Below w.heap.size w (grow (w.drewN q) os):=
 ⟨rfl,rfl,rfl,by simp [grow],fun i hi=>by
  show ((w.drewN q).heap++os)[i]?=_
  rw [Array.getElem?_append_left (by show i<w.heap.size;omega)]
  rfl⟩
theorem qvM (w:World) (e:TypeId) (s:ByteArray):Below w.heap.size w (Lib.bytesWorld w e s):=
 ⟨rfl,rfl,rfl,by rw [Lib.bytesWorld_size];omega,fun k hk=>Lib.bytesWorld_at_old w e s k (by omega)⟩
theorem HSim.grow {B:Base} {X:Ctx} (hs:HSim B X) {w':World} (hb:Below X.w.heap.size X.w w'):HSim B { X with w:=w' }∧Ext X { X with w:=w' }:=by
 have hold:∀ n (o:Obj),X.w.heap[n]?=some o→w'.heap[n]?=some o:=fun n o h=>(hb.block n (Array.getElem?_eq_some_iff.1 h).1).trans h
 have hx:Ext X { X with w:=w' }:=Move.of (fun _ h=>h) (fun a ha=>World.cell?_of_block (hb.block _ (hs.ltM _ ha))) (fun b b' hb' h=>by
  cases h
  exact ⟨hb',rfl,fun _ _ h=>h,fun _ _ _ n _ c T fr h=>⟨c,T,fr,hold n _ h,rfl⟩⟩)
 refine ⟨⟨fun b k hk=>?_,hs.inj,hs.notM,fun n hn=>Nat.lt_of_lt_of_le (hs.ltM n hn) hb.size,hs.M0,hs.newM,hb.os.trans hs.os,hb.tape.trans hs.tape,hb.output.trans hs.output,Nat.le_trans hs.size hb.size,
  fun n hn hni=>?_,hs.imps,hs.impc,hs.fresh,fun p hp=>?_⟩,hx⟩
 ·by_cases hd:k=.dead
  ·subst hd;trivial
  ·exact kh.ext hx rfl (fun n hn=>hb.block n (hs.lt hk hd hn)) (hs.blk b k hk)
 ·show w'.heap[n]?=_
  rw [hb.block n (Nat.lt_of_lt_of_le hn hs.size)]
  exact hs.frame n hn hni
 ·obtain ⟨q1,q2,q3⟩:=hs.kept p hp
  exact ⟨hold _ _ q1,q2,q3⟩
theorem qgz {P:Program} {gl:List (Nat × AV)} {f:FuncId} {i:FIn} {o:FOut} {T:List PV→TR} (he:ql5 P f) (hi:i.h.all BP.isCells=true)
  (h:∀ (B:Base) (X:Ctx) (ps:List PV) (j:Nat) (qs:List PV) (vargs:List Value),HSim B X→q7e gl X→X.h=(i.make ps).2→RepL X (i.make ps).1 vargs→ps.map PV.kind=i.kinds→(T ps).run=some (j,qs) →
   j=0∧qs.map PV.kind=o.kinds∧(o.make qs).2=(i.make ps).2∧Calls P f vargs.toArray X.w fun e w'=>∃ v,e=.returned v∧Below X.w.heap.size X.w w'∧Rep X (o.make qs).1 v) :
  wi P gl f (qf i [o] T):=by
 refine ⟨he,fun B X args vargs r hs hen hgl ha hr=>?_⟩
 obtain ⟨ps,j,qs,h1,h2,h3⟩:=qv6 hr
 unfold FIn.take at h1
 obtain ⟨x,y,g1,g2,rfl⟩:=q45 h1
 obtain ⟨a1,a2,a3⟩:=AP.takeL_ok (X:=X) _ _ x y g1
 obtain ⟨b1,b2,b3,b4,b5⟩:=BP.takeL_ok (X:=X) _ _ y [] g2
 rw [List.append_nil] at b3 b5
 have himp:B.imps.length=X.h.length:=by rw [hen.imps];simp
 obtain ⟨d1,d2⟩:=qd1 hs (h':=(BP.makeL i.h y).1) b3 (fun b k' hb=>by obtain ⟨k0,e1,e2,_⟩:=b5 b k' hb;exact ⟨k0,e1,e2⟩)
  (fun b hb k' hk'=>by
   obtain ⟨k0,_,_,e3⟩:=b5 b k' hk'
   have hlt:b<i.h.length:=by omega
   exact e3 i.h[b] (List.getElem?_eq_getElem hlt) (List.all_eq_true.1 hi _ (List.getElem_mem hlt)))
 have hkd:(x++y).map PV.kind=i.kinds:=by simp [FIn.kinds,a2,b2]
 have hgl1:q7e gl ({ X with h:=(BP.makeL i.h y).1 }:Ctx):=fun z hz=>⟨(hgl z hz).1,(hgl z hz).2.move d2.M d2.w ((hgl z hz).2.1.ext d2)⟩
 have hmk:i.make (x++y)=((AP.makeL i.args (x++y)).1,(BP.makeL i.h y).1):=by simp only [FIn.make,a1]
 obtain ⟨k1,k2,k3,k4⟩:=h B _ (x++y) j qs vargs d1 hgl1 (by rw [hmk]) (by rw [hmk];exact (a3 _ ha).ext d2) hkd h2
 subst k1
 refine k4.mono fun e w' ⟨v,e1,e2,e3⟩=>?_
 obtain ⟨m1,m2⟩:=d1.grow e2
 have hre:=qtc h2 [o] 0 o r (Nat.zero_le _) rfl k2 h3
 subst hre
 exact ⟨v,_,e1,rfl,e3.ext m2,by rw [k3,hmk],m1,rfl⟩
theorem qy2 {X:Ctx} {s:List UInt8} {vs:List Value} (h:RepL X [.str s] vs):vs=[.string ⟨s.toArray⟩]:=by
 cases h with
 | cons h t=>cases h;cases t;rfl
theorem qys {X:Ctx} {k:IntKind} {n:Int} {vs:List Value} (h:RepL X [.int k n] vs):vs=[.int k n]:=by
 cases h with
 | cons h t=>cases h;cases t;rfl
theorem qqf {X:Ctx} {s t:List UInt8} {vs:List Value} (h:RepL X [.str s,.str t] vs):vs=[.string ⟨s.toArray⟩,.string ⟨t.toArray⟩]:=by
 cases h with
 | cons h t=>cases h;rw [qy2 t]
theorem qDB {ps:List PV} (h:ps.map PV.kind=[.s]):∃ s,ps=[.s s]:=by
 match ps,h with
 | [.s s],_=>exact ⟨s,rfl⟩
theorem qDL {ps:List PV} (h:ps.map PV.kind=[.i]):∃ s,ps=[.i s]:=by
 match ps,h with
 | [.i s],_=>exact ⟨s,rfl⟩
theorem qu1 {ps:List PV} (h:ps.map PV.kind=[.s,.s]):∃ s t,ps=[.s s,.s t]:=by
 match ps,h with
 | [.s s,.s t],_=>exact ⟨s,t,rfl⟩
def qvm:List PV→TR
 | [.s s,.s [c]]=>.leaf (0,[.i (Lib.indexByte s c)])
 | _=>.fail
theorem qxv {P:Program} {ρ:Ren} (L:Lays.n219 P ρ) (he:ql5 P (ρ.f 219)) {gl:List (Nat × AV)} :
  wi P gl (ρ.f 219) (qf { args:=[.str,.str],h:=[] } [{ res:=.int .i64,h:=[] }] qvm):=
 qgz he rfl fun B X ps j qs vargs hs hg hh ha hk hT=>by
  obtain ⟨s,t,rfl⟩:=qu1 hk
  unfold qvm at hT
  split at hT
  ·rename_i s' c hps
   simp only [List.cons.injEq,PV.s.injEq,and_true] at hps
   obtain ⟨rfl,rfl⟩:=hps
   cases hT
   have:=qqf ha
   subst this
   refine ⟨rfl,rfl,rfl,(Any.stringslite_Index_one L ⟨s.toArray⟩ c X.w).mono fun e w' ⟨h1,h2⟩=>?_⟩
   subst h2
   exact ⟨_,h1,Below.refl _ _,.int _ _⟩
  ·cases hT
def qor:List PV→TR
 | [.s s,.s t]=>.leaf (0,[.i (Lib.compareBytes s t)])
 | _=>.fail
theorem qt1 {P:Program} {ρ:Ren} (L:Lays.n106 P ρ) (he:ql5 P (ρ.f 106)) {gl:List (Nat × AV)} :
  wi P gl (ρ.f 106) (qf { args:=[.str,.str],h:=[] } [{ res:=.int .i64,h:=[] }] qor):=
 qgz he rfl fun B X ps j qs vargs hs hg hh ha hk hT=>by
  obtain ⟨s,t,rfl⟩:=qu1 hk
  cases hT
  have:=qqf ha
  subst this
  refine ⟨rfl,rfl,rfl,(Any.strings_Compare L ⟨s.toArray⟩ ⟨t.toArray⟩ X.w).mono fun e w' ⟨h1,h2⟩=>?_⟩
  subst h2
  exact ⟨_,h1,Below.refl _ _,.int _ _⟩
def qBs:List PV→TR
 | [.s s,.s t]=>if s.length≤9223372036854775807∧t.length<4294967281∧t.all (fun b=>decide (b.toNat<128))=true then .leaf (0,[.s (Lib.trimS s t)]) else .fail
 | _=>.fail
theorem qzc {P:Program} {ρ:Ren} (L:Lays.n160 P ρ) (he:ql5 P (ρ.f 160)) (h116:(P.info? (ρ.t 116)).map (fun i=>(i.zero,i.size))=some (some (.agg (Array.replicate 256 (.bool false))),256)) {gl:List (Nat × AV)} :
  wi P gl (ρ.f 160) (qf { args:=[.str,.str],h:=[] } [{ res:=.str,h:=[] }] qBs):=
 qgz he rfl fun B X ps j qs vargs hs hg hh ha hk hT=>by
  obtain ⟨s,t,rfl⟩:=qu1 hk
  simp only [qBs] at hT
  split at hT
  ·rename_i hc
   cases hT
   have:=qqf ha
   subst this
   refine ⟨rfl,rfl,rfl,(Any.strings_Trim_laid L h116 ⟨s.toArray⟩ ⟨t.toArray⟩ X.w (by simpa [ByteArray.size] using hc.1) (by simpa [ByteArray.size] using hc.2.1) (fun j b hj=>?_)).mono fun e w' ⟨h1,h2⟩=>⟨_,h1,h2,.str _⟩⟩
   have h3:=hc.2.2
   rw [List.all_eq_true] at h3
   simpa using h3 b (List.mem_of_getElem? hj)
  ·cases hT
def qD9:R:=[Lib.pow10Tab.map U.i]
def qA6:List PV→TR
 | [.i n]=>if -9223372036854775808≤n∧n≤9223372036854775807 then .leaf (0,[.s (Lib.itoa n)]) else .fail
 | _=>.fail
theorem qoY {P:Program} {X:Ctx} {g:Nat} {k:IntKind} {zs:List Int} {name:String} (hn:P.globalNamed name=some g) (hz:zs≠[])
  (h:qC6 X (g,.eptr (zs.map fun _=>.int k) [zs.map U.i] 0 0)):Lib.TabIs P X.w name k zs:=by
 obtain ⟨h1,h2,h3⟩:=h
 simp only at h1 h2 h3
 have hcell:∀ j (hj:j<zs.length),X.w.cell? ⟨g,j,none⟩=some (.int k zs[j]):=by
  intro j hj
  generalize hv:(Value.pointer (some ⟨g,0,none⟩))=vv at h1
  cases h1 with
  | eptr _ _ _ _ a hsp h0 hl hr=>
   simp only [Value.pointer.injEq,Option.some.injEq,Addr.mk.injEq] at hv
   obtain ⟨v1,v2,_⟩:=hv
   obtain ⟨hM,v,e1,e2⟩:=hr 0 j (by simpa using hj) (by simp)
   have ho:a.off=0:=by omega
   have e1':X.w.cell? ⟨g,j,none⟩=some v:=by
    rw [Nat.zero_mul,Nat.add_zero,ho,Nat.zero_add,← v1] at e1
    exact e1
   rw [e1']
   have e2':RepU X.w X.M (.int k) (U.i zs[j]) v:=by
    simpa [jA,List.getD_eq_getElem?_getD,hj] using e2
   cases e2'
   rfl
 unfold Lib.TabIs World.var?
 rw [hn]
 simp only [Option.bind_some]
 have h0:=hcell 0 (List.length_pos_iff.2 hz)
 unfold World.cell? at h0
 simp only at h0
 split at h0
 ·rename_i cs T fr hheap
  rw [hheap]
  simp only
  congr 1
  have hsz:cs.size≤zs.length:=by
   have h4:X.w.cell? ⟨g,zs.length,none⟩=none:=by
    simpa [AV.span] using h3
   unfold World.cell? at h4
   simp only [hheap] at h4
   simpa using h4
  apply Array.ext
  ·simp
   rcases Nat.lt_or_ge cs.size zs.length with hlt | hge
   ·have:=hcell cs.size hlt
    unfold World.cell? at this
    simp [hheap] at this
   ·omega
  ·intro j hj hj2
   have hjz:j<zs.length:=by omega
   have:=hcell j hjz
   unfold World.cell? at this
   simp only [hheap] at this
   simp [hj] at this
   simp [this]
 ·cases h0
theorem qzd {P:Program} {ρ:Ren} (L:LaysM.n171 P ρ) (he:ql5 P (ρ.f 171)) {gl:List (Nat × AV)} {g:Nat} (hn:P.globalNamed "internal/strconv.uint64pow10" = some g)
  (hg:(g,AV.eptr (Lib.pow10Tab.map fun _=>.int .u64) qD9 0 0) ∈ gl) :
  wi P gl (ρ.f 171) (qf { args:=[.int .i64],h:=[] } [{ res:=.str,h:=[] }] qA6):=
 qgz he rfl fun B X ps j qs vargs hs hgl hh ha hk hT=>by
  obtain ⟨n,rfl⟩:=qDL hk
  simp only [qA6] at hT
  split at hT
  ·rename_i hc
   cases hT
   have:=qys ha
   subst this
   refine ⟨rfl,rfl,rfl,(Any.strconv_Itoa L n hc.1 hc.2 X.w (qoY hn (by decide) (hgl _ hg).2)).mono fun e w' ⟨h1,k,os,h2⟩=>⟨_,h1,?_,.str _⟩⟩
   subst h2
   exact qn5 _ _ _
  ·cases hT
def qAI:List PV→TR
 | [.s s]=>if s.length≤18 then (match Lib.atoi s with | some n=>.leaf (0,[.i n]) | none=>.fail) else .fail
 | _=>.fail
theorem qyM {P:Program} {ρ:Ren} (L:Lays.n172 P ρ) (he:ql5 P (ρ.f 172)) {gl:List (Nat × AV)} :
  wi P gl (ρ.f 172) (qf { args:=[.str],h:=[] } [{ res:=.tuple [.int .i64,.any],h:=[] }] qAI):=
 qgz he rfl fun B X ps j qs vargs hs hg hh ha hk hT=>by
  obtain ⟨s,rfl⟩:=qDB hk
  simp only [qAI] at hT
  split at hT
  ·rename_i hc
   split at hT
   ·rename_i n hn
    cases hT
    have:=qy2 ha
    subst this
    refine ⟨rfl,rfl,rfl,(Any.strconv_Atoi L ⟨s.toArray⟩ n (by simpa [ByteArray.size] using hc) (by simpa using hn) X.w).mono fun e w' ⟨h1,t,h2⟩=>⟨_,h1,?_,.tuple _ _ (.cons (.int _ _) (.cons (.undef _) .nil))⟩⟩
    subst h2
    exact qvM _ _ _
   ·cases hT
  ·cases hT
def qAP (s:List UInt8):List UInt8:=q7O (q70 [48,48,48,48,48,48,48,48,48] (qF s) 9) s
def qkn (w:R):Nat→List UInt8
 | 0=>[]
 | i+1=>qAP (Lib.itoa (cI w i 0))++qkn w i
def qB8 (b:Bool) (n:Int) (w:R):List UInt8:=if n=0 then [48] else (if b then [45] else [])++Lib.itoa (cI w (n - 1) 0)++qkn w (n - 1).toNat
def qtH (n:Int) (w:R):Bool:=decide (0≤n)&&decide (n≤232)&&(List.range n.toNat).all fun i=>decide (0≤cI w i 0∧cI w i 0<1000000000)
def qAG:List PV→TR
 | [.b b,.i n,.r w]=>if qtH n w then .leaf (0,[.s (qB8 b n w),.b b,.i n,.r w]) else .fail
 | _=>.fail
end Go.Eng

namespace Go.Proofs
open Go.Shelf
def Tryz.lays219_ren:Go.Shelf.Ren:=⟨fun | 219=>212 | 217=>248 | 225=>249 | 224=>250 | 267=>251 | 266=>269 | 314=>270 | n=>n,fun | 9=>9 | 3=>3 | 4=>4 | 5=>5 | 46=>279 | 146=>295 | 51=>294 | n=>n,fun | 1=>0 | n=>n⟩
theorem Tryz.lays219:Go.Proofs.Lays.n219 Tryz.prog Tryz.lays219_ren:={
 mixed:=by kernel_rfl
 f217:=Tryz.func248.trans (congrArg some (by kernel_rfl))
 f219:=Tryz.func212.trans (congrArg some (by kernel_rfl))
 f224:=Tryz.func250.trans (congrArg some (by kernel_rfl))
 f225:=Tryz.func249.trans (congrArg some (by kernel_rfl))
 f266:=Tryz.func269.trans (congrArg some (by kernel_rfl))
 f267:=Tryz.func251.trans (congrArg some (by kernel_rfl))
 f314:=Tryz.func270.trans (congrArg some (by kernel_rfl))
 t3:=Tryz.underlying3
 a3:=Tryz.isAgg3
 z3:=Tryz.sizeOf3
 v3:=Tryz.zeroValue3
 t4:=Tryz.underlying4
 a4:=Tryz.isAgg4
 z4:=Tryz.sizeOf4
 v4:=Tryz.zeroValue4
 t5:=Tryz.underlying5
 a5:=Tryz.isAgg5
 z5:=Tryz.sizeOf5
 v5:=Tryz.zeroValue5
 t9:=Tryz.underlying9
 a9:=Tryz.isAgg9
 z9:=Tryz.sizeOf9
 v9:=Tryz.zeroValue9
 t46:=Tryz.underlying279
 a46:=Tryz.isAgg279
 z46:=Tryz.sizeOf279
 v46:=Tryz.zeroValue279
 t51:=Tryz.underlying294
 a51:=Tryz.isAgg294
 z51:=Tryz.sizeOf294
 v51:=Tryz.zeroValue294
 t146:=Tryz.underlying295
 a146:=Tryz.isAgg295
 z146:=Tryz.sizeOf295
 v146:=Tryz.zeroValue295
 g1:=by kernel_rfl }
def Tryz.lays106_ren:Go.Shelf.Ren:=⟨fun | 106=>177 | 213=>218 | 265=>255 | n=>n,fun | 9=>9 | 3=>3 | n=>n,fun | n=>n⟩
theorem Tryz.lays106:Go.Proofs.Lays.n106 Tryz.prog Tryz.lays106_ren:={
 mixed:=by kernel_rfl
 f106:=Tryz.func177.trans (congrArg some (by kernel_rfl))
 f213:=Tryz.func218.trans (congrArg some (by kernel_rfl))
 f265:=Tryz.func255.trans (congrArg some (by kernel_rfl))
 t3:=Tryz.underlying3
 a3:=Tryz.isAgg3
 z3:=Tryz.sizeOf3
 v3:=Tryz.zeroValue3
 t9:=Tryz.underlying9
 a9:=Tryz.isAgg9
 z9:=Tryz.sizeOf9
 v9:=Tryz.zeroValue9 }
def Tryz.lays160_ren:Go.Shelf.Ren:=⟨fun | 160=>131 | 232=>171 | 231=>170 | 227=>172 | 234=>174 | 233=>173 | 236=>176 | 235=>175 | 228=>214 | 271=>217 | 151=>216 | 197=>215 | 120=>254 | 152=>253 | 260=>252 | 137=>271 | 119=>272 | 224=>250 | 225=>249 | 217=>248 | 266=>269 | n=>n,fun | 9=>9 | 4=>4 | 3=>3 | 5=>5 | 117=>205 | 116=>204 | 0=>0 | 124=>208 | 21=>21 | 105=>248 | 46=>279 | 119=>297 | 139=>300 | 138=>299 | n=>n,fun | 3=>1 | 4=>2 | n=>n⟩
theorem Tryz.lays160:Go.Proofs.Lays.n160 Tryz.prog Tryz.lays160_ren:={
 mixed:=by kernel_rfl
 f119:=Tryz.func272.trans (congrArg some (by kernel_rfl))
 f120:=Tryz.func254.trans (congrArg some (by kernel_rfl))
 f137:=Tryz.func271.trans (congrArg some (by kernel_rfl))
 f151:=Tryz.func216.trans (congrArg some (by kernel_rfl))
 f152:=Tryz.func253.trans (congrArg some (by kernel_rfl))
 f160:=Tryz.func131.trans (congrArg some (by kernel_rfl))
 f197:=Tryz.func215.trans (congrArg some (by kernel_rfl))
 f217:=Tryz.func248.trans (congrArg some (by kernel_rfl))
 f224:=Tryz.func250.trans (congrArg some (by kernel_rfl))
 f225:=Tryz.func249.trans (congrArg some (by kernel_rfl))
 f227:=Tryz.func172.trans (congrArg some (by kernel_rfl))
 f228:=Tryz.func214.trans (congrArg some (by kernel_rfl))
 f231:=Tryz.func170.trans (congrArg some (by kernel_rfl))
 f232:=Tryz.func171.trans (congrArg some (by kernel_rfl))
 f233:=Tryz.func173.trans (congrArg some (by kernel_rfl))
 f234:=Tryz.func174.trans (congrArg some (by kernel_rfl))
 f235:=Tryz.func175.trans (congrArg some (by kernel_rfl))
 f236:=Tryz.func176.trans (congrArg some (by kernel_rfl))
 f260:=Tryz.func252.trans (congrArg some (by kernel_rfl))
 f266:=Tryz.func269.trans (congrArg some (by kernel_rfl))
 f271:=Tryz.func217.trans (congrArg some (by kernel_rfl))
 t0:=Tryz.underlying0
 a0:=Tryz.isAgg0
 z0:=Tryz.sizeOf0
 v0:=Tryz.zeroValue0
 t3:=Tryz.underlying3
 a3:=Tryz.isAgg3
 z3:=Tryz.sizeOf3
 v3:=Tryz.zeroValue3
 t4:=Tryz.underlying4
 a4:=Tryz.isAgg4
 z4:=Tryz.sizeOf4
 v4:=Tryz.zeroValue4
 t5:=Tryz.underlying5
 a5:=Tryz.isAgg5
 z5:=Tryz.sizeOf5
 v5:=Tryz.zeroValue5
 t9:=Tryz.underlying9
 a9:=Tryz.isAgg9
 z9:=Tryz.sizeOf9
 v9:=Tryz.zeroValue9
 t21:=Tryz.underlying21
 a21:=Tryz.isAgg21
 z21:=Tryz.sizeOf21
 v21:=Tryz.zeroValue21
 t46:=Tryz.underlying279
 a46:=Tryz.isAgg279
 z46:=Tryz.sizeOf279
 v46:=Tryz.zeroValue279
 t105:=Tryz.underlying248
 a105:=Tryz.isAgg248
 z105:=Tryz.sizeOf248
 v105:=Tryz.zeroValue248
 t116:=Tryz.underlying204
 a116:=Tryz.isAgg204
 z116:=Tryz.sizeOf204
 t117:=Tryz.underlying205
 a117:=Tryz.isAgg205
 z117:=Tryz.sizeOf205
 v117:=Tryz.zeroValue205
 t119:=Tryz.underlying297
 a119:=Tryz.isAgg297
 z119:=Tryz.sizeOf297
 t124:=Tryz.underlying208
 a124:=Tryz.isAgg208
 z124:=Tryz.sizeOf208
 v124:=Tryz.zeroValue208
 t138:=Tryz.underlying299
 a138:=Tryz.isAgg299
 z138:=Tryz.sizeOf299
 v138:=Tryz.zeroValue299
 t139:=Tryz.underlying300
 a139:=Tryz.isAgg300
 z139:=Tryz.sizeOf300
 v139:=Tryz.zeroValue300
 g3:=by kernel_rfl
 g4:=by kernel_rfl }
def Tryz.lays172_ren:Go.Shelf.Ren:=⟨fun | 172=>178 | 244=>219 | 245=>220 | 247=>256 | 279=>257 | 280=>258 | 281=>259 | 282=>260 | 287=>273 | 316=>274 | 171=>180 | 205=>275 | 321=>283 | 322=>284 | 243=>221 | 246=>261 | 283=>276 | 284=>277 | 285=>278 | 286=>279 | 129=>286 | 317=>285 | 318=>287 | 319=>288 | 320=>289 | 337=>290 | 338=>291 | n=>n,fun | 9=>9 | 3=>3 | 75=>210 | 76=>211 | 4=>4 | 5=>5 | 167=>281 | 37=>153 | 0=>0 | 85=>282 | 2=>2 | 168=>284 | 53=>302 | 175=>303 | 46=>279 | 210=>306 | 127=>253 | 145=>318 | 143=>316 | 21=>21 | 171=>308 | 173=>311 | 212=>320 | 51=>294 | 20=>20 | 213=>321 | 232=>324 | 233=>325 | 80=>222 | n=>n,fun | 15=>3 | 16=>4 | 17=>5 | 18=>6 | 19=>7 | n=>n⟩
theorem Tryz.lays172:Go.Proofs.Lays.n172 Tryz.prog Tryz.lays172_ren:={
 mixed:=by kernel_rfl
 f129:=Tryz.func286.trans (congrArg some (by kernel_rfl))
 f171:=Tryz.func180.trans (congrArg some (by kernel_rfl))
 f172:=Tryz.func178.trans (congrArg some (by kernel_rfl))
 f205:=Tryz.func275.trans (congrArg some (by kernel_rfl))
 f243:=Tryz.func221.trans (congrArg some (by kernel_rfl))
 f244:=Tryz.func219.trans (congrArg some (by kernel_rfl))
 f245:=Tryz.func220.trans (congrArg some (by kernel_rfl))
 f246:=Tryz.func261.trans (congrArg some (by kernel_rfl))
 f247:=Tryz.func256.trans (congrArg some (by kernel_rfl))
 f279:=Tryz.func257.trans (congrArg some (by kernel_rfl))
 f280:=Tryz.func258.trans (congrArg some (by kernel_rfl))
 f281:=Tryz.func259.trans (congrArg some (by kernel_rfl))
 f282:=Tryz.func260.trans (congrArg some (by kernel_rfl))
 f283:=Tryz.func276.trans (congrArg some (by kernel_rfl))
 f284:=Tryz.func277.trans (congrArg some (by kernel_rfl))
 f285:=Tryz.func278.trans (congrArg some (by kernel_rfl))
 f286:=Tryz.func279.trans (congrArg some (by kernel_rfl))
 f287:=Tryz.func273.trans (congrArg some (by kernel_rfl))
 f316:=Tryz.func274.trans (congrArg some (by kernel_rfl))
 f317:=Tryz.func285.trans (congrArg some (by kernel_rfl))
 f318:=Tryz.func287.trans (congrArg some (by kernel_rfl))
 f319:=Tryz.func288.trans (congrArg some (by kernel_rfl))
 f320:=Tryz.func289.trans (congrArg some (by kernel_rfl))
 f321:=Tryz.func283.trans (congrArg some (by kernel_rfl))
 f322:=Tryz.func284.trans (congrArg some (by kernel_rfl))
 f337:=Tryz.func290.trans (congrArg some (by kernel_rfl))
 f338:=Tryz.func291.trans (congrArg some (by kernel_rfl))
 t0:=Tryz.underlying0
 a0:=Tryz.isAgg0
 z0:=Tryz.sizeOf0
 v0:=Tryz.zeroValue0
 t2:=Tryz.underlying2
 a2:=Tryz.isAgg2
 z2:=Tryz.sizeOf2
 v2:=Tryz.zeroValue2
 t3:=Tryz.underlying3
 a3:=Tryz.isAgg3
 z3:=Tryz.sizeOf3
 v3:=Tryz.zeroValue3
 t4:=Tryz.underlying4
 a4:=Tryz.isAgg4
 z4:=Tryz.sizeOf4
 v4:=Tryz.zeroValue4
 t5:=Tryz.underlying5
 a5:=Tryz.isAgg5
 z5:=Tryz.sizeOf5
 v5:=Tryz.zeroValue5
 t9:=Tryz.underlying9
 a9:=Tryz.isAgg9
 z9:=Tryz.sizeOf9
 v9:=Tryz.zeroValue9
 t20:=Tryz.underlying20
 a20:=Tryz.isAgg20
 z20:=Tryz.sizeOf20
 v20:=Tryz.zeroValue20
 t21:=Tryz.underlying21
 a21:=Tryz.isAgg21
 z21:=Tryz.sizeOf21
 v21:=Tryz.zeroValue21
 t37:=Tryz.underlying153
 a37:=Tryz.isAgg153
 z37:=Tryz.sizeOf153
 v37:=Tryz.zeroValue153
 t46:=Tryz.underlying279
 a46:=Tryz.isAgg279
 z46:=Tryz.sizeOf279
 v46:=Tryz.zeroValue279
 t51:=Tryz.underlying294
 a51:=Tryz.isAgg294
 z51:=Tryz.sizeOf294
 v51:=Tryz.zeroValue294
 t53:=Tryz.underlying302
 a53:=Tryz.isAgg302
 z53:=Tryz.sizeOf302
 v53:=Tryz.zeroValue302
 t75:=Tryz.underlying210
 a75:=Tryz.isAgg210
 z75:=Tryz.sizeOf210
 v75:=Tryz.zeroValue210
 t76:=Tryz.underlying211
 a76:=Tryz.isAgg211
 z76:=Tryz.sizeOf211
 v76:=Tryz.zeroValue211
 t85:=Tryz.underlying282
 a85:=Tryz.isAgg282
 z85:=Tryz.sizeOf282
 v85:=Tryz.zeroValue282
 t127:=Tryz.underlying253
 a127:=Tryz.isAgg253
 z127:=Tryz.sizeOf253
 v127:=Tryz.zeroValue253
 t143:=Tryz.underlying316
 a143:=Tryz.isAgg316
 z143:=Tryz.sizeOf316
 v143:=Tryz.zeroValue316
 t145:=Tryz.underlying318
 a145:=Tryz.isAgg318
 z145:=Tryz.sizeOf318
 v145:=Tryz.zeroValue318
 t167:=Tryz.underlying281
 a167:=Tryz.isAgg281
 z167:=Tryz.sizeOf281
 v167:=Tryz.zeroValue281
 t168:=Tryz.underlying284
 a168:=Tryz.isAgg284
 z168:=Tryz.sizeOf284
 v168:=Tryz.zeroValue284
 t171:=Tryz.underlying308
 a171:=Tryz.isAgg308
 z171:=Tryz.sizeOf308
 v171:=Tryz.zeroValue308
 t173:=Tryz.underlying311
 a173:=Tryz.isAgg311
 z173:=Tryz.sizeOf311
 v173:=Tryz.zeroValue311
 t175:=Tryz.underlying303
 a175:=Tryz.isAgg303
 z175:=Tryz.sizeOf303
 v175:=Tryz.zeroValue303
 t210:=Tryz.underlying306
 a210:=Tryz.isAgg306
 z210:=Tryz.sizeOf306
 v210:=Tryz.zeroValue306
 t212:=Tryz.underlying320
 a212:=Tryz.isAgg320
 z212:=Tryz.sizeOf320
 v212:=Tryz.zeroValue320
 t213:=Tryz.underlying321
 a213:=Tryz.isAgg321
 z213:=Tryz.sizeOf321
 t232:=Tryz.underlying324
 a232:=Tryz.isAgg324
 z232:=Tryz.sizeOf324
 v232:=Tryz.zeroValue324
 t233:=Tryz.underlying325
 a233:=Tryz.isAgg325
 z233:=Tryz.sizeOf325
 v233:=Tryz.zeroValue325
 g15:=by kernel_rfl
 g16:=by kernel_rfl
 g17:=by kernel_rfl
 g18:=by kernel_rfl
 g19:=by kernel_rfl }
def Tryz.lays169_ren:Go.Shelf.Ren:=⟨fun | 169=>186 | n=>n,fun | 70=>218 | 9=>9 | 0=>0 | 72=>220 | 37=>153 | 127=>253 | 3=>3 | 5=>5 | n=>n,fun | n=>n⟩
theorem Tryz.lays169:Go.Proofs.Lays.n169 Tryz.prog Tryz.lays169_ren:={
 mixed:=by kernel_rfl
 f169:=Tryz.func186.trans (congrArg some (by kernel_rfl))
 t0:=Tryz.underlying0
 a0:=Tryz.isAgg0
 z0:=Tryz.sizeOf0
 v0:=Tryz.zeroValue0
 t3:=Tryz.underlying3
 a3:=Tryz.isAgg3
 z3:=Tryz.sizeOf3
 v3:=Tryz.zeroValue3
 t9:=Tryz.underlying9
 a9:=Tryz.isAgg9
 z9:=Tryz.sizeOf9
 v9:=Tryz.zeroValue9
 t37:=Tryz.underlying153
 a37:=Tryz.isAgg153
 z37:=Tryz.sizeOf153
 v37:=Tryz.zeroValue153
 t70:=Tryz.underlying218
 a70:=Tryz.isAgg218
 z70:=Tryz.sizeOf218
 v70:=Tryz.zeroValue218
 t72:=Tryz.underlying220
 a72:=Tryz.isAgg220
 z72:=Tryz.sizeOf220
 v72:=Tryz.zeroValue220
 t127:=Tryz.underlying253
 a127:=Tryz.isAgg253
 z127:=Tryz.sizeOf253
 v127:=Tryz.zeroValue253 }
def Tryz.laysM171_ren:Go.Shelf.Ren:=⟨fun | 171=>180 | 243=>221 | 246=>261 | 283=>276 | 284=>277 | 285=>278 | 286=>279 | 129=>286 | 317=>285 | 318=>287 | 319=>288 | 320=>289 | 337=>290 | 338=>291 | n=>n,fun | 3=>3 | 9=>9 | 2=>2 | 4=>4 | 171=>308 | 0=>0 | 53=>302 | 37=>153 | 5=>5 | 173=>311 | 212=>320 | 51=>294 | 20=>20 | 213=>321 | 46=>279 | 232=>324 | 233=>325 | n=>n,fun | 17=>5 | 18=>6 | 19=>7 | n=>n⟩
theorem Tryz.laysM171:Go.Proofs.LaysM.n171 Tryz.prog Tryz.laysM171_ren:={
 mixed:=by kernel_rfl
 f129:=Tryz.func286.trans (congrArg some (by kernel_rfl))
 f171:=Tryz.func180.trans (congrArg some (by kernel_rfl))
 f243:=Tryz.func221.trans (congrArg some (by kernel_rfl))
 f246:=Tryz.func261.trans (congrArg some (by kernel_rfl))
 f283:=Tryz.func276.trans (congrArg some (by kernel_rfl))
 f284:=Tryz.func277.trans (congrArg some (by kernel_rfl))
 f285:=Tryz.func278.trans (congrArg some (by kernel_rfl))
 f286:=Tryz.func279.trans (congrArg some (by kernel_rfl))
 f317:=Tryz.func285.trans (congrArg some (by kernel_rfl))
 f318:=Tryz.func287.trans (congrArg some (by kernel_rfl))
 f319:=Tryz.func288.trans (congrArg some (by kernel_rfl))
 f320:=Tryz.func289.trans (congrArg some (by kernel_rfl))
 f337:=Tryz.func290.trans (congrArg some (by kernel_rfl))
 f338:=Tryz.func291.trans (congrArg some (by kernel_rfl))
 t0:=Tryz.underlying0
 a0:=Tryz.isAgg0
 z0:=Tryz.sizeOf0
 v0:=Tryz.zeroValue0
 t2:=Tryz.underlying2
 a2:=Tryz.isAgg2
 z2:=Tryz.sizeOf2
 v2:=Tryz.zeroValue2
 t3:=Tryz.underlying3
 a3:=Tryz.isAgg3
 z3:=Tryz.sizeOf3
 v3:=Tryz.zeroValue3
 t4:=Tryz.underlying4
 a4:=Tryz.isAgg4
 z4:=Tryz.sizeOf4
 v4:=Tryz.zeroValue4
 t5:=Tryz.underlying5
 a5:=Tryz.isAgg5
 z5:=Tryz.sizeOf5
 v5:=Tryz.zeroValue5
 t9:=Tryz.underlying9
 a9:=Tryz.isAgg9
 z9:=Tryz.sizeOf9
 v9:=Tryz.zeroValue9
 t20:=Tryz.underlying20
 a20:=Tryz.isAgg20
 z20:=Tryz.sizeOf20
 v20:=Tryz.zeroValue20
 t37:=Tryz.underlying153
 a37:=Tryz.isAgg153
 z37:=Tryz.sizeOf153
 v37:=Tryz.zeroValue153
 t46:=Tryz.underlying279
 a46:=Tryz.isAgg279
 z46:=Tryz.sizeOf279
 v46:=Tryz.zeroValue279
 t51:=Tryz.underlying294
 a51:=Tryz.isAgg294
 z51:=Tryz.sizeOf294
 v51:=Tryz.zeroValue294
 t53:=Tryz.underlying302
 a53:=Tryz.isAgg302
 z53:=Tryz.sizeOf302
 v53:=Tryz.zeroValue302
 t171:=Tryz.underlying308
 a171:=Tryz.isAgg308
 z171:=Tryz.sizeOf308
 v171:=Tryz.zeroValue308
 t173:=Tryz.underlying311
 a173:=Tryz.isAgg311
 z173:=Tryz.sizeOf311
 v173:=Tryz.zeroValue311
 t212:=Tryz.underlying320
 a212:=Tryz.isAgg320
 z212:=Tryz.sizeOf320
 v212:=Tryz.zeroValue320
 t213:=Tryz.underlying321
 a213:=Tryz.isAgg321
 z213:=Tryz.sizeOf321
 t232:=Tryz.underlying324
 a232:=Tryz.isAgg324
 z232:=Tryz.sizeOf324
 v232:=Tryz.zeroValue324
 t233:=Tryz.underlying325
 a233:=Tryz.isAgg325
 z233:=Tryz.sizeOf325
 v233:=Tryz.zeroValue325
 g17:=by kernel_rfl
 g18:=by kernel_rfl
 g19:=by kernel_rfl
 i0:=by kernel_rfl
 i2:=by kernel_rfl
 i3:=by kernel_rfl
 i4:=by kernel_rfl
 i5:=by kernel_rfl
 i9:=by kernel_rfl
 i20:=by kernel_rfl
 i37:=by kernel_rfl
 i46:=by kernel_rfl
 i51:=by kernel_rfl
 i53:=by kernel_rfl
 i171:=by kernel_rfl
 i173:=by kernel_rfl
 i212:=by kernel_rfl
 i232:=by kernel_rfl
 i233:=by kernel_rfl
 m17:=by kernel_rfl
 m18:=by kernel_rfl
 m19:=by kernel_rfl }
end Go.Proofs

namespace Go.Eng
open Go.Shelf Go.RowKit Go.Proofs
set_option maxHeartbeats 2000000 in
set_option maxRecDepth 100000 in
theorem qC7 (b:Nat) (w:World) (h0:w.cell? ⟨b,0,none⟩=some (.pointer (some ⟨b,0,none⟩))) :
  Calls Tryz.prog 223 #[.pointer (some ⟨b,0,none⟩)] w fun e w'=>e=.returned (.tuple #[])∧w'=w:=by
 obtain ⟨j,hj,_⟩:=Option.map_eq_some_iff.1 (show (Tryz.prog.info? 220).map (·.size)=some 2 by kernel_rfl)
 go_enter Tryz.func223,Tryz.ntmps223
 go_wp2
 rw [Lib.run_neq_ptr_same w ⟨b,0,none⟩ Tryz.underlying218 hj]
 go_wp2
 go_end0
 exact ⟨rfl,rfl⟩
set_option maxHeartbeats 2000000 in
set_option maxRecDepth 100000 in
theorem qBy (b:Nat) (w:World) (h0:w.cell? ⟨b,0,none⟩=some (.pointer none)) (hsh:w.shape? b=some (220,2)) (hfz:w.frozen? ⟨b,0,none⟩=false) :
  Calls Tryz.prog 223 #[.pointer (some ⟨b,0,none⟩)] w fun e w'=>e=.returned (.tuple #[])∧w'=w.setCell ⟨b,0,none⟩ (.pointer (some ⟨b,0,none⟩)):=by
 obtain ⟨j,hj,hjs⟩:=Option.map_eq_some_iff.1 (show (Tryz.prog.info? 220).map (·.size)=some 2 by kernel_rfl)
 go_enter Tryz.func223,Tryz.ntmps223
 go_wp2
 rw [Lib.run_to_unsafe w ⟨b,0,none⟩ Tryz.underlying218 Tryz.underlying288 hj (by rw [hjs];decide) hsh (Nat.zero_lt_succ 1)]
 simp only [Result.andThen]
 rw [Oper.upon_value]
 go_wp2
 rw [run_callFunc_extern Tryz.func262 (by kernel_rfl) (by kernel_rfl) (by kernel_rfl) (e:=Extern.AbiNoEscape.same) (by kernel_rfl)]
 rw [Lib.run_noEscape]
 simp only [Result.andThen]
 rw [Oper.upon_value]
 go_wp2
 rw [Lib.run_from_unsafe w ⟨b,0,none⟩ Tryz.underlying288 Tryz.underlying218 hj hsh (by kernel_rfl)]
 simp only [Result.andThen]
 rw [Oper.upon_value]
 go_wp2
 go_end0
 exact ⟨rfl,rfl⟩
abbrev BtB (B b:Nat) (bs:List Value) (w:World):Prop:=Lib.IsBuilder 220 5 B b bs w
set_option maxHeartbeats 2000000 in
set_option maxRecDepth 100000 in
theorem qvJ (B b:Nat) (bs:List Value) (w:World) (h:BtB B b bs w) :
  Calls Tryz.prog 223 #[.pointer (some ⟨b,0,none⟩)] w fun e w'=>e=.returned (.tuple #[])∧Lib.BuilderAt 220 5 B b (.pointer (some ⟨b,0,none⟩)) bs w'∧Below B w w':=by
 rcases h with h | h
 ·refine (qBy b w h.cell0 h.shape h.frozen0).mono ?_
  rintro e w' ⟨rfl,rfl⟩
  exact ⟨rfl,h.used _,(Below.refl B w).setCell (p:=⟨b,0,none⟩) h.1 _⟩
 ·refine (qC7 b w h.cell0).mono ?_
  rintro e w' ⟨rfl,rfl⟩
  exact ⟨rfl,h,Below.refl B _⟩
set_option maxHeartbeats 2000000 in
set_option maxRecDepth 100000 in
theorem qCs (B b:Nat) (bs:List Value) (c:Int) (w:World) (h:BtB B b bs w) (hlen:bs.length+1≤140737488355328) (hBw:B≤w.heap.size) :
  Calls Tryz.prog 184 #[.pointer (some ⟨b,0,none⟩),.int .u8 c] w fun e w'=>e=.returned .nilIface∧BtB B b (bs++[.int .u8 c]) w'∧Below B w w':=by
 obtain ⟨i0,hi,hz0,hz1,hz2⟩:=info_parts (show (Tryz.prog.info? 5).map (fun i=>(i.zero,i.size,i.bytes))=some (some (.int .u8 0),1,1) by kernel_rfl)
 go_enter Tryz.func184,Tryz.ntmps184
 go_wp2_with (go_at_call 223;refine (qvJ B b bs _ h).mono ?_)
 rintro e w1 ⟨rfl,h1,hb1⟩
 obtain ⟨hB,v,hbk,hown,hne⟩:=h1
 have c0:w1.cell? ⟨b,0,none⟩=some (.pointer (some ⟨b,0,none⟩)):=by rw [Lib.cell_of_heap hbk];rfl
 have c1:w1.cell? ⟨b,1,none⟩=some v:=by rw [Lib.cell_of_heap hbk];rfl
 have hsz1:=hb1.size
 go_wp2_with (at_builtin;refine wpList_append_own _ rfl _ _ 153 rfl B 5 i0 (.int .u8 0) 1 1 Tryz.underlying153 hi hz0 hz1 hz2 rfl (by decide) _ _ _ rfl (hown.alloc _) ⟨w1.heap.size,0,none⟩ 1 1 [.int .u8 c] rfl rfl ?c1 ?c2 ?c3 ?c4 ?c5 ?_)
 case c1=>
  intro j u hj
  match j,hj with
  | 0,hj=>simp at hj;subst hj;simp [Addr.add]
 case c2=>intro u hu;simp at hu;subst hu;rfl
 case c3=>unfold maxLen;omega
 case c4=>omega
 case c5=>simp;omega
 intro v' w2 hown' hgrow _
 have hlt:b<w1.heap.size:=by
  rcases Nat.lt_or_ge b w1.heap.size with h' | h'
  ·exact h'
  ·simp [Array.getElem?_eq_none h'] at hbk
 have hb2:w2.heap[b]?=some (.cells #[.pointer (some ⟨b,0,none⟩),v] 220 (0,0)):=by
  rw [hgrow.block b (by simp;omega) (fun e=>hne e.symm),Lib.alloc_old w1 _ b hlt]
  exact hbk
 have d0:w2.cell? ⟨b,0,none⟩=some (.pointer (some ⟨b,0,none⟩)):=by rw [Lib.cell_of_heap hb2];rfl
 have d1:w2.cell? ⟨b,1,none⟩=some v:=by rw [Lib.cell_of_heap hb2];rfl
 have f1:w2.frozen? ⟨b,1,none⟩=false:=Lib.frozen_of_heap hb2 1
 obtain ⟨ao,n',cap,rfl⟩:∃ ao n' cap,v'=.slice ao n' cap:=by
  rcases hown'.2 with ⟨hv,_⟩ | ⟨g,cap,cur,hv,_⟩
  ·exact ⟨_,_,_,hv⟩
  ·exact ⟨_,_,_,hv⟩
 go_wp2
 go_ret
 refine ⟨rfl,.inr ?_,?_⟩
 ·exact Lib.BuilderAt.put (T:=220) (e:=5) hB hb2 (bs':=bs++[.int .u8 c]) (by simpa using hown') (by decide)
 ·exact ((hb1.alloc (by omega) _).grown hgrow (by simp;omega) (fun k hk=>(hown.lt k hk).1)).setCell (p:=⟨b,1,none⟩) hB _
set_option maxHeartbeats 2000000 in
set_option maxRecDepth 100000 in
theorem qAk (B b:Nat) (bs:List Value) (s:ByteArray) (w:World) (h:BtB B b bs w) (hlen:bs.length+s.size≤140737488355328) (hBw:B≤w.heap.size) :
  Calls Tryz.prog 185 #[.pointer (some ⟨b,0,none⟩),.string s] w fun e w'=>e=.returned (.tuple #[.int .i64 s.size,.nilIface])∧BtB B b (bs++Lib.strCells s) w'∧Below B w w':=by
 obtain ⟨i0,hi,hz0,hz1,hz2⟩:=info_parts (show (Tryz.prog.info? 5).map (fun i=>(i.zero,i.size,i.bytes))=some (some (.int .u8 0),1,1) by kernel_rfl)
 go_enter Tryz.func185,Tryz.ntmps185
 go_wp2_with (go_at_call 223;refine (qvJ B b bs _ h).mono ?_)
 rintro e w1 ⟨rfl,h1,hb1⟩
 obtain ⟨hB,v,hbk,hown,hne⟩:=h1
 have c0:w1.cell? ⟨b,0,none⟩=some (.pointer (some ⟨b,0,none⟩)):=by rw [Lib.cell_of_heap hbk];rfl
 have c1:w1.cell? ⟨b,1,none⟩=some v:=by rw [Lib.cell_of_heap hbk];rfl
 have hsz1:=hb1.size
 go_wp2_with (at_builtin;refine Lib.wpList_append_own_string _ rfl _ _ 153 9 rfl B 5 i0 Tryz.underlying153 Tryz.underlying9 hi hz0 hz1 hz2 _ _ _ rfl hown s rfl ?c3 ?c4 ?c5 ?_)
 case c3=>unfold maxLen;omega
 case c4=>omega
 case c5=>omega
 intro v' w2 hown' hgrow _
 have hlt:b<w1.heap.size:=by
  rcases Nat.lt_or_ge b w1.heap.size with h' | h'
  ·exact h'
  ·simp [Array.getElem?_eq_none h'] at hbk
 have hb2:w2.heap[b]?=some (.cells #[.pointer (some ⟨b,0,none⟩),v] 220 (0,0)):=by
  rw [hgrow.block b hlt (fun e=>hne e.symm)]
  exact hbk
 have d0:w2.cell? ⟨b,0,none⟩=some (.pointer (some ⟨b,0,none⟩)):=by rw [Lib.cell_of_heap hb2];rfl
 have d1:w2.cell? ⟨b,1,none⟩=some v:=by rw [Lib.cell_of_heap hb2];rfl
 have f1:w2.frozen? ⟨b,1,none⟩=false:=Lib.frozen_of_heap hb2 1
 obtain ⟨ao,n',cap,rfl⟩:∃ ao n' cap,v'=.slice ao n' cap:=by
  rcases hown'.2 with ⟨hv,_⟩ | ⟨g,cap,cur,hv,_⟩
  ·exact ⟨_,_,_,hv⟩
  ·exact ⟨_,_,_,hv⟩
 go_wp2
 go_ret2
 refine ⟨rfl,.inr ?_,?_⟩
 ·exact Lib.BuilderAt.put (T:=220) (e:=5) hB hb2 (bs':=bs++Lib.strCells s) (by simpa [Lib.strCells_length] using hown') (by decide)
 ·exact (hb1.grown hgrow (by omega) (fun k hk=>(hown.lt k hk).1)).setCell (p:=⟨b,1,none⟩) hB _
theorem qB4:Builder.Extra Tryz.prog Tryz.lays169_ren where
 sizeBuilder:=by kernel_rfl
 liesBuilder:=by kernel_rfl
 t5:=Tryz.underlying5
 a5:=Tryz.isAgg5
 z5:=Tryz.sizeOf5
 v5:=Tryz.zeroValue5
 infoByte:=by kernel_rfl
 cellsByte:=by kernel_rfl
 sizeByte:=by kernel_rfl
 neB5:=by decide
set_option maxHeartbeats 2000000 in
set_option maxRecDepth 100000 in
theorem qyF (B b:Nat) (l:List UInt8) (w:World) (h:BtB B b (Lib.byteCells l) w) (h0:l≠[]) :
  Calls Tryz.prog 186 #[.pointer (some ⟨b,0,none⟩)] w fun e w'=>e=.returned (.string ⟨l.toArray⟩)∧Below B w w':=
 Any.Builder_String Tryz.lays169 qB4 B b l w h h0
def qkW (f:Nat→Int):Nat→List UInt8
 | 0=>[]
 | i+1=>qAP (Lib.itoa (f i))++qkW f i
def qy6 (b:Bool) (n:Nat) (f:Nat→Int):List UInt8:=if n=0 then [48] else (if b then [45] else [])++Lib.itoa (f (n - 1))++qkW f (n - 1)
theorem qxK (n:Int) (h:-9223372036854775808≤n∧n≤9223372036854775807) (w:World) (ht:Lib.TabIs Tryz.prog w "internal/strconv.uint64pow10" .u64 Lib.pow10Tab) :
  Calls Tryz.prog 180 #[.int .i64 n] w fun e w'=>e=.returned (.string ⟨(Lib.itoa n).toArray⟩)∧Below w.heap.size w w':=
 (Any.strconv_Itoa Tryz.laysM171 n h.1 h.2 w ht).mono fun e w' ⟨h1,k,os,h2⟩=>⟨h1,by subst h2;exact qn5 _ _ _⟩
theorem qq0 {P:Program} {w w':World} {name:String} {k:IntKind} {zs:List Int} (h:Lib.TabIs P w name k zs) (hb:Below w.heap.size w w'):Lib.TabIs P w' name k zs:=by
 unfold Lib.TabIs World.var? at *
 cases hg:P.globalNamed name with
 | none=>rw [hg] at h;cases h
 | some g=>
  rw [hg] at h
  simp only [Option.bind_some] at h ⊢
  by_cases hlt:g<w.heap.size
  ·rw [hb.block g hlt];exact h
  ·rw [Array.getElem?_eq_none (by omega)] at h;cases h
theorem qgN {w w':World} (hb:Below w.heap.size w w') {n:Nat} (hn:n<w.heap.size) (o:Nat):w'.cell? ⟨n,o,none⟩=w.cell? ⟨n,o,none⟩:=World.cell?_of_block (hb.block n hn)
theorem quZ {B b:Nat} {bs:List Value} {w w':World} (h:BtB B b bs w) (hb:Below w.heap.size w w'):BtB B b bs w':=by
 have key:∀ p,Lib.BuilderAt 220 5 B b p bs w→Lib.BuilderAt 220 5 B b p bs w':=by
  intro p h
  have hlt:=h.lt
  obtain ⟨hB,v,hbk,⟨hl,hown⟩,hne⟩:=h
  refine ⟨hB,v,(hb.block b hlt).trans hbk,⟨hl,?_⟩,hne⟩
  rcases hown with h | ⟨g,cap,cur,h1,h2,h3,h4⟩
  ·exact .inl h
  ·exact .inr ⟨g,cap,cur,h1,h2,(hb.block g (Array.getElem?_eq_some_iff.1 h3).1).trans h3,h4⟩
 exact h.elim (fun x=>.inl (key _ x)) (fun x=>.inr (key _ x))
theorem qCC {B b:Nat} {bs:List Value} {w:World} (h:BtB B b bs w):BtB B b bs w.drew:=h.elim (fun x=>.inl x.drew) (fun x=>.inr x.drew)
theorem qzX:∀ (k n:Nat),n<10 ^ (k+1)→(Lib.decDigits n).length≤k+1
 | 0,n,h=>by rw [Lib.decDigits,dif_pos (by omega)];simp
 | k+1,n,h=>by
  rw [Lib.decDigits]
  split
  ·simp
  ·have:=qzX k (n / 10) (by rw [Nat.pow_succ] at h;omega)
   simp;omega
theorem qBV {pre l:List UInt8} {k:Nat} (hp:pre.length≤k) (hl:l.length≤9) (hk:k≤100000:=by omega):(Lib.byteCells pre).length+(⟨l.toArray⟩:ByteArray).size≤140737488355328:=by
 rw [Lib.byteCells_length]
 have:(⟨l.toArray⟩:ByteArray).size=l.length:=by simp [ByteArray.size]
 omega
theorem qy0 {x:Int} (h:0≤x∧x<1000000000):(Lib.itoa x).length≤9:=by
 unfold Lib.itoa
 rw [if_neg (by omega)]
 exact qzX 8 _ (by omega)
theorem qyk {l:List UInt8} (h:l.length≤9):(qAP l).length=9:=by
 unfold qAP q7O q70 qF
 simp;omega
theorem qAH {l:List UInt8} (h:l.length≤9):(⟨#[48,48,48,48,48,48,48,48,48]⟩:ByteArray).extract l.length 9++⟨l.toArray⟩=⟨(qAP l).toArray⟩:=by
 have key:∀ k:Nat,k≤9→(⟨#[48,48,48,48,48,48,48,48,48]⟩:ByteArray).extract k 9=⟨(q70 [48,48,48,48,48,48,48,48,48] (k:Int) 9).toArray⟩:=by
  intro k hk
  have:k=0∨k=1∨k=2∨k=3∨k=4∨k=5∨k=6∨k=7∨k=8∨k=9:=by omega
  rcases this with rfl | rfl | rfl | rfl | rfl | rfl | rfl | rfl | rfl | rfl <;> rfl
 rw [key _ h]
 unfold qAP q7O qF
 apply ByteArray.ext
 simp
theorem qAn (l:List UInt8):Lib.strCells ⟨l.toArray⟩=Lib.byteCells l:=rfl
theorem qCt (x:Int):0<(Lib.itoa x).length:=by
 unfold Lib.itoa
 split
 ·simp
 ·rw [Lib.decDigits];split <;> simp
set_option maxHeartbeats 4000000 in
set_option maxRecDepth 1000000 in
theorem qCK (n0:Nat) (b:Bool) (n:Nat) (f:Nat→Int) (w:World) (hlt:n0<w.heap.size) (h0:w.cell? ⟨n0,0,none⟩=some (.bool b)) (h1:w.cell? ⟨n0,1,none⟩=some (.int .i64 (n:Int))) (hw:∀ i,i<232→w.cell? ⟨n0,2+i,none⟩=some (.int .i64 (f i)))
  (hn:n≤232) (hf:∀ i,i<n→0≤f i∧f i<1000000000) (ht:Lib.TabIs Tryz.prog w "internal/strconv.uint64pow10" .u64 Lib.pow10Tab) :
  Calls Tryz.prog 138 #[.pointer (some ⟨n0,0,none⟩)] w fun e w'=>e=.returned (.string ⟨(qy6 b n f).toArray⟩)∧Below w.heap.size w w':=by
 rcases Nat.eq_zero_or_pos n with rfl | hpos
 ·go_enter Tryz.func138,Tryz.ntmps138
  go_wp2
  go_ret
  exact ⟨rfl,Below.refl _ _⟩
 obtain ⟨m,rfl⟩:∃ m,n=m+1:=⟨n - 1,by omega⟩
 have hne:(((m+1:Nat):Int)==0)=false:=by simp;omega
 have w1:IntKind.i64.wrap (((m+1:Nat):Int) - 1)=(m:Int):=by unfold IntKind.wrap;simp [IntKind.signed,IntKind.bits];omega
 have w1':IntKind.i64.wrap (m:Int)=(m:Int):=by unfold IntKind.wrap;simp [IntKind.signed,IntKind.bits];omega
 have hi:0≤(m:Int)∧(m:Int)<232:=by omega
 have hwm:=hw m (by omega)
 have w2:IntKind.i64.wrap (((m+1:Nat):Int) - 2)=(m:Int) - 1:=by unfold IntKind.wrap;simp [IntKind.signed,IntKind.bits];omega
 have hitm:=qy0 (hf m (by omega))
 cases b
 case' false=>
  go_enter Tryz.func138,Tryz.ntmps138
  go_wp2
  have hB0:=Lib.fresh_isBuilder 220 5 w
  have hb0:=(Below.refl w.heap.size w).alloc (Nat.le_refl _) (.cells #[.pointer none,.slice none 0 0] 220)
  generalize w.alloc (.cells #[.pointer none,.slice none 0 0] 220)=W0 at *
  obtain ⟨pre,hpre⟩:∃ pre:List UInt8,pre=if false=true then [45] else []:=⟨_,rfl⟩
  replace hB0:BtB w.heap.size w.heap.size (Lib.byteCells pre) W0:=by subst hpre;exact hB0
 case' true=>
  go_enter Tryz.func138,Tryz.ntmps138
  go_wp2_with (go_at_call 184;refine (qCs w.heap.size w.heap.size [] 45 _ (Lib.fresh_isBuilder 220 5 w) (by simp) (by simp)).mono ?_)
  rintro e W0 ⟨rfl,hB0,hb0⟩
  replace hb0:=((Below.refl w.heap.size w).alloc (Nat.le_refl _) (.cells #[.pointer none,.slice none 0 0] 220)).trans hb0
  obtain ⟨pre,hpre⟩:∃ pre:List UInt8,pre=if true=true then [45] else []:=⟨_,rfl⟩
  replace hB0:BtB w.heap.size w.heap.size (Lib.byteCells pre) W0:=by subst hpre;exact hB0
  go_wp2
 all_goals
  have hp1:pre.length≤1:=by subst hpre;split <;> simp
  have hs0:=hb0.size
  have d1:=(qgN hb0 hlt 1).trans h1
  have dm:=(qgN hb0 hlt (2+m)).trans hwm
  go_region_with (first
   | (go_at_call 180;refine (qxK (f m) (by have:=hf m (by omega);omega) _ (qq0 ht hb0.drew)).mono ?_;rintro e W1 ⟨rfl,b1⟩)
   | (go_at_call 185;refine (qAk w.heap.size w.heap.size _ _ _ (quZ (qCC hB0) b1) (qBV hp1 hitm) (Nat.le_trans hs0 b1.size)).mono ?_;rintro e W2 ⟨rfl,hB2,b2⟩))
  have b02:Below w.heap.size w W2:=(hb0.drew.trans (b1.mono hs0)).trans b2
  have e1:=(qgN b02 hlt 1).trans h1
  replace hB2:BtB w.heap.size w.heap.size (Lib.byteCells (pre++Lib.itoa (f m))) W2:=by rw [Lib.byteCells_append];exact hB2
  go_wp2
  go_loopw [4] (fun vi wr=>∃ (k:Nat) (acc:List UInt8),vi=.int .i64 ((k:Int) - 1)∧k≤m∧BtB w.heap.size w.heap.size (Lib.byteCells acc) wr∧Below w.heap.size w wr∧acc++qkW f k=pre++Lib.itoa (f m)++qkW f m∧acc.length≤10+9*(m - k)) (fun vi _=>(intOf vi+1).toNat)
  case atStart=>exact ⟨m,_,by congr 1 <;> omega,Nat.le_refl _,hB2,b02,rfl,by simp;omega⟩
  case round=>
   obtain ⟨k,acc,rfl,hkm,hI,hbw,hacc,hal⟩:=hrel
   have hbs:=hbw.size
   rcases Nat.eq_zero_or_pos k with rfl | hk0
   ·go_wp2_with (go_at_call 186;refine (qyF w.heap.size w.heap.size acc _ hI ?hne).mono ?_)
    case hne=>
     intro h0
     subst h0
     have:=congrArg List.length hacc
     have h9:=qCt (f m)
     simp [qkW] at this
     omega
    rintro e W3 ⟨rfl,b3⟩
    go_wp2
    go_ret
    refine ⟨?_,hbw.trans b3⟩
    simp only [qkW,List.append_nil] at hacc
    rw [hacc,hpre]
    simp [qy6]
   ·obtain ⟨q,rfl⟩:∃ q,k=q+1:=⟨k - 1,by omega⟩
    have x1:(((q+1:Nat):Int) - 1)=(q:Int):=by omega
    have x2:(0:Int)≤(q:Int)∧(q:Int)<232:=by omega
    have x3:(q:Int).toNat=q:=Int.toNat_natCast q
    have dq:=(qgN hbw hlt (2+q)).trans (hw q (by omega))
    have hq9:=qy0 (hf q (by omega))
    rw [x1]
    go_wp2_with (go_at_call 180;refine (qxK (f q) (by have:=hf q (by omega);omega) _ (qq0 ht hbw)).mono ?_)
    rintro e W3 ⟨rfl,b3⟩
    clear w1 w1' w2 hi hwm hne h1 hf hw ht
    have hl9:((⟨(Lib.itoa (f q)).toArray⟩:ByteArray).size:Int)≤9:=by simp [ByteArray.size];omega
    go_wp2_with (go_at_call 185;refine (qAk w.heap.size w.heap.size (Lib.byteCells acc) _ _ (quZ hI b3) ?hl (Nat.le_trans hbs b3.size)).mono ?_)
    case hl=>rw [qAH hq9,Lib.byteCells_length];have:=qyk hq9;simp [ByteArray.size];omega
    rintro e W4 ⟨rfl,hB4,b4⟩
    rw [qAH hq9,qAn,← Lib.byteCells_append] at hB4
    go_wp2
    go_roundw
    case rel=>
     refine ⟨q,_,by congr 1 <;> omega,by omega,hB4,(hbw.trans (b3.mono hbs)).trans b4,?_,?_⟩
     ·rw [← hacc];simp [qkW]
     ·have:=qyk hq9
      simp;omega
    case measure=>simp [intOf]
theorem qxZ (w:R):∀ i,qkn w i=qkW (fun i=>cI w i 0) i
 | 0=>rfl
 | i+1=>by unfold qkn qkW;rw [qxZ w i]
theorem qBY (b:Bool) (n:Nat) (w:R):qB8 b (n:Int) w=qy6 b n (fun i=>cI w i 0):=by
 unfold qB8 qy6
 by_cases h:n=0
 ·subst h;rfl
 ·rw [if_neg (by omega),if_neg h,qxZ]
  have e:((n:Int) - 1)=((n - 1:Nat):Int):=by omega
  rw [e,Int.toNat_natCast]
theorem qAz {ps:List PV} (h:ps.map PV.kind=[.b,.i,.r]):∃ b n w,ps=[.b b,.i n,.r w]:=by
 match ps,h with
 | [.b b,.i n,.r w],_=>exact ⟨b,n,w,rfl⟩
theorem qzi {gl:List (Nat × AV)} (hg:(5,AV.eptr (Lib.pow10Tab.map fun _=>.int .u64) qD9 0 0) ∈ gl) :
  wi Tryz.prog gl 138 (qf { args:=[.ptr 0 0],h:=[.big [.bool,.int .i64] .i64 232] } [{ res:=.str,h:=[.big [.bool,.int .i64] .i64 232] }] qAG):=
 qgz (q2Z Tryz.func138 (by kernel_rfl) (by kernel_rfl)) rfl fun B X ps j qs vargs hs hgl hh ha hk hT=>by
  obtain ⟨b,n,r,rfl⟩:=qAz hk
  simp only [qAG] at hT
  split at hT
  ·rename_i hc
   cases hT
   unfold qtH at hc
   simp only [Bool.and_eq_true,decide_eq_true_eq,List.all_eq_true,List.mem_range] at hc
   obtain ⟨⟨c1,c2⟩,c3⟩:=hc
   obtain ⟨m,rfl⟩:∃ m:Nat,n=(m:Int):=⟨n.toNat,by omega⟩
   have hb0:X.h[0]?=some (.big [.bool b,.int .i64 (m:Int)] .i64 232 r):=by rw [hh];rfl
   obtain ⟨n0,c,T,vs,hσ,hheap,hrep,hcl,hrl⟩:=hs.blk 0 _ hb0
   have hvs:vs=[.bool b,.int .i64 (m:Int)]:=by
    cases hrep with
    | cons h t=>cases h;rw [qys t]
   subst hvs
   have hva:vargs=[.pointer (some ⟨n0,0,none⟩)]:=by
    cases ha with
    | cons h t=>
     cases t
     cases h with
     | ptr _ _ n1 hb hσ2=>
      have:n1=n0:=Option.some.inj (hσ2.symm.trans hσ)
      rw [this]
   subst hva
   have hlt:n0<X.w.heap.size:=(Array.getElem?_eq_some_iff.1 hheap).1
   have hcell:∀ o,X.w.cell? ⟨n0,o,none⟩=c[o]?:=fun o=>by unfold World.cell?;simp only [hheap];rfl
   have g0:X.w.cell? ⟨n0,0,none⟩=some (.bool b):=by rw [hcell,← Array.getElem?_toList,hcl];rfl
   have g1:X.w.cell? ⟨n0,1,none⟩=some (.int .i64 (m:Int)):=by rw [hcell,← Array.getElem?_toList,hcl];rfl
   have gw:∀ i,i<232→X.w.cell? ⟨n0,2+i,none⟩=some (.int .i64 (cI r (i:Int) 0)):=fun i hi=>by
    rw [hcell]
    exact qul (vs:=[.bool b,.int .i64 (m:Int)]) hcl (by omega)
   refine ⟨rfl,rfl,rfl,?_⟩
   have hT:=qoY (k:=.u64) (zs:=Lib.pow10Tab) (show Tryz.prog.globalNamed "internal/strconv.uint64pow10" = some 5 by kernel_rfl) (by decide) (hgl _ hg).2
   refine (qCK n0 b m (fun i=>cI r (i:Int) 0) X.w hlt g0 g1 gw (by omega) (fun i hi=>c3 i (by omega)) hT).mono fun e w' ⟨k1,k2⟩=>⟨_,k1,k2,?_⟩
   rw [← qBY]
   exact .str _
  ·cases hT
end Go.Eng

namespace Go.Eng
open Go.Proofs
noncomputable def qj:List (TypeId × TI):=[(1,(.mk .func 1 [.nilFunc] 8 false false)),(2,(.mk (.int .i64) 1 [(.int .i64 0)] 8 false false)),(3,(.mk (.int .i64) 1 [(.int .i64 0)] 8 false false)),(4,(.mk .bool 1 [(.bool false)] 1 false false)),(5,(.mk (.int .u8) 1 [(.int .u8 0)] 1 false false)),(6,(.mk (.int .u8) 1 [(.int .u8 0)] 1 false false)),(9,(.mk .str 1 [(.string (.mk (.mk [])))] 16 false false)),(10,(.mk .str 1 [(.string (.mk (.mk [])))] 16 false false)),(11,(.mk .str 1 [(.string (.mk (.mk [])))] 16 false false)),(12,(.mk (.int .u64) 1 [(.int .u64 0)] 8 false false)),(13,(.mk (.struct [(0,(9,1)),(1,(12,1))]) 2 [(.string (.mk (.mk []))),(.int .u64 0)] 24 false true)),(17,(.mk (.ptr 338) 1 [(.pointer .none)] 8 false false)),(18,(.mk (.struct [(0,(17,1))]) 1 [(.pointer .none)] 8 false true)),(22,(.mk .str 1 [(.string (.mk (.mk [])))] 16 false false)),(24,(.mk (.struct [(0,(22,1)),(1,(22,1))]) 2 [(.string (.mk (.mk []))),(.string (.mk (.mk [])))] 32 true true)),(26,(.mk (.struct [(0,(24,2)),(2,(22,1))]) 3 [(.string (.mk (.mk []))),(.string (.mk (.mk []))),(.string (.mk (.mk [])))] 48 true true)),(27,(.mk .func 1 [.nilFunc] 8 false false)),(29,(.mk (.int .i64) 1 [(.int .i64 0)] 8 false false)),(37,(.mk (.slice 26 3) 1 [(.slice .none 0 0)] 24 false false)),(40,(.mk (.struct [(0,(3,1)),(1,(3,1)),(2,(3,1))]) 3 [(.int .i64 0),(.int .i64 0),(.int .i64 0)] 24 true true)),(43,(.mk (.struct [(0,(3,1)),(1,(3,1)),(2,(3,1))]) 3 [(.int .i64 0),(.int .i64 0),(.int .i64 0)] 24 true true)),(45,(.mk .func 1 [.nilFunc] 8 false false)),(48,(.mk .func 1 [.nilFunc] 8 false false)),(50,(.mk .func 1 [.nilFunc] 8 false false)),(51,(.mk .func 1 [.nilFunc] 8 false false)),(52,(.mk .func 1 [.nilFunc] 8 false false)),(53,(.mk .func 1 [.nilFunc] 8 false false)),(54,(.mk .func 1 [.nilFunc] 8 false false)),(55,(.mk .func 1 [.nilFunc] 8 false false)),(56,(.mk (.slice 3 1) 1 [(.slice .none 0 0)] 24 false false)),(64,(.mk .func 1 [.nilFunc] 8 false false)),(82,(.mk (.slice 22 1) 1 [(.slice .none 0 0)] 24 false false)),(83,(.mk (.ptr 85) 1 [(.pointer .none)] 8 false false)),(85,(.mk (.struct [(0,(29,1))]) 1 [(.int .i64 0)] 8 true true)),(98,(.mk .func 1 [.nilFunc] 8 false false)),(101,(.mk (.slice 104 1) 1 [(.slice .none 0 0)] 24 false false)),(104,(.mk .str 1 [(.string (.mk (.mk [])))] 16 false false)),(128,(.mk .func 1 [.nilFunc] 8 false false)),(129,(.mk .func 1 [.nilFunc] 8 false false)),(130,(.mk .func 1 [.nilFunc] 8 false false)),(134,(.mk (.struct [(0,(24,2)),(2,(24,2)),(4,(22,1))]) 5 [(.string (.mk (.mk []))),(.string (.mk (.mk []))),(.string (.mk (.mk []))),(.string (.mk (.mk []))),(.string (.mk (.mk [])))] 80 true true)),(140,(.mk (.struct [(0,(24,2)),(2,(24,2)),(4,(22,1))]) 5 [(.string (.mk (.mk []))),(.string (.mk (.mk []))),(.string (.mk (.mk []))),(.string (.mk (.mk []))),(.string (.mk (.mk [])))] 80 true true)),(153,(.mk (.slice 5 1) 1 [(.slice .none 0 0)] 24 false false)),(164,(.mk .func 1 [.nilFunc] 8 false false)),(171,(.mk (.ptr 176) 1 [(.pointer .none)] 8 false false)),(174,(.mk (.array 232 3 1) 232 [(.int .i64 0),(.int .i64 0),(.int .i64 0),(.int .i64 0),(.int .i64 0),(.int .i64 0),(.int .i64 0),(.int .i64 0),(.int .i64 0),(.int .i64 0),(.int .i64 0),(.int .i64 0),(.int .i64 0),(.int .i64 0),(.int .i64 0),(.int .i64 0),(.int .i64 0),(.int .i64 0),(.int .i64 0),(.int .i64 0),(.int .i64 0),(.int .i64 0),(.int .i64 0),(.int .i64 0),(.int .i64 0),(.int .i64 0),(.int .i64 0),(.int .i64 0),(.int .i64 0),(.int .i64 0),(.int .i64 0),(.int .i64 0),(.int .i64 0),(.int .i64 0),(.int .i64 0),(.int .i64 0),(.int .i64 0),(.int .i64 0),(.int .i64 0),(.int .i64 0),(.int .i64 0),(.int .i64 0),(.int .i64 0),(.int .i64 0),(.int .i64 0),(.int .i64 0),(.int .i64 0),(.int .i64 0),(.int .i64 0),(.int .i64 0),(.int .i64 0),(.int .i64 0),(.int .i64 0),(.int .i64 0),(.int .i64 0),(.int .i64 0),(.int .i64 0),(.int .i64 0),(.int .i64 0),(.int .i64 0),(.int .i64 0),(.int .i64 0),(.int .i64 0),(.int .i64 0),(.int .i64 0),(.int .i64 0),(.int .i64 0),(.int .i64 0),(.int .i64 0),(.int .i64 0),(.int .i64 0),(.int .i64 0),(.int .i64 0),(.int .i64 0),(.int .i64 0),(.int .i64 0),(.int .i64 0),(.int .i64 0),(.int .i64 0),(.int .i64 0),(.int .i64 0),(.int .i64 0),(.int .i64 0),(.int .i64 0),(.int .i64 0),(.int .i64 0),(.int .i64 0),(.int .i64 0),(.int .i64 0),(.int .i64 0),(.int .i64 0),(.int .i64 0),(.int .i64 0),(.int .i64 0),(.int .i64 0),(.int .i64 0),(.int .i64 0),(.int .i64 0),(.int .i64 0),(.int .i64 0),(.int .i64 0),(.int .i64 0),(.int .i64 0),(.int .i64 0),(.int .i64 0),(.int .i64 0),(.int .i64 0),(.int .i64 0),(.int .i64 0),(.int .i64 0),(.int .i64 0),(.int .i64 0),(.int .i64 0),(.int .i64 0),(.int .i64 0),(.int .i64 0),(.int .i64 0),(.int .i64 0),(.int .i64 0),(.int .i64 0),(.int .i64 0),(.int .i64 0),(.int .i64 0),(.int .i64 0),(.int .i64 0),(.int .i64 0),(.int .i64 0),(.int .i64 0),(.int .i64 0),(.int .i64 0),(.int .i64 0),(.int .i64 0),(.int .i64 0),(.int .i64 0),(.int .i64 0),(.int .i64 0),(.int .i64 0),(.int .i64 0),(.int .i64 0),(.int .i64 0),(.int .i64 0),(.int .i64 0),(.int .i64 0),(.int .i64 0),(.int .i64 0),(.int .i64 0),(.int .i64 0),(.int .i64 0),(.int .i64 0),(.int .i64 0),(.int .i64 0),(.int .i64 0),(.int .i64 0),(.int .i64 0),(.int .i64 0),(.int .i64 0),(.int .i64 0),(.int .i64 0),(.int .i64 0),(.int .i64 0),(.int .i64 0),(.int .i64 0),(.int .i64 0),(.int .i64 0),(.int .i64 0),(.int .i64 0),(.int .i64 0),(.int .i64 0),(.int .i64 0),(.int .i64 0),(.int .i64 0),(.int .i64 0),(.int .i64 0),(.int .i64 0),(.int .i64 0),(.int .i64 0),(.int .i64 0),(.int .i64 0),(.int .i64 0),(.int .i64 0),(.int .i64 0),(.int .i64 0),(.int .i64 0),(.int .i64 0),(.int .i64 0),(.int .i64 0),(.int .i64 0),(.int .i64 0),(.int .i64 0),(.int .i64 0),(.int .i64 0),(.int .i64 0),(.int .i64 0),(.int .i64 0),(.int .i64 0),(.int .i64 0),(.int .i64 0),(.int .i64 0),(.int .i64 0),(.int .i64 0),(.int .i64 0),(.int .i64 0),(.int .i64 0),(.int .i64 0),(.int .i64 0),(.int .i64 0),(.int .i64 0),(.int .i64 0),(.int .i64 0),(.int .i64 0),(.int .i64 0),(.int .i64 0),(.int .i64 0),(.int .i64 0),(.int .i64 0),(.int .i64 0),(.int .i64 0),(.int .i64 0),(.int .i64 0),(.int .i64 0),(.int .i64 0),(.int .i64 0),(.int .i64 0),(.int .i64 0),(.int .i64 0),(.int .i64 0),(.int .i64 0),(.int .i64 0),(.int .i64 0),(.int .i64 0),(.int .i64 0),(.int .i64 0)] 1856 false false)),(176,(.mk (.struct [(0,(4,1)),(1,(3,1)),(2,(174,232))]) 234 [(.bool false),(.int .i64 0),(.int .i64 0),(.int .i64 0),(.int .i64 0),(.int .i64 0),(.int .i64 0),(.int .i64 0),(.int .i64 0),(.int .i64 0),(.int .i64 0),(.int .i64 0),(.int .i64 0),(.int .i64 0),(.int .i64 0),(.int .i64 0),(.int .i64 0),(.int .i64 0),(.int .i64 0),(.int .i64 0),(.int .i64 0),(.int .i64 0),(.int .i64 0),(.int .i64 0),(.int .i64 0),(.int .i64 0),(.int .i64 0),(.int .i64 0),(.int .i64 0),(.int .i64 0),(.int .i64 0),(.int .i64 0),(.int .i64 0),(.int .i64 0),(.int .i64 0),(.int .i64 0),(.int .i64 0),(.int .i64 0),(.int .i64 0),(.int .i64 0),(.int .i64 0),(.int .i64 0),(.int .i64 0),(.int .i64 0),(.int .i64 0),(.int .i64 0),(.int .i64 0),(.int .i64 0),(.int .i64 0),(.int .i64 0),(.int .i64 0),(.int .i64 0),(.int .i64 0),(.int .i64 0),(.int .i64 0),(.int .i64 0),(.int .i64 0),(.int .i64 0),(.int .i64 0),(.int .i64 0),(.int .i64 0),(.int .i64 0),(.int .i64 0),(.int .i64 0),(.int .i64 0),(.int .i64 0),(.int .i64 0),(.int .i64 0),(.int .i64 0),(.int .i64 0),(.int .i64 0),(.int .i64 0),(.int .i64 0),(.int .i64 0),(.int .i64 0),(.int .i64 0),(.int .i64 0),(.int .i64 0),(.int .i64 0),(.int .i64 0),(.int .i64 0),(.int .i64 0),(.int .i64 0),(.int .i64 0),(.int .i64 0),(.int .i64 0),(.int .i64 0),(.int .i64 0),(.int .i64 0),(.int .i64 0),(.int .i64 0),(.int .i64 0),(.int .i64 0),(.int .i64 0),(.int .i64 0),(.int .i64 0),(.int .i64 0),(.int .i64 0),(.int .i64 0),(.int .i64 0),(.int .i64 0),(.int .i64 0),(.int .i64 0),(.int .i64 0),(.int .i64 0),(.int .i64 0),(.int .i64 0),(.int .i64 0),(.int .i64 0),(.int .i64 0),(.int .i64 0),(.int .i64 0),(.int .i64 0),(.int .i64 0),(.int .i64 0),(.int .i64 0),(.int .i64 0),(.int .i64 0),(.int .i64 0),(.int .i64 0),(.int .i64 0),(.int .i64 0),(.int .i64 0),(.int .i64 0),(.int .i64 0),(.int .i64 0),(.int .i64 0),(.int .i64 0),(.int .i64 0),(.int .i64 0),(.int .i64 0),(.int .i64 0),(.int .i64 0),(.int .i64 0),(.int .i64 0),(.int .i64 0),(.int .i64 0),(.int .i64 0),(.int .i64 0),(.int .i64 0),(.int .i64 0),(.int .i64 0),(.int .i64 0),(.int .i64 0),(.int .i64 0),(.int .i64 0),(.int .i64 0),(.int .i64 0),(.int .i64 0),(.int .i64 0),(.int .i64 0),(.int .i64 0),(.int .i64 0),(.int .i64 0),(.int .i64 0),(.int .i64 0),(.int .i64 0),(.int .i64 0),(.int .i64 0),(.int .i64 0),(.int .i64 0),(.int .i64 0),(.int .i64 0),(.int .i64 0),(.int .i64 0),(.int .i64 0),(.int .i64 0),(.int .i64 0),(.int .i64 0),(.int .i64 0),(.int .i64 0),(.int .i64 0),(.int .i64 0),(.int .i64 0),(.int .i64 0),(.int .i64 0),(.int .i64 0),(.int .i64 0),(.int .i64 0),(.int .i64 0),(.int .i64 0),(.int .i64 0),(.int .i64 0),(.int .i64 0),(.int .i64 0),(.int .i64 0),(.int .i64 0),(.int .i64 0),(.int .i64 0),(.int .i64 0),(.int .i64 0),(.int .i64 0),(.int .i64 0),(.int .i64 0),(.int .i64 0),(.int .i64 0),(.int .i64 0),(.int .i64 0),(.int .i64 0),(.int .i64 0),(.int .i64 0),(.int .i64 0),(.int .i64 0),(.int .i64 0),(.int .i64 0),(.int .i64 0),(.int .i64 0),(.int .i64 0),(.int .i64 0),(.int .i64 0),(.int .i64 0),(.int .i64 0),(.int .i64 0),(.int .i64 0),(.int .i64 0),(.int .i64 0),(.int .i64 0),(.int .i64 0),(.int .i64 0),(.int .i64 0),(.int .i64 0),(.int .i64 0),(.int .i64 0),(.int .i64 0),(.int .i64 0),(.int .i64 0),(.int .i64 0),(.int .i64 0),(.int .i64 0),(.int .i64 0),(.int .i64 0),(.int .i64 0),(.int .i64 0),(.int .i64 0)] 1872 true true)),(180,(.mk .func 1 [.nilFunc] 8 false false)),(198,(.mk (.ptr 244) 1 [(.pointer .none)] 8 false false)),(242,(.mk .func 1 [.nilFunc] 8 false false)),(244,(.mk (.struct [(0,(29,1))]) 1 [(.int .i64 0)] 8 true true)),(245,(.mk .func 1 [.nilFunc] 8 false false)),(252,(.mk .func 1 [.nilFunc] 8 false false)),(253,(.mk (.ptr 5) 1 [(.pointer .none)] 8 false false)),(294,(.mk (.int .u32) 1 [(.int .u32 0)] 4 false false)),(302,(.mk (.int .u64) 1 [(.int .u64 0)] 8 false false)),(320,(.mk (.array 20 302 1) 20 [(.int .u64 0),(.int .u64 0),(.int .u64 0),(.int .u64 0),(.int .u64 0),(.int .u64 0),(.int .u64 0),(.int .u64 0),(.int .u64 0),(.int .u64 0),(.int .u64 0),(.int .u64 0),(.int .u64 0),(.int .u64 0),(.int .u64 0),(.int .u64 0),(.int .u64 0),(.int .u64 0),(.int .u64 0),(.int .u64 0)] 160 false false)),(332,(.mk (.int .u8) 1 [(.int .u8 0)] 1 false false)),(333,(.mk (.int .u8) 1 [(.int .u8 0)] 1 false false)),(334,(.mk .func 1 [.nilFunc] 8 false false)),(335,(.mk (.int .i32) 1 [(.int .i32 0)] 4 false false)),(336,(.mk (.int .i32) 1 [(.int .i32 0)] 4 false false)),(338,(.mk (.struct [(0,(12,1)),(1,(12,1)),(2,(294,1)),(3,(332,1)),(4,(5,1)),(5,(5,1)),(6,(333,1)),(7,(334,1)),(8,(253,1)),(9,(335,1)),(10,(336,1))]) 11 [(.int .u64 0),(.int .u64 0),(.int .u32 0),(.int .u8 0),(.int .u8 0),(.int .u8 0),(.int .u8 0),.nilFunc,(.pointer .none),(.int .i32 0),(.int .i32 0)] 48 false true))]
noncomputable def qa:List (Nat × AV):=[(5,(.eptr [.int .u64,.int .u64,.int .u64,.int .u64,.int .u64,.int .u64,.int .u64,.int .u64,.int .u64,.int .u64,.int .u64,.int .u64,.int .u64,.int .u64,.int .u64,.int .u64,.int .u64,.int .u64,.int .u64,.int .u64] [[.i 1,.i 10,.i 100,.i 1000,.i 10000,.i 100000,.i 1000000,.i 10000000,.i 100000000,.i 1000000000,.i 10000000000,.i 100000000000,.i 1000000000000,.i 10000000000000,.i 100000000000000,.i 1000000000000000,.i 10000000000000000,.i 100000000000000000,.i 1000000000000000000,.i 10000000000000000000]] 0 0))]
theorem qc:qj.map (fun x=>qxC Tryz.prog x.1)=qj.map (·.2):=by kernel_rfl
theorem qk:Tryz.prog.follows .mixedOrders=true:=by kernel_rfl
def q3u:FIn:={ args:=[(.agg [.str,.str,.str])],h:=[] }
def q3o:List FOut:=[{ res:=.bool,h:=[] }]
def qaF:Tmpl:={ t:=[.any,.any,.any,.any,.any,.any,.any,.any,.any,.any,.any,.any,.any,(.vec 1),(.int .i64),(.int .i64),.any,.any,.any,.any,.any,.any,.any],h:=[.dead,.vec 22 [.str]] }
def q9i:List Out:=[{ x:=(.exit 0),tm:={ t:=[.any,.any,.any,.any,.any,.any,.any,.any,.any,.any,.any,.any,.any,.any,.any,.any,.any,.any,.any,.any,.any,.any,.any],h:=[] } },{ x:=.ret,tm:={ t:=[.any,.any,.bool,.any,.any,.any,.any,.any,.any,.any,.any,.any,.any,.any,.any,.any,.any,.any,.any,.any,.any,.any,.any],h:=[] } }]
noncomputable def q5h:Env:={ tt:=qj,glob:=qa,spec:=[],body:=[(11,Tryz.f11)],loops:=[],nimp:=0 }
noncomputable def km (ps:List PV):TR:=jx q5h 11 Tryz.f11 3 qaF q9i ps
theorem qmg:EnvOK q5h Tryz.prog:=⟨qm qc,
 q8,
 q8,
 all_cons (qh Tryz.func11 (by kernel_rfl)) (q8)⟩
theorem qle:qO Tryz.prog qa q5h.nimp (zo Tryz.prog q5h.iter 11) (wM Tryz.f11 3) (qE qaF q9i (qg km)):=
 qv qk qmg Tryz.func11 (by kernel_rfl) (by kernel_rfl) (by kernel_rfl) (by kernel_rfl) (fun _=>rfl)
noncomputable def qli:Env:={ tt:=qj,glob:=qa,spec:=[],body:=[(11,Tryz.f11)],loops:=[((11,3),qE qaF q9i (qg km))],nimp:=0 }
noncomputable def va (ps:List PV):TR:=qW qli 11 Tryz.f11 true q3u q3o ps
theorem qpR:EnvOK qli Tryz.prog:=⟨qm qc,
 q8,
 all_cons (zp Tryz.func11 (by kernel_rfl) (by kernel_rfl) qle) (q8),
 all_cons (qh Tryz.func11 (by kernel_rfl)) (q8)⟩
theorem q4t:wi Tryz.prog qa 11 (qf q3u q3o va):=qt qk qpR Tryz.func11 (by kernel_rfl) (by kernel_rfl) (fun _=>rfl)
def q2F:FIn:={ args:=[.str,.str],h:=[] }
def q2A:List FOut:=[{ res:=(.int .i64),h:=[] }]
noncomputable def zg:List PV→TR:=qvm
theorem q6l:wi Tryz.prog qa 212 (qf q2F q2A zg):=qxv Tryz.lays219 (q2Z Tryz.func212 (by kernel_rfl) (by kernel_rfl))
def kC:FIn:={ args:=[.str,.str],h:=[] }
def ky:List FOut:=[{ res:=(.tuple [.str,.str,.bool]),h:=[] }]
noncomputable def q3E:Env:={ tt:=qj,glob:=qa,spec:=[(212,qf q2F q2A zg)],body:=[(168,Tryz.f168)],loops:=[],nimp:=0 }
noncomputable def zN (ps:List PV):TR:=qW q3E 168 Tryz.f168 true kC ky ps
theorem q8x:EnvOK q3E Tryz.prog:=⟨qm qc,
 all_cons q6l (q8),
 q8,
 all_cons (qh Tryz.func168 (by kernel_rfl)) (q8)⟩
theorem q88:wi Tryz.prog qa 168 (qf kC ky zN):=qt qk q8x Tryz.func168 (by kernel_rfl) (by kernel_rfl) (fun _=>rfl)
def qdA:FIn:={ args:=[.str,.str],h:=[] }
def qdZ:List FOut:=[{ res:=(.tuple [.str,.str,.bool]),h:=[] }]
noncomputable def ql2:Env:={ tt:=qj,glob:=qa,spec:=[(168,qf kC ky zN)],body:=[(129,Tryz.f129)],loops:=[],nimp:=0 }
noncomputable def jI (ps:List PV):TR:=qW ql2 129 Tryz.f129 true qdA qdZ ps
theorem qoJ:EnvOK ql2 Tryz.prog:=⟨qm qc,
 all_cons q88 (q8),
 q8,
 all_cons (qh Tryz.func129 (by kernel_rfl)) (q8)⟩
theorem qnJ:wi Tryz.prog qa 129 (qf qdA qdZ jI):=qt qk qoJ Tryz.func129 (by kernel_rfl) (by kernel_rfl) (fun _=>rfl)
def q2K:FIn:={ args:=[.str],h:=[] }
def q2R:List FOut:=[{ res:=(.tuple [.str,.str,.bool]),h:=[] }]
noncomputable def qqi:Env:={ tt:=qj,glob:=qa,spec:=[(129,qf qdA qdZ jI)],body:=[(90,Tryz.f90)],loops:=[],nimp:=0 }
noncomputable def q9 (ps:List PV):TR:=qW qqi 90 Tryz.f90 true q2K q2R ps
theorem qtq:EnvOK qqi Tryz.prog:=⟨qm qc,
 all_cons qnJ (q8),
 q8,
 all_cons (qh Tryz.func90 (by kernel_rfl)) (q8)⟩
theorem q2d:wi Tryz.prog qa 90 (qf q2K q2R q9):=qt qk qtq Tryz.func90 (by kernel_rfl) (by kernel_rfl) (fun _=>rfl)
def vq:FIn:={ args:=[.str,.str],h:=[] }
def vr:List FOut:=[{ res:=.bool,h:=[] }]
noncomputable def q0L:Env:={ tt:=qj,glob:=qa,spec:=[],body:=[(213,Tryz.f213)],loops:=[],nimp:=0 }
noncomputable def zd (ps:List PV):TR:=qW q0L 213 Tryz.f213 true vq vr ps
theorem q56:EnvOK q0L Tryz.prog:=⟨qm qc,
 q8,
 q8,
 all_cons (qh Tryz.func213 (by kernel_rfl)) (q8)⟩
theorem kp:wi Tryz.prog qa 213 (qf vq vr zd):=qt qk q56 Tryz.func213 (by kernel_rfl) (by kernel_rfl) (fun _=>rfl)
def jK:FIn:={ args:=[.str,.str],h:=[] }
def jM:List FOut:=[{ res:=.str,h:=[] }]
noncomputable def kS:Env:={ tt:=qj,glob:=qa,spec:=[(213,qf vq vr zd)],body:=[(169,Tryz.f169)],loops:=[],nimp:=0 }
noncomputable def zH (ps:List PV):TR:=qW kS 169 Tryz.f169 true jK jM ps
theorem q4F:EnvOK kS Tryz.prog:=⟨qm qc,
 all_cons kp (q8),
 q8,
 all_cons (qh Tryz.func169 (by kernel_rfl)) (q8)⟩
theorem q49:wi Tryz.prog qa 169 (qf jK jM zH):=qt qk q4F Tryz.func169 (by kernel_rfl) (by kernel_rfl) (fun _=>rfl)
def jT:FIn:={ args:=[.str,.str],h:=[] }
def jS:List FOut:=[{ res:=.str,h:=[] }]
noncomputable def q8q:Env:={ tt:=qj,glob:=qa,spec:=[(169,qf jK jM zH)],body:=[(130,Tryz.f130)],loops:=[],nimp:=0 }
noncomputable def qu (ps:List PV):TR:=qW q8q 130 Tryz.f130 true jT jS ps
theorem qeZ:EnvOK q8q Tryz.prog:=⟨qm qc,
 all_cons q49 (q8),
 q8,
 all_cons (qh Tryz.func130 (by kernel_rfl)) (q8)⟩
theorem uz:wi Tryz.prog qa 130 (qf jT jS qu):=qt qk qeZ Tryz.func130 (by kernel_rfl) (by kernel_rfl) (fun _=>rfl)
def qhP:FIn:={ args:=[.str,.str],h:=[] }
def qhG:List FOut:=[{ res:=.str,h:=[] }]
noncomputable def q4e:List PV→TR:=qBs
theorem qm0:wi Tryz.prog qa 131 (qf qhP qhG q4e):=qzc Tryz.lays160 (q2Z Tryz.func131 (by kernel_rfl) (by kernel_rfl)) (by kernel_rfl)
def q06:FIn:={ args:=[.str],h:=[] }
def kX:List FOut:=[{ res:=(.int .i64),h:=[] }]
noncomputable def ql8:Env:={ tt:=qj,glob:=qa,spec:=[(130,qf jT jS qu),(131,qf qhP qhG q4e)],body:=[(91,Tryz.f91)],loops:=[],nimp:=0 }
noncomputable def qT (ps:List PV):TR:=qW ql8 91 Tryz.f91 true q06 kX ps
theorem qr6:EnvOK ql8 Tryz.prog:=⟨qm qc,
 all_cons uz (all_cons qm0 (q8)),
 q8,
 all_cons (qh Tryz.func91 (by kernel_rfl)) (q8)⟩
theorem kI:wi Tryz.prog qa 91 (qf q06 kX qT):=qt qk qr6 Tryz.func91 (by kernel_rfl) (by kernel_rfl) (fun _=>rfl)
def q0v:FIn:={ args:=[(.imm [.str])],h:=[] }
def q0q:List FOut:=[{ res:=(.int .i64),h:=[] }]
def qdu:Tmpl:={ t:=[.any,.any,.any,.any,.any,.any,(.imm [.str]),(.int .i64),(.int .i64),.any,.any,.any,.any,.any,.any,.any,.any,.any],h:=[] }
def qdJ:List Out:=[{ x:=(.exit 0),tm:={ t:=[.any,.any,.any,.any,.any,.any,.any,.any,.any,.any,.any,.any,.any,.any,.any,.any,.any,.any],h:=[] } },{ x:=.ret,tm:={ t:=[.any,.any,(.int .i64),.any,.any,.any,.any,.any,.any,.any,.any,.any,.any,.any,.any,.any,.any,.any],h:=[] } }]
noncomputable def q8U:Env:={ tt:=qj,glob:=qa,spec:=[(91,qf q06 kX qT)],body:=[(132,Tryz.f132)],loops:=[],nimp:=0 }
noncomputable def q1J (ps:List PV):TR:=jx q8U 132 Tryz.f132 3 qdu qdJ ps
theorem qpY:EnvOK q8U Tryz.prog:=⟨qm qc,
 all_cons kI (q8),
 q8,
 all_cons (qh Tryz.func132 (by kernel_rfl)) (q8)⟩
theorem qnu:qO Tryz.prog qa q8U.nimp (zo Tryz.prog q8U.iter 132) (wM Tryz.f132 3) (qE qdu qdJ (qg q1J)):=
 qv qk qpY Tryz.func132 (by kernel_rfl) (by kernel_rfl) (by kernel_rfl) (by kernel_rfl) (fun _=>rfl)
noncomputable def qqK:Env:={ tt:=qj,glob:=qa,spec:=[(91,qf q06 kX qT)],body:=[(132,Tryz.f132)],loops:=[((132,3),qE qdu qdJ (qg q1J))],nimp:=0 }
noncomputable def zG (ps:List PV):TR:=qW qqK 132 Tryz.f132 true q0v q0q ps
theorem qtw:EnvOK qqK Tryz.prog:=⟨qm qc,
 all_cons kI (q8),
 all_cons (zp Tryz.func132 (by kernel_rfl) (by kernel_rfl) qnu) (q8),
 all_cons (qh Tryz.func132 (by kernel_rfl)) (q8)⟩
theorem uM:wi Tryz.prog qa 132 (qf q0v q0q zG):=qt qk qtw Tryz.func132 (by kernel_rfl) (by kernel_rfl) (fun _=>rfl)
def q7o:FIn:={ args:=[.str],h:=[] }
def q78:List FOut:=[{ res:=(.int .i64),h:=[] }]
noncomputable def qmV:Env:={ tt:=qj,glob:=qa,spec:=[],body:=[(133,Tryz.f133)],loops:=[],nimp:=0 }
noncomputable def wu (ps:List PV):TR:=qW qmV 133 Tryz.f133 true q7o q78 ps
theorem qrc:EnvOK qmV Tryz.prog:=⟨qm qc,
 q8,
 q8,
 all_cons (qh Tryz.func133 (by kernel_rfl)) (q8)⟩
theorem q9K:wi Tryz.prog qa 133 (qf q7o q78 wu):=qt qk qrc Tryz.func133 (by kernel_rfl) (by kernel_rfl) (fun _=>rfl)
def qcu:FIn:={ args:=[.str,.str],h:=[] }
def qd8:List FOut:=[{ res:=(.int .i64),h:=[] }]
noncomputable def q1x:List PV→TR:=qor
theorem qho:wi Tryz.prog qa 177 (qf qcu qd8 q1x):=qt1 Tryz.lays106 (q2Z Tryz.func177 (by kernel_rfl) (by kernel_rfl))
def qdL:FIn:={ args:=[.str,.str],h:=[] }
def qdE:List FOut:=[{ res:=(.int .i64),h:=[] }]
noncomputable def ql3:Env:={ tt:=qj,glob:=qa,spec:=[(177,qf qcu qd8 q1x)],body:=[(134,Tryz.f134)],loops:=[],nimp:=0 }
noncomputable def q3e (ps:List PV):TR:=qW ql3 134 Tryz.f134 true qdL qdE ps
theorem qqv:EnvOK ql3 Tryz.prog:=⟨qm qc,
 all_cons qho (q8),
 q8,
 all_cons (qh Tryz.func134 (by kernel_rfl)) (q8)⟩
theorem qnW:wi Tryz.prog qa 134 (qf qdL qdE q3e):=qt qk qqv Tryz.func134 (by kernel_rfl) (by kernel_rfl) (fun _=>rfl)
def qaa:FIn:={ args:=[.str,.str],h:=[] }
def q9e:List FOut:=[{ res:=(.tuple [(.int .i64),(.int .i64)]),h:=[] }]
noncomputable def qfn:Env:={ tt:=qj,glob:=qa,spec:=[(130,qf jT jS qu),(132,qf q0v q0q zG),(133,qf q7o q78 wu),(134,qf qdL qdE q3e)],body:=[(92,Tryz.f92)],loops:=[],nimp:=0 }
noncomputable def uX (ps:List PV):TR:=qW qfn 92 Tryz.f92 true qaa q9e ps
theorem qmh:EnvOK qfn Tryz.prog:=⟨qm qc,
 all_cons uz (all_cons uM (all_cons q9K (all_cons qnW (q8)))),
 q8,
 all_cons (qh Tryz.func92 (by kernel_rfl)) (q8)⟩
theorem qlx:wi Tryz.prog qa 92 (qf qaa q9e uX):=qt qk qmh Tryz.func92 (by kernel_rfl) (by kernel_rfl) (fun _=>rfl)
def q6J:FIn:={ args:=[.str],h:=[] }
def q6O:List FOut:=[{ res:=(.tuple [(.int .i64),.any]),h:=[] }]
noncomputable def j1:List PV→TR:=qAI
theorem q6E:wi Tryz.prog qa 178 (qf q6J q6O j1):=qyM Tryz.lays172 (q2Z Tryz.func178 (by kernel_rfl) (by kernel_rfl))
def wN:FIn:={ args:=[(.ptr 0 0)],h:=[.big [.bool,(.int .i64)] .i64 232] }
def wL:List FOut:=[{ res:=(.ptr 0 0),h:=[.big [.bool,(.int .i64)] .i64 232] }]
def q2n:Tmpl:={ t:=[(.ptr 0 0),.any,.any,.any,.any,.any,.any,.any,.any,.any,.any,.any,.any,.any,.any,.any,.any,.any,.any,.any,.any,.any,.any,.any,.any,.any,.any,.any,.any],h:=[.big [.bool,(.int .i64)] .i64 232] }
def q2k:List Out:=[{ x:=(.exit 0),tm:={ t:=[(.ptr 0 0),.any,.any,.any,.any,.any,.any,.any,.any,.any,.any,.any,.any,.any,.any,.any,.any,.any,.any,.any,.any,.any,.any,.any,.any,.any,.any,.any,.any],h:=[.big [.bool,(.int .i64)] .i64 232] } }]
noncomputable def kv:Env:={ tt:=qj,glob:=qa,spec:=[],body:=[(179,Tryz.f179)],loops:=[],nimp:=1 }
noncomputable def wJ (ps:List PV):TR:=jx kv 179 Tryz.f179 2 q2n q2k ps
theorem qdf:EnvOK kv Tryz.prog:=⟨qm qc,
 q8,
 q8,
 all_cons (qh Tryz.func179 (by kernel_rfl)) (q8)⟩
theorem qcc:qO Tryz.prog qa kv.nimp (zo Tryz.prog kv.iter 179) (wM Tryz.f179 2) (qE q2n q2k (qg wJ)):=
 qv qk qdf Tryz.func179 (by kernel_rfl) (by kernel_rfl) (by kernel_rfl) (by kernel_rfl) (fun _=>rfl)
noncomputable def q8n:Env:={ tt:=qj,glob:=qa,spec:=[],body:=[(179,Tryz.f179)],loops:=[((179,2),qE q2n q2k (qg wJ))],nimp:=1 }
noncomputable def qP (ps:List PV):TR:=qW q8n 179 Tryz.f179 false wN wL ps
theorem qf1:EnvOK q8n Tryz.prog:=⟨qm qc,
 q8,
 all_cons (zp Tryz.func179 (by kernel_rfl) (by kernel_rfl) qcc) (q8),
 all_cons (qh Tryz.func179 (by kernel_rfl)) (q8)⟩
theorem v7:wi Tryz.prog qa 179 (qf wN wL qP):=qt qk qf1 Tryz.func179 (by kernel_rfl) (by kernel_rfl) (fun _=>rfl)
def q07:FIn:={ args:=[.str],h:=[] }
def q0d:List FOut:=[{ res:=(.ptr 0 0),h:=[.big [.bool,(.int .i64)] .i64 232] }]
def qby:Tmpl:={ t:=[.any,.any,.any,.str,(.ptr 0 0),.any,.any,.any,.any,.any,.any,.any,.any,.any,.any,.any,.any,.any,.any,.any,.any,.any,.any,.any,.any,.any,.any,.any,.any,.any,.any,.any,.any,.any,.any,.any,.any,.any,.any,.any,.any,.any,.any,.any,.any,.any,.any,.any],h:=[.big [.bool,(.int .i64)] .i64 232] }
def qbN:List Out:=[{ x:=(.exit 0),tm:={ t:=[.any,.any,.any,.any,(.ptr 0 0),.any,.any,.any,.any,.any,.any,.any,.any,.any,.any,.any,.any,.any,.any,.any,.any,.any,.any,.any,.any,.any,.any,.any,.any,.any,.any,.any,.any,.any,.any,.any,.any,.any,.any,.any,.any,.any,.any,.any,.any,.any,.any,.any],h:=[.big [.bool,(.int .i64)] .i64 232] } }]
noncomputable def q6N:Env:={ tt:=qj,glob:=qa,spec:=[(130,qf jT jS qu),(178,qf q6J q6O j1),(179,qf wN wL qP)],body:=[(135,Tryz.f135)],loops:=[],nimp:=0 }
noncomputable def zS (ps:List PV):TR:=jx q6N 135 Tryz.f135 5 qby qbN ps
theorem qnB:EnvOK q6N Tryz.prog:=⟨qm qc,
 all_cons uz (all_cons q6E (all_cons v7 (q8))),
 q8,
 all_cons (qh Tryz.func135 (by kernel_rfl)) (q8)⟩
theorem qmu:qO Tryz.prog qa q6N.nimp (zo Tryz.prog q6N.iter 135) (wM Tryz.f135 5) (qE qby qbN (qg zS)):=
 qv qk qnB Tryz.func135 (by kernel_rfl) (by kernel_rfl) (by kernel_rfl) (by kernel_rfl) (fun _=>rfl)
noncomputable def qnc:Env:={ tt:=qj,glob:=qa,spec:=[(130,qf jT jS qu),(178,qf q6J q6O j1),(179,qf wN wL qP)],body:=[(135,Tryz.f135)],loops:=[((135,5),qE qby qbN (qg zS))],nimp:=0 }
noncomputable def qo (ps:List PV):TR:=qW qnc 135 Tryz.f135 false q07 q0d ps
theorem qre:EnvOK qnc Tryz.prog:=⟨qm qc,
 all_cons uz (all_cons q6E (all_cons v7 (q8))),
 all_cons (zp Tryz.func135 (by kernel_rfl) (by kernel_rfl) qmu) (q8),
 all_cons (qh Tryz.func135 (by kernel_rfl)) (q8)⟩
theorem ka:wi Tryz.prog qa 135 (qf q07 q0d qo):=qt qk qre Tryz.func135 (by kernel_rfl) (by kernel_rfl) (fun _=>rfl)
def qi5:FIn:={ args:=[(.int .i64)],h:=[] }
def qhM:List FOut:=[{ res:=.str,h:=[] }]
noncomputable def q3W:List PV→TR:=qA6
theorem qlW:wi Tryz.prog qa 180 (qf qi5 qhM q3W):=qzd Tryz.laysM171 (q2Z Tryz.func180 (by kernel_rfl) (by kernel_rfl)) (by kernel_rfl) (by unfold qa;exact List.mem_cons_self)
def q6c:FIn:={ args:=[(.int .i64)],h:=[] }
def q6s:List FOut:=[{ res:=.str,h:=[] }]
noncomputable def qsP:Env:={ tt:=qj,glob:=qa,spec:=[(180,qf qi5 qhM q3W)],body:=[(136,Tryz.f136)],loops:=[],nimp:=0 }
noncomputable def vV (ps:List PV):TR:=qW qsP 136 Tryz.f136 true q6c q6s ps
theorem qvU:EnvOK qsP Tryz.prog:=⟨qm qc,
 all_cons qlW (q8),
 q8,
 all_cons (qh Tryz.func136 (by kernel_rfl)) (q8)⟩
theorem q5R:wi Tryz.prog qa 136 (qf q6c q6s vV):=qt qk qvU Tryz.func136 (by kernel_rfl) (by kernel_rfl) (fun _=>rfl)
def ym:FIn:={ args:=[(.ptr 0 0),(.ptr 1 0)],h:=[.big [.bool,(.int .i64)] .i64 232,.big [.bool,(.int .i64)] .i64 232] }
def yl:List FOut:=[{ res:=(.int .i64),h:=[.big [.bool,(.int .i64)] .i64 232,.big [.bool,(.int .i64)] .i64 232] }]
def q2P:Tmpl:={ t:=[(.ptr 0 0),(.ptr 1 0),.any,.any,.any,(.int .i64),.any,.any,.any,.any,.any,.any,.any,.any,.any,.any,.any,.any,.any,.any,.any,.any,.any,.any,.any,.any,.any,.any,.any,.any,.any,.any,.any,.any,.any,.any,.any,.any,.any,.any,.any,.any,.any,.any,.any,.any,.any,.any,.any,.any,.any,.any,.any,.any,.any,.any,.any,.any,.any],h:=[.big [.bool,(.int .i64)] .i64 232,.big [.bool,(.int .i64)] .i64 232] }
def q2H:List Out:=[{ x:=(.exit 0),tm:={ t:=[.any,.any,.any,.any,.any,.any,.any,.any,.any,.any,.any,.any,.any,.any,.any,.any,.any,.any,.any,.any,.any,.any,.any,.any,.any,.any,.any,.any,.any,.any,.any,.any,.any,.any,.any,.any,.any,.any,.any,.any,.any,.any,.any,.any,.any,.any,.any,.any,.any,.any,.any,.any,.any,.any,.any,.any,.any,.any,.any],h:=[.big [.bool,(.int .i64)] .i64 232,.big [.bool,(.int .i64)] .i64 232] } },{ x:=.ret,tm:={ t:=[.any,.any,.any,.any,(.int .i64),.any,.any,.any,.any,.any,.any,.any,.any,.any,.any,.any,.any,.any,.any,.any,.any,.any,.any,.any,.any,.any,.any,.any,.any,.any,.any,.any,.any,.any,.any,.any,.any,.any,.any,.any,.any,.any,.any,.any,.any,.any,.any,.any,.any,.any,.any,.any,.any,.any,.any,.any,.any,.any,.any],h:=[.big [.bool,(.int .i64)] .i64 232,.big [.bool,(.int .i64)] .i64 232] } }]
noncomputable def kY:Env:={ tt:=qj,glob:=qa,spec:=[],body:=[(181,Tryz.f181)],loops:=[],nimp:=2 }
noncomputable def qN (ps:List PV):TR:=jx kY 181 Tryz.f181 6 q2P q2H ps
theorem qdU:EnvOK kY Tryz.prog:=⟨qm qc,
 q8,
 q8,
 all_cons (qh Tryz.func181 (by kernel_rfl)) (q8)⟩
theorem qcO:qO Tryz.prog qa kY.nimp (zo Tryz.prog kY.iter 181) (wM Tryz.f181 6) (qE q2P q2H (qg qN)):=
 qv qk qdU Tryz.func181 (by kernel_rfl) (by kernel_rfl) (by kernel_rfl) (by kernel_rfl) (fun _=>rfl)
noncomputable def qam:Env:={ tt:=qj,glob:=qa,spec:=[],body:=[(181,Tryz.f181)],loops:=[((181,6),qE q2P q2H (qg qN))],nimp:=2 }
noncomputable def v6 (ps:List PV):TR:=qW qam 181 Tryz.f181 true ym yl ps
theorem qgt:EnvOK qam Tryz.prog:=⟨qm qc,
 q8,
 all_cons (zp Tryz.func181 (by kernel_rfl) (by kernel_rfl) qcO) (q8),
 all_cons (qh Tryz.func181 (by kernel_rfl)) (q8)⟩
theorem kx:wi Tryz.prog qa 181 (qf ym yl v6):=qt qk qgt Tryz.func181 (by kernel_rfl) (by kernel_rfl) (fun _=>rfl)
def q25:FIn:={ args:=[(.ptr 0 0),(.ptr 1 0)],h:=[.big [.bool,(.int .i64)] .i64 232,.big [.bool,(.int .i64)] .i64 232] }
def q23:List FOut:=[{ res:=(.int .i64),h:=[.big [.bool,(.int .i64)] .i64 232,.big [.bool,(.int .i64)] .i64 232] }]
noncomputable def qeH:Env:={ tt:=qj,glob:=qa,spec:=[],body:=[(182,Tryz.f182),(222,Tryz.f222)],loops:=[],nimp:=2 }
noncomputable def ud (ps:List PV):TR:=qW qeH 182 Tryz.f182 true q25 q23 ps
theorem qkR:EnvOK qeH Tryz.prog:=⟨qm qc,
 q8,
 q8,
 all_cons (qh Tryz.func182 (by kernel_rfl)) (all_cons (qh Tryz.func222 (by kernel_rfl)) (q8))⟩
theorem q4H:wi Tryz.prog qa 182 (qf q25 q23 ud):=qt qk qkR Tryz.func182 (by kernel_rfl) (by kernel_rfl) (fun _=>rfl)
def vP:FIn:={ args:=[(.ptr 0 0),(.ptr 1 0),(.int .i64),(.int .i64)],h:=[.big [.bool,(.int .i64)] .i64 232,.big [.bool,(.int .i64)] .i64 232] }
def vN:List FOut:=[{ res:=(.tuple []),h:=[.big [.bool,(.int .i64)] .i64 232,.big [.bool,(.int .i64)] .i64 232] }]
def q3L:Tmpl:={ t:=[(.ptr 0 0),(.ptr 1 0),(.int .i64),(.int .i64),.any,.any,.any,.any,(.int .i64),(.int .i64),.any,.any,.any,.any,.any,.any,.any,.any,.any,.any,.any,.any,.any,.any,.any,.any,.any,.any,.any,.any,.any,.any,.any,.any,.any,.any,.any,.any,.any,.any,.any,.any,.any,.any,.any,.any,.any,.any,.any,.any,.any,.any,.any,.any,.any,.any,.any,.any,.any,.any,.any,.any,.any,.any,.any,.any,.any,.any,.any,.any,.any,.any,.any,.any,.any,.any,.any,.any,.any,.any,.any,.any,.any],h:=[.big [.bool,(.int .i64)] .i64 232,.big [.bool,(.int .i64)] .i64 232] }
def q3H:List Out:=[{ x:=(.exit 0),tm:={ t:=[(.ptr 0 0),.any,.any,.any,.any,.any,.any,.any,.any,.any,.any,.any,.any,.any,.any,.any,.any,.any,.any,.any,.any,.any,.any,.any,.any,.any,.any,.any,.any,.any,.any,.any,.any,.any,.any,.any,.any,.any,.any,.any,.any,.any,.any,.any,.any,.any,.any,.any,.any,.any,.any,.any,.any,.any,.any,.any,.any,.any,.any,.any,.any,.any,.any,.any,.any,.any,.any,.any,.any,.any,.any,.any,.any,.any,.any,.any,.any,.any,.any,.any,.any,.any,.any],h:=[.big [.bool,(.int .i64)] .i64 232,.big [.bool,(.int .i64)] .i64 232] } }]
noncomputable def q0Q:Env:={ tt:=qj,glob:=qa,spec:=[(179,qf wN wL qP)],body:=[(183,Tryz.f183)],loops:=[],nimp:=2 }
noncomputable def qK (ps:List PV):TR:=jx q0Q 183 Tryz.f183 3 q3L q3H ps
theorem qeV:EnvOK q0Q Tryz.prog:=⟨qm qc,
 all_cons v7 (q8),
 q8,
 all_cons (qh Tryz.func183 (by kernel_rfl)) (q8)⟩
theorem qeg:qO Tryz.prog qa q0Q.nimp (zo Tryz.prog q0Q.iter 183) (wM Tryz.f183 3) (qE q3L q3H (qg qK)):=
 qv qk qeV Tryz.func183 (by kernel_rfl) (by kernel_rfl) (by kernel_rfl) (by kernel_rfl) (fun _=>rfl)
noncomputable def qbf:Env:={ tt:=qj,glob:=qa,spec:=[(179,qf wN wL qP)],body:=[(183,Tryz.f183)],loops:=[((183,3),qE q3L q3H (qg qK))],nimp:=2 }
noncomputable def qZ (ps:List PV):TR:=qW qbf 183 Tryz.f183 true vP vN ps
theorem qhg:EnvOK qbf Tryz.prog:=⟨qm qc,
 all_cons v7 (q8),
 all_cons (zp Tryz.func183 (by kernel_rfl) (by kernel_rfl) qeg) (q8),
 all_cons (qh Tryz.func183 (by kernel_rfl)) (q8)⟩
theorem js:wi Tryz.prog qa 183 (qf vP vN qZ):=qt qk qhg Tryz.func183 (by kernel_rfl) (by kernel_rfl) (fun _=>rfl)
def q1r:FIn:={ args:=[(.ptr 0 0),(.ptr 1 0)],h:=[.big [.bool,(.int .i64)] .i64 232,.big [.bool,(.int .i64)] .i64 232] }
def q1y:List FOut:=[{ res:=(.tuple [(.ptr 2 0),(.ptr 3 0)]),h:=[.big [.bool,(.int .i64)] .i64 232,.big [.bool,(.int .i64)] .i64 232,.big [.bool,(.int .i64)] .i64 232,.big [.bool,(.int .i64)] .i64 232] }]
def q5x:Tmpl:={ t:=[(.ptr 0 0),(.ptr 1 0),.any,.any,.any,.any,(.ptr 2 0),(.ptr 3 0),(.int .i64),(.int .i64),.any,.any,.any,.any,.any,.any,.any,.any,.any,.any,.any,.any,.any,.any,.any,.any,.any,.any,.any,.any,.any,.any,.any,.any,.any,.any,.any,.any,.any,.any,.any,.any,.any,.any,.any,.any,.any,.any,.any,.any,.any,.any,.any,.any,.any,.any,.any,.any,.any,.any,.any,.any,.any,.any,.any,.any,.any,.any,.any,.any,.any,.any,.any,.any,.any,.any,.any,.any,.any,.any,.any,.any,.any,.any,.any,.any,.any,.any,.any,.any],h:=[.big [.bool,(.int .i64)] .i64 232,.big [.bool,(.int .i64)] .i64 232,.big [.bool,(.int .i64)] .i64 232,.big [.bool,(.int .i64)] .i64 232] }
def q5d:List Out:=[{ x:=(.exit 2),tm:={ t:=[(.ptr 0 0),(.ptr 1 0),.any,.any,.any,.any,(.ptr 2 0),(.ptr 3 0),(.int .i64),(.int .i64),.any,.any,.any,.any,.any,.any,.any,.any,.any,.any,.any,.any,.any,.any,.any,.any,.any,.any,.any,.any,.any,.any,.any,.any,.any,.any,.any,.any,.any,.any,.any,.any,.any,.any,.any,.any,.any,.any,.any,.any,.any,.any,.any,.any,.any,.any,.any,.any,.any,.any,.any,.any,.any,.any,.any,.any,.any,.any,.any,.any,.any,.any,.any,.any,.any,.any,.any,.any,.any,.any,.any,.any,.any,.any,.any,.any,.any,.any,.any,.any],h:=[.big [.bool,(.int .i64)] .i64 232,.big [.bool,(.int .i64)] .i64 232,.big [.bool,(.int .i64)] .i64 232,.big [.bool,(.int .i64)] .i64 232] } }]
noncomputable def q2q:Env:={ tt:=qj,glob:=qa,spec:=[(179,qf wN wL qP),(181,qf ym yl v6),(182,qf q25 q23 ud),(183,qf vP vN qZ)],body:=[(137,Tryz.f137)],loops:=[],nimp:=2 }
noncomputable def yV (ps:List PV):TR:=jx q2q 137 Tryz.f137 14 q5x q5d ps
theorem qhi:EnvOK q2q Tryz.prog:=⟨qm qc,
 all_cons v7 (all_cons kx (all_cons q4H (all_cons js (q8)))),
 q8,
 all_cons (qh Tryz.func137 (by kernel_rfl)) (q8)⟩
theorem qf9:qO Tryz.prog qa q2q.nimp (zo Tryz.prog q2q.iter 137) (wM Tryz.f137 14) (qE q5x q5d (qg yV)):=
 qv qk qhi Tryz.func137 (by kernel_rfl) (by kernel_rfl) (by kernel_rfl) (by kernel_rfl) (fun _=>rfl)
def q6C:Tmpl:={ t:=[(.ptr 0 0),(.ptr 1 0),.any,.any,.any,.any,(.ptr 2 0),(.ptr 3 0),(.int .i64),.any,.any,.any,.any,.any,.any,.any,.any,.any,.any,.any,.any,.any,.any,.any,.any,.any,.any,.any,.any,.any,.any,.any,.any,.any,.any,.any,.any,.any,.any,.any,.any,.any,.any,.any,.any,.any,.any,.any,.any,.any,.any,.any,.any,.any,.any,.any,.any,.any,.any,.any,.any,.any,.any,.any,.any,.any,.any,.any,.any,.any,.any,.any,.any,.any,.any,.any,.any,.any,.any,.any,.any,.any,.any,.any,.any,.any,.any,.any,.any,.any],h:=[.big [.bool,(.int .i64)] .i64 232,.big [.bool,(.int .i64)] .i64 232,.big [.bool,(.int .i64)] .i64 232,.big [.bool,(.int .i64)] .i64 232] }
def q6A:List Out:=[{ x:=(.exit 0),tm:={ t:=[.any,.any,.any,.any,.any,.any,(.ptr 2 0),(.ptr 3 0),.any,.any,.any,.any,.any,.any,.any,.any,.any,.any,.any,.any,.any,.any,.any,.any,.any,.any,.any,.any,.any,.any,.any,.any,.any,.any,.any,.any,.any,.any,.any,.any,.any,.any,.any,.any,.any,.any,.any,.any,.any,.any,.any,.any,.any,.any,.any,.any,.any,.any,.any,.any,.any,.any,.any,.any,.any,.any,.any,.any,.any,.any,.any,.any,.any,.any,.any,.any,.any,.any,.any,.any,.any,.any,.any,.any,.any,.any,.any,.any,.any,.any],h:=[.big [.bool,(.int .i64)] .i64 232,.big [.bool,(.int .i64)] .i64 232,.big [.bool,(.int .i64)] .i64 232,.big [.bool,(.int .i64)] .i64 232] } }]
noncomputable def q3l:Env:={ tt:=qj,glob:=qa,spec:=[(179,qf wN wL qP),(181,qf ym yl v6),(182,qf q25 q23 ud),(183,qf vP vN qZ)],body:=[(137,Tryz.f137)],loops:=[((137,14),qE q5x q5d (qg yV))],nimp:=2 }
noncomputable def q1j (ps:List PV):TR:=jx q3l 137 Tryz.f137 4 q6C q6A ps
theorem qiF:EnvOK q3l Tryz.prog:=⟨qm qc,
 all_cons v7 (all_cons kx (all_cons q4H (all_cons js (q8)))),
 all_cons (zp Tryz.func137 (by kernel_rfl) (by kernel_rfl) qf9) (q8),
 all_cons (qh Tryz.func137 (by kernel_rfl)) (q8)⟩
theorem qhf:qO Tryz.prog qa q3l.nimp (zo Tryz.prog q3l.iter 137) (wM Tryz.f137 4) (qE q6C q6A (qg q1j)):=
 qv qk qiF Tryz.func137 (by kernel_rfl) (by kernel_rfl) (by kernel_rfl) (by kernel_rfl) (fun _=>rfl)
noncomputable def qft:Env:={ tt:=qj,glob:=qa,spec:=[(179,qf wN wL qP),(181,qf ym yl v6),(182,qf q25 q23 ud),(183,qf vP vN qZ)],body:=[(137,Tryz.f137)],loops:=[((137,4),qE q6C q6A (qg q1j))],nimp:=2 }
noncomputable def zf (ps:List PV):TR:=qW qft 137 Tryz.f137 false q1r q1y ps
theorem qma:EnvOK qft Tryz.prog:=⟨qm qc,
 all_cons v7 (all_cons kx (all_cons q4H (all_cons js (q8)))),
 all_cons (zp Tryz.func137 (by kernel_rfl) (by kernel_rfl) qhf) (q8),
 all_cons (qh Tryz.func137 (by kernel_rfl)) (q8)⟩
theorem q2C:wi Tryz.prog qa 137 (qf q1r q1y zf):=qt qk qma Tryz.func137 (by kernel_rfl) (by kernel_rfl) (fun _=>rfl)
def uV:FIn:={ args:=[(.ptr 0 0)],h:=[.big [.bool,(.int .i64)] .i64 232] }
def uU:List FOut:=[{ res:=.str,h:=[.big [.bool,(.int .i64)] .i64 232] }]
noncomputable def qJ:List PV→TR:=qAG
theorem uu:wi Tryz.prog qa 138 (qf uV uU qJ):=qzi (by unfold qa;exact List.mem_cons_self)
def qa1:FIn:={ args:=[.str,.str],h:=[] }
def qa2:List FOut:=[{ res:=(.tuple [.str,(.int .i64)]),h:=[] }]
def qcm:Tmpl:={ t:=[.any,.any,.any,.any,.any,.any,.any,.any,.any,(.int .i64),(.int .i64),.any,.any,.any,.any,.any,.any,.any,.any,.any,.any,.any,.any,.any,.any,.any,.any,.any,.any,.any,.any,.any,.any,.any,.any,.any,.any,.any,.any,.any,.any,.any,.any,.any,.any,.any,.any,.any,.any,.any,.any,.any,.any,.any,.any,.any,.any,.any,.any,.any,.any,.any,.any,.any,.any,.any,.any,.any,.any,.any,.any,.any],h:=[] }
def qc7:List Out:=[{ x:=(.exit 2),tm:={ t:=[.any,.any,.any,.any,.any,.any,.any,.any,.any,(.int .i64),.any,.any,.any,.any,.any,.any,.any,.any,.any,.any,.any,.any,.any,.any,.any,.any,.any,.any,.any,.any,.any,.any,.any,.any,.any,.any,.any,.any,.any,.any,.any,.any,.any,.any,.any,.any,.any,.any,.any,.any,.any,.any,.any,.any,.any,.any,.any,.any,.any,.any,.any,.any,.any,.any,.any,.any,.any,.any,.any,.any,.any,.any],h:=[] } }]
noncomputable def q75:Env:={ tt:=qj,glob:=qa,spec:=[(132,qf q0v q0q zG),(135,qf q07 q0d qo),(136,qf q6c q6s vV),(137,qf q1r q1y zf),(138,qf uV uU qJ)],body:=[(93,Tryz.f93)],loops:=[],nimp:=0 }
noncomputable def uH (ps:List PV):TR:=jx q75 93 Tryz.f93 14 qcm qc7 ps
theorem qnH:EnvOK q75 Tryz.prog:=⟨qm qc,
 all_cons uM (all_cons ka (all_cons q5R (all_cons q2C (all_cons uu (q8))))),
 q8,
 all_cons (qh Tryz.func93 (by kernel_rfl)) (q8)⟩
theorem qlC:qO Tryz.prog qa q75.nimp (zo Tryz.prog q75.iter 93) (wM Tryz.f93 14) (qE qcm qc7 (qg uH)):=
 qv qk qnH Tryz.func93 (by kernel_rfl) (by kernel_rfl) (by kernel_rfl) (by kernel_rfl) (fun _=>rfl)
def qdz:Tmpl:={ t:=[.any,.any,.any,.any,.any,.any,.any,(.ptr 1 0),(.ptr 2 0),.any,.any,.any,.any,.any,.any,.any,.any,.any,.any,.any,.any,.any,.any,.any,.any,.any,.any,.any,.any,.any,.any,.any,.any,.any,.any,.any,.any,.any,.any,.any,.any,.any,.any,.any,.any,.any,.any,.any,.any,.any,.any,.any,.any,.any,.any,.any,.any,.any,.any,.any,.any,.any,.any,.any,.any,.any,.any,.any,.any,.any,.any,.any],h:=[.dead,.big [.bool,(.int .i64)] .i64 232,.big [.bool,(.int .i64)] .i64 232],sw:=[(7,1),(8,2)],swn:=0 }
def qem:List Out:=[{ x:=(.exit 0),tm:={ t:=[.any,.any,.any,.any,.any,.any,.any,(.ptr 1 0),.any,.any,.any,.any,.any,.any,.any,.any,.any,.any,.any,.any,.any,.any,.any,.any,.any,.any,.any,.any,.any,.any,.any,.any,.any,.any,.any,.any,.any,.any,.any,.any,.any,.any,.any,.any,.any,.any,.any,.any,.any,.any,.any,.any,.any,.any,.any,.any,.any,.any,.any,.any,.any,.any,.any,.any,.any,.any,.any,.any,.any,.any,.any,.any],h:=[.dead,.big [.bool,(.int .i64)] .i64 232] } },{ x:=.ret,tm:={ t:=[.any,.any,.any,.any,.str,(.int .i64),.any,.any,.any,.any,.any,.any,.any,.any,.any,.any,.any,.any,.any,.any,.any,.any,.any,.any,.any,.any,.any,.any,.any,.any,.any,.any,.any,.any,.any,.any,.any,.any,.any,.any,.any,.any,.any,.any,.any,.any,.any,.any,.any,.any,.any,.any,.any,.any,.any,.any,.any,.any,.any,.any,.any,.any,.any,.any,.any,.any,.any,.any,.any,.any,.any,.any],h:=[] } }]
noncomputable def q8R:Env:={ tt:=qj,glob:=qa,spec:=[(132,qf q0v q0q zG),(135,qf q07 q0d qo),(136,qf q6c q6s vV),(137,qf q1r q1y zf),(138,qf uV uU qJ)],body:=[(93,Tryz.f93)],loops:=[((93,14),qE qcm qc7 (qg uH))],nimp:=0 }
noncomputable def ji (ps:List PV):TR:=jx q8R 93 Tryz.f93 7 qdz qem ps
theorem qpl:EnvOK q8R Tryz.prog:=⟨qm qc,
 all_cons uM (all_cons ka (all_cons q5R (all_cons q2C (all_cons uu (q8))))),
 all_cons (zp Tryz.func93 (by kernel_rfl) (by kernel_rfl) qlC) (q8),
 all_cons (qh Tryz.func93 (by kernel_rfl)) (q8)⟩
theorem qo2:qO Tryz.prog qa q8R.nimp (zo Tryz.prog q8R.iter 93) (wM Tryz.f93 7) (qE qdz qem (qg ji)):=
 qv qk qpl Tryz.func93 (by kernel_rfl) (by kernel_rfl) (by kernel_rfl) (by kernel_rfl) (fun _=>rfl)
noncomputable def qqc:Env:={ tt:=qj,glob:=qa,spec:=[(132,qf q0v q0q zG),(135,qf q07 q0d qo),(136,qf q6c q6s vV),(137,qf q1r q1y zf),(138,qf uV uU qJ)],body:=[(93,Tryz.f93)],loops:=[((93,7),qE qdz qem (qg ji))],nimp:=0 }
noncomputable def jQ (ps:List PV):TR:=qW qqc 93 Tryz.f93 true qa1 qa2 ps
theorem qtg:EnvOK qqc Tryz.prog:=⟨qm qc,
 all_cons uM (all_cons ka (all_cons q5R (all_cons q2C (all_cons uu (q8))))),
 all_cons (zp Tryz.func93 (by kernel_rfl) (by kernel_rfl) qo2) (q8),
 all_cons (qh Tryz.func93 (by kernel_rfl)) (q8)⟩
theorem qcd:wi Tryz.prog qa 93 (qf qa1 qa2 jQ):=qt qk qtg Tryz.func93 (by kernel_rfl) (by kernel_rfl) (fun _=>rfl)
def q03:FIn:={ args:=[.str],h:=[] }
def q05:List FOut:=[{ res:=(.int .i64),h:=[] }]
noncomputable def qjX:Env:={ tt:=qj,glob:=qa,spec:=[(90,qf q2K q2R q9),(91,qf q06 kX qT),(92,qf qaa q9e uX),(93,qf qa1 qa2 jQ)],body:=[(52,Tryz.f52)],loops:=[],nimp:=0 }
noncomputable def zt (ps:List PV):TR:=qW qjX 52 Tryz.f52 true q03 q05 ps
theorem qqt:EnvOK qjX Tryz.prog:=⟨qm qc,
 all_cons q2d (all_cons kI (all_cons qlx (all_cons qcd (q8)))),
 q8,
 all_cons (qh Tryz.func52 (by kernel_rfl)) (q8)⟩
theorem kF:wi Tryz.prog qa 52 (qf q03 q05 zt):=qt qk qqt Tryz.func52 (by kernel_rfl) (by kernel_rfl) (fun _=>rfl)
def ux:FIn:={ args:=[(.agg [.str,.str,.str])],h:=[] }
def uv:List FOut:=[{ res:=(.int .i64),h:=[] }]
def q9X:Tmpl:={ t:=[.any,(.ptr 0 0),.any,.any,.any,.any,.any,.any,.any,.any,.any,.any,.any,.any,(.vec 1),(.int .i64),(.int .i64),.any,.any,.any,.any,.any,.any,.any,.any,.any,.any,.any,.any,.any],h:=[.cells [.str,.str,.str],.vec 22 [.str]] }
def qav:List Out:=[{ x:=(.exit 0),tm:={ t:=[.any,(.ptr 0 0),.any,.any,.any,.any,.any,.any,.any,.any,.any,.any,.any,.any,.any,.any,.any,.any,.any,.any,.any,.any,.any,.any,.any,.any,.any,.any,.any,.any],h:=[.cells [.str,.str,.str]] } },{ x:=.ret,tm:={ t:=[.any,.any,(.int .i64),.any,.any,.any,.any,.any,.any,.any,.any,.any,.any,.any,.any,.any,.any,.any,.any,.any,.any,.any,.any,.any,.any,.any,.any,.any,.any,.any],h:=[] } }]
noncomputable def q5T:Env:={ tt:=qj,glob:=qa,spec:=[(52,qf q03 q05 zt)],body:=[(15,Tryz.f15)],loops:=[],nimp:=0 }
noncomputable def jD (ps:List PV):TR:=jx q5T 15 Tryz.f15 3 q9X qav ps
theorem qlE:EnvOK q5T Tryz.prog:=⟨qm qc,
 all_cons kF (q8),
 q8,
 all_cons (qh Tryz.func15 (by kernel_rfl)) (q8)⟩
theorem qkd:qO Tryz.prog qa q5T.nimp (zo Tryz.prog q5T.iter 15) (wM Tryz.f15 3) (qE q9X qav (qg jD)):=
 qv qk qlE Tryz.func15 (by kernel_rfl) (by kernel_rfl) (by kernel_rfl) (by kernel_rfl) (fun _=>rfl)
noncomputable def qjv:Env:={ tt:=qj,glob:=qa,spec:=[(52,qf q03 q05 zt)],body:=[(15,Tryz.f15)],loops:=[((15,3),qE q9X qav (qg jD))],nimp:=0 }
noncomputable def zA (ps:List PV):TR:=qW qjv 15 Tryz.f15 true ux uv ps
theorem qpo:EnvOK qjv Tryz.prog:=⟨qm qc,
 all_cons kF (q8),
 all_cons (zp Tryz.func15 (by kernel_rfl) (by kernel_rfl) qkd) (q8),
 all_cons (qh Tryz.func15 (by kernel_rfl)) (q8)⟩
theorem uk:wi Tryz.prog qa 15 (qf ux uv zA):=qt qk qpo Tryz.func15 (by kernel_rfl) (by kernel_rfl) (fun _=>rfl)
def q5r:FIn:={ args:=[.str,.str],h:=[] }
def q5A:List FOut:=[{ res:=(.tuple [(.int .i64),(.int .i64),.bool]),h:=[] }]
noncomputable def qjE:Env:={ tt:=qj,glob:=qa,spec:=[(178,qf q6J q6O j1)],body:=[(243,Tryz.f243)],loops:=[],nimp:=0 }
noncomputable def wK (ps:List PV):TR:=qW qjE 243 Tryz.f243 true q5r q5A ps
theorem qqN:EnvOK qjE Tryz.prog:=⟨qm qc,
 all_cons q6E (q8),
 q8,
 all_cons (qh Tryz.func243 (by kernel_rfl)) (q8)⟩
theorem q8d:wi Tryz.prog qa 243 (qf q5r q5A wK):=qt qk qqN Tryz.func243 (by kernel_rfl) (by kernel_rfl) (fun _=>rfl)
def q6K:FIn:={ args:=[(.int .i64)],h:=[] }
def q72:List FOut:=[{ res:=(.tuple [.str,(.int .i64)]),h:=[] }]
noncomputable def qhW:Env:={ tt:=qj,glob:=qa,spec:=[(136,qf q6c q6s vV)],body:=[(244,Tryz.f244)],loops:=[],nimp:=0 }
noncomputable def yF (ps:List PV):TR:=qW qhW 244 Tryz.f244 true q6K q72 ps
theorem qnU:EnvOK qhW Tryz.prog:=⟨qm qc,
 all_cons q5R (q8),
 q8,
 all_cons (qh Tryz.func244 (by kernel_rfl)) (q8)⟩
theorem qcR:wi Tryz.prog qa 244 (qf q6K q72 yF):=qt qk qnU Tryz.func244 (by kernel_rfl) (by kernel_rfl) (fun _=>rfl)
def un:FIn:={ args:=[(.ptr 0 0)],h:=[.big [.bool,(.int .i64)] .i64 232] }
def ut:List FOut:=[{ res:=(.tuple [.str,(.int .i64)]),h:=[.big [.bool,(.int .i64)] .i64 232] }]
noncomputable def q8k:Env:={ tt:=qj,glob:=qa,spec:=[(91,qf q06 kX qT),(138,qf uV uU qJ)],body:=[(246,Tryz.f246)],loops:=[],nimp:=1 }
noncomputable def wd (ps:List PV):TR:=qW q8k 246 Tryz.f246 true un ut ps
theorem qf2:EnvOK q8k Tryz.prog:=⟨qm qc,
 all_cons kI (all_cons uu (q8)),
 q8,
 all_cons (qh Tryz.func246 (by kernel_rfl)) (q8)⟩
theorem q1M:wi Tryz.prog qa 246 (qf un ut wd):=qt qk qf2 Tryz.func246 (by kernel_rfl) (by kernel_rfl) (fun _=>rfl)
def q15:FIn:={ args:=[(.ptr 0 0),(.ptr 1 0)],h:=[.big [.bool,(.int .i64)] .i64 232,.big [.bool,(.int .i64)] .i64 232] }
def q1e:List FOut:=[{ res:=(.tuple []),h:=[.big [.bool,(.int .i64)] .i64 232,.big [.bool,(.int .i64)] .i64 232] }]
noncomputable def qd3:Env:={ tt:=qj,glob:=qa,spec:=[(181,qf ym yl v6),(183,qf vP vN qZ)],body:=[(268,Tryz.f268)],loops:=[],nimp:=2 }
noncomputable def wl (ps:List PV):TR:=qW qd3 268 Tryz.f268 true q15 q1e ps
theorem qj7:EnvOK qd3 Tryz.prog:=⟨qm qc,
 all_cons kx (all_cons js (q8)),
 q8,
 all_cons (qh Tryz.func268 (by kernel_rfl)) (q8)⟩
theorem q3K:wi Tryz.prog qa 268 (qf q15 q1e wl):=qt qk qj7 Tryz.func268 (by kernel_rfl) (by kernel_rfl) (fun _=>rfl)
def qir:FIn:={ args:=[(.imm [.str])],h:=[] }
def qip:List FOut:=[{ res:=(.tuple [.str,(.int .i64)]),h:=[] }]
def qdy:Tmpl:={ t:=[.any,.any,.any,.any,(.ptr 0 0),.any,.any,.any,.any,(.imm [.str]),(.int .i64),(.int .i64),.any,.any,.any,.any,.any,.any,.any,.any,.any,.any,.any,.any],h:=[.big [.bool,(.int .i64)] .i64 232] }
def qdY:List Out:=[{ x:=(.exit 0),tm:={ t:=[.any,.any,.any,.any,(.ptr 0 0),.any,.any,.any,.any,.any,.any,.any,.any,.any,.any,.any,.any,.any,.any,.any,.any,.any,.any,.any],h:=[.big [.bool,(.int .i64)] .i64 232] } }]
noncomputable def q94:Env:={ tt:=qj,glob:=qa,spec:=[(135,qf q07 q0d qo),(246,qf un ut wd),(268,qf q15 q1e wl)],body:=[(247,Tryz.f247)],loops:=[],nimp:=0 }
noncomputable def vk (ps:List PV):TR:=jx q94 247 Tryz.f247 4 qdy qdY ps
theorem qqC:EnvOK q94 Tryz.prog:=⟨qm qc,
 all_cons ka (all_cons q1M (all_cons q3K (q8))),
 q8,
 all_cons (qh Tryz.func247 (by kernel_rfl)) (q8)⟩
theorem qnD:qO Tryz.prog qa q94.nimp (zo Tryz.prog q94.iter 247) (wM Tryz.f247 4) (qE qdy qdY (qg vk)):=
 qv qk qqC Tryz.func247 (by kernel_rfl) (by kernel_rfl) (by kernel_rfl) (by kernel_rfl) (fun _=>rfl)
noncomputable def qpp:Env:={ tt:=qj,glob:=qa,spec:=[(135,qf q07 q0d qo),(246,qf un ut wd),(268,qf q15 q1e wl)],body:=[(247,Tryz.f247)],loops:=[((247,4),qE qdy qdY (qg vk))],nimp:=0 }
noncomputable def q4D (ps:List PV):TR:=qW qpp 247 Tryz.f247 true qir qip ps
theorem quL:EnvOK qpp Tryz.prog:=⟨qm qc,
 all_cons ka (all_cons q1M (all_cons q3K (q8))),
 all_cons (zp Tryz.func247 (by kernel_rfl) (by kernel_rfl) qnD) (q8),
 all_cons (qh Tryz.func247 (by kernel_rfl)) (q8)⟩
theorem qse:wi Tryz.prog qa 247 (qf qir qip q4D):=qt qk quL Tryz.func247 (by kernel_rfl) (by kernel_rfl) (fun _=>rfl)
def qaB:FIn:={ args:=[.str,.str],h:=[] }
def qab:List FOut:=[{ res:=(.tuple [.str,(.int .i64)]),h:=[] }]
noncomputable def qqh:Env:={ tt:=qj,glob:=qa,spec:=[(132,qf q0v q0q zG),(243,qf q5r q5A wK),(244,qf q6K q72 yF),(247,qf qir qip q4D)],body:=[(209,Tryz.f209)],loops:=[],nimp:=0 }
noncomputable def jO (ps:List PV):TR:=qW qqh 209 Tryz.f209 true qaB qab ps
theorem qtD:EnvOK qqh Tryz.prog:=⟨qm qc,
 all_cons uM (all_cons q8d (all_cons qcR (all_cons qse (q8)))),
 q8,
 all_cons (qh Tryz.func209 (by kernel_rfl)) (q8)⟩
theorem qc6:wi Tryz.prog qa 209 (qf qaB qab jO):=qt qk qtD Tryz.func209 (by kernel_rfl) (by kernel_rfl) (fun _=>rfl)
def q8h:FIn:={ args:=[.str],h:=[] }
def q7V:List FOut:=[{ res:=.str,h:=[] }]
noncomputable def qeC:Env:={ tt:=qj,glob:=qa,spec:=[(133,qf q7o q78 wu)],body:=[(242,Tryz.f242)],loops:=[],nimp:=0 }
noncomputable def jZ (ps:List PV):TR:=qW qeC 242 Tryz.f242 true q8h q7V ps
theorem qly:EnvOK qeC Tryz.prog:=⟨qm qc,
 all_cons q9K (q8),
 q8,
 all_cons (qh Tryz.func242 (by kernel_rfl)) (q8)⟩
theorem qii:wi Tryz.prog qa 242 (qf q8h q7V jZ):=qt qk qly Tryz.func242 (by kernel_rfl) (by kernel_rfl) (fun _=>rfl)
def qe3:FIn:={ args:=[.str,.str],h:=[] }
def qdw:List FOut:=[{ res:=(.tuple [.str,(.int .i64)]),h:=[] }]
noncomputable def qp3:Env:={ tt:=qj,glob:=qa,spec:=[(132,qf q0v q0q zG),(209,qf qaB qab jO),(242,qf q8h q7V jZ)],body:=[(207,Tryz.f207)],loops:=[],nimp:=0 }
noncomputable def q0s (ps:List PV):TR:=qW qp3 207 Tryz.f207 true qe3 qdw ps
theorem qu9:EnvOK qp3 Tryz.prog:=⟨qm qc,
 all_cons uM (all_cons qc6 (all_cons qii (q8))),
 q8,
 all_cons (qh Tryz.func207 (by kernel_rfl)) (q8)⟩
theorem qhU:wi Tryz.prog qa 207 (qf qe3 qdw q0s):=qt qk qu9 Tryz.func207 (by kernel_rfl) (by kernel_rfl) (fun _=>rfl)
def q0n:FIn:={ args:=[(.ptr 0 0),(.fn 207 [] []),.str,.str],h:=[.cells [(.int .i64)]] }
def q0H:List FOut:=[{ res:=.str,h:=[.cells [(.int .i64)]] }]
noncomputable def q4h:Env:={ tt:=qj,glob:=qa,spec:=[(207,qf qe3 qdw q0s)],body:=[(206,Tryz.f206)],loops:=[],nimp:=1 }
noncomputable def wG (ps:List PV):TR:=qW q4h 206 Tryz.f206 true q0n q0H ps
theorem qal:EnvOK q4h Tryz.prog:=⟨qm qc,
 all_cons qhU (q8),
 q8,
 all_cons (qh Tryz.func206 (by kernel_rfl)) (q8)⟩
theorem q90:wi Tryz.prog qa 206 (qf q0n q0H wG):=qt qk qal Tryz.func206 (by kernel_rfl) (by kernel_rfl) (fun _=>rfl)
def kK:FIn:={ args:=[(.ptr 0 0),.str,.str],h:=[.cells [(.int .i64)]] }
def kJ:List FOut:=[{ res:=.str,h:=[.cells [(.int .i64)]] }]
noncomputable def qeB:Env:={ tt:=qj,glob:=qa,spec:=[(207,qf qe3 qdw q0s),(206,qf q0n q0H wG)],body:=[(162,Tryz.f162)],loops:=[],nimp:=1 }
noncomputable def zE (ps:List PV):TR:=qW qeB 162 Tryz.f162 true kK kJ ps
theorem qll:EnvOK qeB Tryz.prog:=⟨qm qc,
 all_cons qhU (all_cons q90 (q8)),
 q8,
 all_cons (qh Tryz.func162 (by kernel_rfl)) (q8)⟩
theorem q1Z:wi Tryz.prog qa 162 (qf kK kJ zE):=qt qk qll Tryz.func162 (by kernel_rfl) (by kernel_rfl) (fun _=>rfl)
def q5O:FIn:={ args:=[(.ptr 0 0),(.ptr 1 0)],h:=[.big [.bool,(.int .i64)] .i64 232,.big [.bool,(.int .i64)] .i64 232] }
def q59:List FOut:=[{ res:=(.ptr 2 0),h:=[.big [.bool,(.int .i64)] .i64 232,.big [.bool,(.int .i64)] .i64 232,.big [.bool,(.int .i64)] .i64 232] }]
def q3I:Tmpl:={ t:=[(.ptr 0 0),(.ptr 1 0),.any,.any,.any,(.ptr 2 0),.any,.any,.any,.any,.any,.any,.any,.any,.any,.any,.any,.any,.any,.any,.any,(.int .i64),(.int .i64),.any,.any,.any,.any,.any,.any,.any,.any,.any,.any,.any,.any,.any,.any],h:=[.big [.bool,(.int .i64)] .i64 232,.big [.bool,(.int .i64)] .i64 232,.big [.bool,(.int .i64)] .i64 232] }
def q3F:List Out:=[{ x:=(.exit 0),tm:={ t:=[.any,.any,.any,.any,.any,(.ptr 2 0),.any,.any,.any,.any,.any,.any,.any,.any,.any,.any,.any,.any,.any,.any,.any,.any,.any,.any,.any,.any,.any,.any,.any,.any,.any,.any,.any,.any,.any,.any,.any],h:=[.big [.bool,(.int .i64)] .i64 232,.big [.bool,(.int .i64)] .i64 232,.big [.bool,(.int .i64)] .i64 232] } }]
noncomputable def q0N:Env:={ tt:=qj,glob:=qa,spec:=[(183,qf vP vN qZ)],body:=[(245,Tryz.f245)],loops:=[],nimp:=2 }
noncomputable def zv (ps:List PV):TR:=jx q0N 245 Tryz.f245 4 q3I q3F ps
theorem qf5:EnvOK q0N Tryz.prog:=⟨qm qc,
 all_cons js (q8),
 q8,
 all_cons (qh Tryz.func245 (by kernel_rfl)) (q8)⟩
theorem qdH:qO Tryz.prog qa q0N.nimp (zo Tryz.prog q0N.iter 245) (wM Tryz.f245 4) (qE q3I q3F (qg zv)):=
 qv qk qf5 Tryz.func245 (by kernel_rfl) (by kernel_rfl) (by kernel_rfl) (by kernel_rfl) (fun _=>rfl)
noncomputable def qbk:Env:={ tt:=qj,glob:=qa,spec:=[(183,qf vP vN qZ)],body:=[(245,Tryz.f245)],loops:=[((245,4),qE q3I q3F (qg zv))],nimp:=2 }
noncomputable def q00 (ps:List PV):TR:=qW qbk 245 Tryz.f245 false q5O q59 ps
theorem qh1:EnvOK qbk Tryz.prog:=⟨qm qc,
 all_cons js (q8),
 all_cons (zp Tryz.func245 (by kernel_rfl) (by kernel_rfl) qdH) (q8),
 all_cons (qh Tryz.func245 (by kernel_rfl)) (q8)⟩
theorem qgk:wi Tryz.prog qa 245 (qf q5O q59 q00):=qt qk qh1 Tryz.func245 (by kernel_rfl) (by kernel_rfl) (fun _=>rfl)
def q9w:FIn:={ args:=[.str,.str],h:=[] }
def q9O:List FOut:=[{ res:=(.tuple [.str,(.int .i64)]),h:=[] }]
noncomputable def qpk:Env:={ tt:=qj,glob:=qa,spec:=[(132,qf q0v q0q zG),(135,qf q07 q0d qo),(243,qf q5r q5A wK),(244,qf q6K q72 yF),(245,qf q5O q59 q00),(246,qf un ut wd)],body:=[(208,Tryz.f208)],loops:=[],nimp:=0 }
noncomputable def kr (ps:List PV):TR:=qW qpk 208 Tryz.f208 true q9w q9O ps
theorem quK:EnvOK qpk Tryz.prog:=⟨qm qc,
 all_cons uM (all_cons ka (all_cons q8d (all_cons qcR (all_cons qgk (all_cons q1M (q8)))))),
 q8,
 all_cons (qh Tryz.func208 (by kernel_rfl)) (q8)⟩
theorem qc2:wi Tryz.prog qa 208 (qf q9w q9O kr):=qt qk quK Tryz.func208 (by kernel_rfl) (by kernel_rfl) (fun _=>rfl)
def yA:FIn:={ args:=[(.ptr 0 0),(.fn 208 [] []),.str,.str],h:=[.cells [(.int .i64)]] }
def yJ:List FOut:=[{ res:=.str,h:=[.cells [(.int .i64)]] }]
noncomputable def q47:Env:={ tt:=qj,glob:=qa,spec:=[(208,qf q9w q9O kr)],body:=[(206,Tryz.f206)],loops:=[],nimp:=1 }
noncomputable def zT (ps:List PV):TR:=qW q47 206 Tryz.f206 true yA yJ ps
theorem q9h:EnvOK q47 Tryz.prog:=⟨qm qc,
 all_cons qc2 (q8),
 q8,
 all_cons (qh Tryz.func206 (by kernel_rfl)) (q8)⟩
theorem q2u:wi Tryz.prog qa 206 (qf yA yJ zT):=qt qk q9h Tryz.func206 (by kernel_rfl) (by kernel_rfl) (fun _=>rfl)
def yd:FIn:={ args:=[(.ptr 0 0),(.imm [.str])],h:=[.cells [(.int .i64)]] }
def jW:List FOut:=[{ res:=.str,h:=[.cells [(.int .i64)]] }]
def q5M:Tmpl:={ t:=[.any,.any,.any,.any,.any,.str,(.fn 206 [(.ptr 0 0)] []),.any,.any,.any,.any,(.imm [.str]),(.int .i64),(.int .i64),.any,.any,.any,.any,.any,.any,.any,.any,.any],h:=[.cells [(.int .i64)]] }
def q5u:List Out:=[{ x:=(.exit 0),tm:={ t:=[.any,.any,.any,.any,.any,.str,.any,.any,.any,.any,.any,.any,.any,.any,.any,.any,.any,.any,.any,.any,.any,.any,.any],h:=[.cells [(.int .i64)]] } }]
noncomputable def q2x:Env:={ tt:=qj,glob:=qa,spec:=[(208,qf q9w q9O kr),(206,qf yA yJ zT)],body:=[(163,Tryz.f163)],loops:=[],nimp:=1 }
noncomputable def vR (ps:List PV):TR:=jx q2x 163 Tryz.f163 4 q5M q5u ps
theorem qhh:EnvOK q2x Tryz.prog:=⟨qm qc,
 all_cons qc2 (all_cons q2u (q8)),
 q8,
 all_cons (qh Tryz.func163 (by kernel_rfl)) (q8)⟩
theorem qfG:qO Tryz.prog qa q2x.nimp (zo Tryz.prog q2x.iter 163) (wM Tryz.f163 4) (qE q5M q5u (qg vR)):=
 qv qk qhh Tryz.func163 (by kernel_rfl) (by kernel_rfl) (by kernel_rfl) (by kernel_rfl) (fun _=>rfl)
noncomputable def qes:Env:={ tt:=qj,glob:=qa,spec:=[(208,qf q9w q9O kr),(206,qf yA yJ zT)],body:=[(163,Tryz.f163)],loops:=[((163,4),qE q5M q5u (qg vR))],nimp:=1 }
noncomputable def qe (ps:List PV):TR:=qW qes 163 Tryz.f163 true yd jW ps
theorem qjQ:EnvOK qes Tryz.prog:=⟨qm qc,
 all_cons qc2 (all_cons q2u (q8)),
 all_cons (zp Tryz.func163 (by kernel_rfl) (by kernel_rfl) qfG) (q8),
 all_cons (qh Tryz.func163 (by kernel_rfl)) (q8)⟩
theorem yj:wi Tryz.prog qa 163 (qf yd jW qe):=qt qk qjQ Tryz.func163 (by kernel_rfl) (by kernel_rfl) (fun _=>rfl)
def q8O:FIn:={ args:=[(.ptr 0 0),.str,.str,.str,.str],h:=[.cells [(.int .i64)]] }
def q92:List FOut:=[{ res:=(.tuple [.str,.str]),h:=[.cells [(.int .i64)]] }]
noncomputable def qkr:Env:={ tt:=qj,glob:=qa,spec:=[(162,qf kK kJ zE),(163,qf yd jW qe)],body:=[(161,Tryz.f161)],loops:=[],nimp:=1 }
noncomputable def zX (ps:List PV):TR:=qW qkr 161 Tryz.f161 true q8O q92 ps
theorem qq5:EnvOK qkr Tryz.prog:=⟨qm qc,
 all_cons q1Z (all_cons yj (q8)),
 q8,
 all_cons (qh Tryz.func161 (by kernel_rfl)) (q8)⟩
theorem qeK:wi Tryz.prog qa 161 (qf q8O q92 zX):=qt qk qq5 Tryz.func161 (by kernel_rfl) (by kernel_rfl) (fun _=>rfl)
def uQ:FIn:={ args:=[(.imm [.str])],h:=[] }
def uN:List FOut:=[{ res:=(.int .i64),h:=[] }]
def q7y:Tmpl:={ t:=[.any,.any,.any,.any,.any,.any,(.imm [.str]),(.int .i64),(.int .i64),.any,.any,.any,.any,.any,.any,.any,.any,.any],h:=[] }
def q8f:List Out:=[{ x:=(.exit 0),tm:={ t:=[.any,.any,.any,.any,.any,.any,.any,.any,.any,.any,.any,.any,.any,.any,.any,.any,.any,.any],h:=[] } },{ x:=.ret,tm:={ t:=[.any,.any,(.int .i64),.any,.any,.any,.any,.any,.any,.any,.any,.any,.any,.any,.any,.any,.any,.any],h:=[] } }]
noncomputable def q4q:Env:={ tt:=qj,glob:=qa,spec:=[(52,qf q03 q05 zt)],body:=[(187,Tryz.f187)],loops:=[],nimp:=0 }
noncomputable def ue (ps:List PV):TR:=jx q4q 187 Tryz.f187 3 q7y q8f ps
theorem qk5:EnvOK q4q Tryz.prog:=⟨qm qc,
 all_cons kF (q8),
 q8,
 all_cons (qh Tryz.func187 (by kernel_rfl)) (q8)⟩
theorem qiP:qO Tryz.prog qa q4q.nimp (zo Tryz.prog q4q.iter 187) (wM Tryz.f187 3) (qE q7y q8f (qg ue)):=
 qv qk qk5 Tryz.func187 (by kernel_rfl) (by kernel_rfl) (by kernel_rfl) (by kernel_rfl) (fun _=>rfl)
noncomputable def qig:Env:={ tt:=qj,glob:=qa,spec:=[(52,qf q03 q05 zt)],body:=[(187,Tryz.f187)],loops:=[((187,3),qE q7y q8f (qg ue))],nimp:=0 }
noncomputable def za (ps:List PV):TR:=qW qig 187 Tryz.f187 true uQ uN ps
theorem qnS:EnvOK qig Tryz.prog:=⟨qm qc,
 all_cons kF (q8),
 all_cons (zp Tryz.func187 (by kernel_rfl) (by kernel_rfl) qiP) (q8),
 all_cons (qh Tryz.func187 (by kernel_rfl)) (q8)⟩
theorem uT:wi Tryz.prog qa 187 (qf uQ uN za):=qt qk qnS Tryz.func187 (by kernel_rfl) (by kernel_rfl) (fun _=>rfl)
def q4E:FIn:={ args:=[.str,.str],h:=[] }
def q4I:List FOut:=[{ res:=.bool,h:=[] }]
noncomputable def qag:Env:={ tt:=qj,glob:=qa,spec:=[(213,qf vq vr zd)],body:=[(239,Tryz.f239)],loops:=[],nimp:=0 }
noncomputable def kj (ps:List PV):TR:=qW qag 239 Tryz.f239 true q4E q4I ps
theorem qfP:EnvOK qag Tryz.prog:=⟨qm qc,
 all_cons kp (q8),
 q8,
 all_cons (qh Tryz.func239 (by kernel_rfl)) (q8)⟩
theorem qeY:wi Tryz.prog qa 239 (qf q4E q4I kj):=qt qk qfP Tryz.func239 (by kernel_rfl) (by kernel_rfl) (fun _=>rfl)
def qbT:FIn:={ args:=[.str,.str],h:=[] }
def qbB:List FOut:=[{ res:=.str,h:=[] }]
noncomputable def qib:Env:={ tt:=qj,glob:=qa,spec:=[],body:=[(240,Tryz.f240)],loops:=[],nimp:=0 }
noncomputable def q29 (ps:List PV):TR:=qW qib 240 Tryz.f240 true qbT qbB ps
theorem qoh:EnvOK qib Tryz.prog:=⟨qm qc,
 q8,
 q8,
 all_cons (qh Tryz.func240 (by kernel_rfl)) (q8)⟩
theorem qlI:wi Tryz.prog qa 240 (qf qbT qbB q29):=qt qk qoh Tryz.func240 (by kernel_rfl) (by kernel_rfl) (fun _=>rfl)
def qbI:FIn:={ args:=[.str,.str],h:=[] }
def qbL:List FOut:=[{ res:=(.tuple [.str,.str,(.int .i64)]),h:=[] }]
noncomputable def qhu:Env:={ tt:=qj,glob:=qa,spec:=[(132,qf q0v q0q zG),(135,qf q07 q0d qo),(136,qf q6c q6s vV),(137,qf q1r q1y zf),(138,qf uV uU qJ),(243,qf q5r q5A wK),(268,qf q15 q1e wl)],body:=[(267,Tryz.f267)],loops:=[],nimp:=0 }
noncomputable def j7 (ps:List PV):TR:=qW qhu 267 Tryz.f267 true qbI qbL ps
theorem qnR:EnvOK qhu Tryz.prog:=⟨qm qc,
 all_cons uM (all_cons ka (all_cons q5R (all_cons q2C (all_cons uu (all_cons q8d (all_cons q3K (q8))))))),
 q8,
 all_cons (qh Tryz.func267 (by kernel_rfl)) (q8)⟩
theorem qm7:wi Tryz.prog qa 267 (qf qbI qbL j7):=qt qk qnR Tryz.func267 (by kernel_rfl) (by kernel_rfl) (fun _=>rfl)
def qec:FIn:={ args:=[.str,.str],h:=[] }
def qe6:List FOut:=[{ res:=(.tuple [.str,(.int .i64)]),h:=[] }]
noncomputable def qqW:Env:={ tt:=qj,glob:=qa,spec:=[(91,qf q06 kX qT),(267,qf qbI qbL j7)],body:=[(241,Tryz.f241)],loops:=[],nimp:=0 }
noncomputable def q0y (ps:List PV):TR:=qW qqW 241 Tryz.f241 true qec qe6 ps
theorem qtK:EnvOK qqW Tryz.prog:=⟨qm qc,
 all_cons kI (all_cons qm7 (q8)),
 q8,
 all_cons (qh Tryz.func241 (by kernel_rfl)) (q8)⟩
theorem qia:wi Tryz.prog qa 241 (qf qec qe6 q0y):=qt qk qtK Tryz.func241 (by kernel_rfl) (by kernel_rfl) (fun _=>rfl)
def yE:FIn:={ args:=[(.ptr 0 0),(.fn 93 [] []),.str,.str],h:=[.cells [(.int .i64)]] }
def q0C:List FOut:=[{ res:=.str,h:=[.cells [(.int .i64)]] }]
noncomputable def q40:Env:={ tt:=qj,glob:=qa,spec:=[(93,qf qa1 qa2 jQ)],body:=[(206,Tryz.f206)],loops:=[],nimp:=1 }
noncomputable def j0 (ps:List PV):TR:=qW q40 206 Tryz.f206 true yE q0C ps
theorem qax:EnvOK q40 Tryz.prog:=⟨qm qc,
 all_cons qcd (q8),
 q8,
 all_cons (qh Tryz.func206 (by kernel_rfl)) (q8)⟩
theorem q8z:wi Tryz.prog qa 206 (qf yE q0C j0):=qt qk qax Tryz.func206 (by kernel_rfl) (by kernel_rfl) (fun _=>rfl)
def yG:FIn:={ args:=[(.ptr 0 0),(.fn 241 [] []),.str,.str],h:=[.cells [(.int .i64)]] }
def q0g:List FOut:=[{ res:=.str,h:=[.cells [(.int .i64)]] }]
noncomputable def q3Z:Env:={ tt:=qj,glob:=qa,spec:=[(241,qf qec qe6 q0y)],body:=[(206,Tryz.f206)],loops:=[],nimp:=1 }
noncomputable def zR (ps:List PV):TR:=qW q3Z 206 Tryz.f206 true yG q0g ps
theorem qa8:EnvOK q3Z Tryz.prog:=⟨qm qc,
 all_cons qia (q8),
 q8,
 all_cons (qh Tryz.func206 (by kernel_rfl)) (q8)⟩
theorem q8C:wi Tryz.prog qa 206 (qf yG q0g zR):=qt qk qa8 Tryz.func206 (by kernel_rfl) (by kernel_rfl) (fun _=>rfl)
def yk:FIn:={ args:=[(.ptr 0 0),.str,.str],h:=[.cells [(.int .i64)]] }
def yi:List FOut:=[{ res:=.str,h:=[.cells [(.int .i64)]] }]
noncomputable def q9J:Env:={ tt:=qj,glob:=qa,spec:=[(93,qf qa1 qa2 jQ),(162,qf kK kJ zE),(239,qf q4E q4I kj),(240,qf qbT qbB q29),(241,qf qec qe6 q0y),(206,qFv [(yE,qf yE q0C j0),(yG,qf yG q0g zR)])],body:=[(205,Tryz.f205)],loops:=[],nimp:=1 }
noncomputable def qX (ps:List PV):TR:=qW q9J 205 Tryz.f205 true yk yi ps
theorem qg5:EnvOK q9J Tryz.prog:=⟨qm qc,
 all_cons qcd (all_cons q1Z (all_cons qeY (all_cons qlI (all_cons qia (all_cons (qCB (q2Z Tryz.func206 (by kernel_rfl) (by kernel_rfl)) (qye q8z (qye q8C (qDh)))) (q8)))))),
 q8,
 all_cons (qh Tryz.func205 (by kernel_rfl)) (q8)⟩
theorem kw:wi Tryz.prog qa 205 (qf yk yi qX):=qt qk qg5 Tryz.func205 (by kernel_rfl) (by kernel_rfl) (fun _=>rfl)
def q1z:FIn:={ args:=[.str,.str,(.fn 161 [] [])],h:=[] }
def q13:List FOut:=[{ res:=(.tuple [.str,(.int .i64)]),h:=[] }]
noncomputable def q4X:Env:={ tt:=qj,glob:=qa,spec:=[(90,qf q2K q2R q9),(161,qf q8O q92 zX),(187,qf uQ uN za),(205,qf yk yi qX)],body:=[(160,Tryz.f160)],loops:=[],nimp:=0 }
noncomputable def wO (ps:List PV):TR:=qW q4X 160 Tryz.f160 true q1z q13 ps
theorem qaH:EnvOK q4X Tryz.prog:=⟨qm qc,
 all_cons q2d (all_cons qeK (all_cons uT (all_cons kw (q8)))),
 q8,
 all_cons (qh Tryz.func160 (by kernel_rfl)) (q8)⟩
theorem qaw:wi Tryz.prog qa 160 (qf q1z q13 wO):=qt qk qaH Tryz.func160 (by kernel_rfl) (by kernel_rfl) (fun _=>rfl)
def qe1:FIn:={ args:=[.str,.str],h:=[] }
def qeh:List FOut:=[{ res:=(.tuple [.str,(.int .i64)]),h:=[] }]
noncomputable def qpA:Env:={ tt:=qj,glob:=qa,spec:=[(161,qf q8O q92 zX),(160,qf q1z q13 wO)],body:=[(122,Tryz.f122)],loops:=[],nimp:=0 }
noncomputable def q0i (ps:List PV):TR:=qW qpA 122 Tryz.f122 true qe1 qeh ps
theorem qtW:EnvOK qpA Tryz.prog:=⟨qm qc,
 all_cons qeK (all_cons qaw (q8)),
 q8,
 all_cons (qh Tryz.func122 (by kernel_rfl)) (q8)⟩
theorem qhC:wi Tryz.prog qa 122 (qf qe1 qeh q0i):=qt qk qtW Tryz.func122 (by kernel_rfl) (by kernel_rfl) (fun _=>rfl)
def q0t:FIn:={ args:=[(.ptr 0 0),(.fn 122 [] []),.str,.str],h:=[.cells [(.int .i64)]] }
def q0z:List FOut:=[{ res:=.str,h:=[.cells [(.int .i64)]] }]
noncomputable def q44:Env:={ tt:=qj,glob:=qa,spec:=[(122,qf qe1 qeh q0i)],body:=[(121,Tryz.f121)],loops:=[],nimp:=1 }
noncomputable def wE (ps:List PV):TR:=qW q44 121 Tryz.f121 true q0t q0z ps
theorem q9G:EnvOK q44 Tryz.prog:=⟨qm qc,
 all_cons qhC (q8),
 q8,
 all_cons (qh Tryz.func121 (by kernel_rfl)) (q8)⟩
theorem q8Q:wi Tryz.prog qa 121 (qf q0t q0z wE):=qt qk q9G Tryz.func121 (by kernel_rfl) (by kernel_rfl) (fun _=>rfl)
def uj:FIn:={ args:=[(.ptr 0 0),.str,.str],h:=[.cells [(.int .i64)]] }
def uf:List FOut:=[{ res:=.str,h:=[.cells [(.int .i64)]] }]
noncomputable def qeL:Env:={ tt:=qj,glob:=qa,spec:=[(122,qf qe1 qeh q0i),(121,qf q0t q0z wE)],body:=[(84,Tryz.f84)],loops:=[],nimp:=1 }
noncomputable def qG (ps:List PV):TR:=qW qeL 84 Tryz.f84 true uj uf ps
theorem qjV:EnvOK qeL Tryz.prog:=⟨qm qc,
 all_cons qhC (all_cons q8Q (q8)),
 q8,
 all_cons (qh Tryz.func84 (by kernel_rfl)) (q8)⟩
theorem kq:wi Tryz.prog qa 84 (qf uj uf qG):=qt qk qjV Tryz.func84 (by kernel_rfl) (by kernel_rfl) (fun _=>rfl)
def q1q:FIn:={ args:=[(.ptr 0 0),(.agg [.str,.str]),(.agg [.str,.str])],h:=[.cells [(.int .i64)]] }
def q1n:List FOut:=[{ res:=(.agg [.str,.str]),h:=[.cells [(.int .i64)]] }]
noncomputable def qdc:Env:={ tt:=qj,glob:=qa,spec:=[(84,qf uj uf qG)],body:=[(95,Tryz.f95)],loops:=[],nimp:=1 }
noncomputable def qR (ps:List PV):TR:=qW qdc 95 Tryz.f95 true q1q q1n ps
theorem qiI:EnvOK qdc Tryz.prog:=⟨qm qc,
 all_cons kq (q8),
 q8,
 all_cons (qh Tryz.func95 (by kernel_rfl)) (q8)⟩
theorem q3J:wi Tryz.prog qa 95 (qf q1q q1n qR):=qt qk qiI Tryz.func95 (by kernel_rfl) (by kernel_rfl) (fun _=>rfl)
def q0x:FIn:={ args:=[(.ptr 0 0),(.fn 209 [] []),.str,.str],h:=[.cells [(.int .i64)]] }
def q0r:List FOut:=[{ res:=.str,h:=[.cells [(.int .i64)]] }]
noncomputable def q3V:Env:={ tt:=qj,glob:=qa,spec:=[(209,qf qaB qab jO)],body:=[(206,Tryz.f206)],loops:=[],nimp:=1 }
noncomputable def wB (ps:List PV):TR:=qW q3V 206 Tryz.f206 true q0x q0r ps
theorem q9u:EnvOK q3V Tryz.prog:=⟨qm qc,
 all_cons qc6 (q8),
 q8,
 all_cons (qh Tryz.func206 (by kernel_rfl)) (q8)⟩
theorem q8V:wi Tryz.prog qa 206 (qf q0x q0r wB):=qt qk q9u Tryz.func206 (by kernel_rfl) (by kernel_rfl) (fun _=>rfl)
def q4u:FIn:={ args:=[(.ptr 0 0),.str,.str],h:=[.cells [(.int .i64)]] }
def q4w:List FOut:=[{ res:=.str,h:=[.cells [(.int .i64)]] }]
noncomputable def qey:Env:={ tt:=qj,glob:=qa,spec:=[(209,qf qaB qab jO),(206,qf q0x q0r wB)],body:=[(165,Tryz.f165)],loops:=[],nimp:=1 }
noncomputable def vd (ps:List PV):TR:=qW qey 165 Tryz.f165 true q4u q4w ps
theorem qlu:EnvOK qey Tryz.prog:=⟨qm qc,
 all_cons qc6 (all_cons q8V (q8)),
 q8,
 all_cons (qh Tryz.func165 (by kernel_rfl)) (q8)⟩
theorem q9p:wi Tryz.prog qa 165 (qf q4u q4w vd):=qt qk qlu Tryz.func165 (by kernel_rfl) (by kernel_rfl) (fun _=>rfl)
def q8E:FIn:={ args:=[(.ptr 0 0),.str,.str,.str,.str],h:=[.cells [(.int .i64)]] }
def q95:List FOut:=[{ res:=(.tuple [.str,.str]),h:=[.cells [(.int .i64)]] }]
noncomputable def ql4:Env:={ tt:=qj,glob:=qa,spec:=[(163,qf yd jW qe),(165,qf q4u q4w vd)],body:=[(164,Tryz.f164)],loops:=[],nimp:=1 }
noncomputable def zW (ps:List PV):TR:=qW ql4 164 Tryz.f164 true q8E q95 ps
theorem qpn:EnvOK ql4 Tryz.prog:=⟨qm qc,
 all_cons yj (all_cons q9p (q8)),
 q8,
 all_cons (qh Tryz.func164 (by kernel_rfl)) (q8)⟩
theorem qeN:wi Tryz.prog qa 164 (qf q8E q95 zW):=qt qk qpn Tryz.func164 (by kernel_rfl) (by kernel_rfl) (fun _=>rfl)
def q1b:FIn:={ args:=[.str,.str,(.fn 164 [] [])],h:=[] }
def q0X:List FOut:=[{ res:=(.tuple [.str,(.int .i64)]),h:=[] }]
noncomputable def q51:Env:={ tt:=qj,glob:=qa,spec:=[(90,qf q2K q2R q9),(164,qf q8E q95 zW),(187,qf uQ uN za),(205,qf yk yi qX)],body:=[(160,Tryz.f160)],loops:=[],nimp:=0 }
noncomputable def wW (ps:List PV):TR:=qW q51 160 Tryz.f160 true q1b q0X ps
theorem qaM:EnvOK q51 Tryz.prog:=⟨qm qc,
 all_cons q2d (all_cons qeN (all_cons uT (all_cons kw (q8)))),
 q8,
 all_cons (qh Tryz.func160 (by kernel_rfl)) (q8)⟩
theorem qa9:wi Tryz.prog qa 160 (qf q1b q0X wW):=qt qk qaM Tryz.func160 (by kernel_rfl) (by kernel_rfl) (fun _=>rfl)
def qdM:FIn:={ args:=[.str,.str],h:=[] }
def qel:List FOut:=[{ res:=(.tuple [.str,(.int .i64)]),h:=[] }]
noncomputable def qpI:Env:={ tt:=qj,glob:=qa,spec:=[(164,qf q8E q95 zW),(160,qf q1b q0X wW)],body:=[(123,Tryz.f123)],loops:=[],nimp:=0 }
noncomputable def q0u (ps:List PV):TR:=qW qpI 123 Tryz.f123 true qdM qel ps
theorem qur:EnvOK qpI Tryz.prog:=⟨qm qc,
 all_cons qeN (all_cons qa9 (q8)),
 q8,
 all_cons (qh Tryz.func123 (by kernel_rfl)) (q8)⟩
theorem qhO:wi Tryz.prog qa 123 (qf qdM qel q0u):=qt qk qur Tryz.func123 (by kernel_rfl) (by kernel_rfl) (fun _=>rfl)
def q0k:FIn:={ args:=[(.ptr 0 0),(.fn 123 [] []),.str,.str],h:=[.cells [(.int .i64)]] }
def q0E:List FOut:=[{ res:=.str,h:=[.cells [(.int .i64)]] }]
noncomputable def q41:Env:={ tt:=qj,glob:=qa,spec:=[(123,qf qdM qel q0u)],body:=[(121,Tryz.f121)],loops:=[],nimp:=1 }
noncomputable def wD (ps:List PV):TR:=qW q41 121 Tryz.f121 true q0k q0E ps
theorem q9R:EnvOK q41 Tryz.prog:=⟨qm qc,
 all_cons qhO (q8),
 q8,
 all_cons (qh Tryz.func121 (by kernel_rfl)) (q8)⟩
theorem q8S:wi Tryz.prog qa 121 (qf q0k q0E wD):=qt qk q9R Tryz.func121 (by kernel_rfl) (by kernel_rfl) (fun _=>rfl)
def kN:FIn:={ args:=[(.ptr 0 0),.str,.str],h:=[.cells [(.int .i64)]] }
def kO:List FOut:=[{ res:=.str,h:=[.cells [(.int .i64)]] }]
noncomputable def qer:Env:={ tt:=qj,glob:=qa,spec:=[(123,qf qdM qel q0u),(121,qf q0k q0E wD)],body:=[(85,Tryz.f85)],loops:=[],nimp:=1 }
noncomputable def zM (ps:List PV):TR:=qW qer 85 Tryz.f85 true kN kO ps
theorem qku:EnvOK qer Tryz.prog:=⟨qm qc,
 all_cons qhO (all_cons q8S (q8)),
 q8,
 all_cons (qh Tryz.func85 (by kernel_rfl)) (q8)⟩
theorem q1G:wi Tryz.prog qa 85 (qf kN kO zM):=qt qk qku Tryz.func85 (by kernel_rfl) (by kernel_rfl) (fun _=>rfl)
def q8s:FIn:={ args:=[(.ptr 0 0),.str,.str,.str,.str],h:=[.cells [(.int .i64)]] }
def q8B:List FOut:=[{ res:=(.tuple [.str,.str]),h:=[.cells [(.int .i64)]] }]
noncomputable def qlk:Env:={ tt:=qj,glob:=qa,spec:=[(163,qf yd jW qe)],body:=[(167,Tryz.f167)],loops:=[],nimp:=1 }
noncomputable def w9 (ps:List PV):TR:=qW qlk 167 Tryz.f167 true q8s q8B ps
theorem qph:EnvOK qlk Tryz.prog:=⟨qm qc,
 all_cons yj (q8),
 q8,
 all_cons (qh Tryz.func167 (by kernel_rfl)) (q8)⟩
theorem qeo:wi Tryz.prog qa 167 (qf q8s q8B w9):=qt qk qph Tryz.func167 (by kernel_rfl) (by kernel_rfl) (fun _=>rfl)
def q1a:FIn:={ args:=[.str,.str,(.fn 167 [] [])],h:=[] }
def q1t:List FOut:=[{ res:=(.tuple [.str,(.int .i64)]),h:=[] }]
noncomputable def q53:Env:={ tt:=qj,glob:=qa,spec:=[(90,qf q2K q2R q9),(167,qf q8s q8B w9),(187,qf uQ uN za),(205,qf yk yi qX)],body:=[(160,Tryz.f160)],loops:=[],nimp:=0 }
noncomputable def wU (ps:List PV):TR:=qW q53 160 Tryz.f160 true q1a q1t ps
theorem qaK:EnvOK q53 Tryz.prog:=⟨qm qc,
 all_cons q2d (all_cons qeo (all_cons uT (all_cons kw (q8)))),
 q8,
 all_cons (qh Tryz.func160 (by kernel_rfl)) (q8)⟩
theorem qas:wi Tryz.prog qa 160 (qf q1a q1t wU):=qt qk qaK Tryz.func160 (by kernel_rfl) (by kernel_rfl) (fun _=>rfl)
def qdx:FIn:={ args:=[.str,.str],h:=[] }
def qdO:List FOut:=[{ res:=(.tuple [.str,(.int .i64)]),h:=[] }]
noncomputable def qqm:Env:={ tt:=qj,glob:=qa,spec:=[(167,qf q8s q8B w9),(160,qf q1a q1t wU)],body:=[(125,Tryz.f125)],loops:=[],nimp:=0 }
noncomputable def q0F (ps:List PV):TR:=qW qqm 125 Tryz.f125 true qdx qdO ps
theorem qtm:EnvOK qqm Tryz.prog:=⟨qm qc,
 all_cons qeo (all_cons qas (q8)),
 q8,
 all_cons (qh Tryz.func125 (by kernel_rfl)) (q8)⟩
theorem qhE:wi Tryz.prog qa 125 (qf qdx qdO q0F):=qt qk qtm Tryz.func125 (by kernel_rfl) (by kernel_rfl) (fun _=>rfl)
def q0o:FIn:={ args:=[(.ptr 0 0),(.fn 125 [] []),.str,.str],h:=[.cells [(.int .i64)]] }
def q0l:List FOut:=[{ res:=.str,h:=[.cells [(.int .i64)]] }]
noncomputable def q46:Env:={ tt:=qj,glob:=qa,spec:=[(125,qf qdx qdO q0F)],body:=[(121,Tryz.f121)],loops:=[],nimp:=1 }
noncomputable def wF (ps:List PV):TR:=qW q46 121 Tryz.f121 true q0o q0l ps
theorem qap:EnvOK q46 Tryz.prog:=⟨qm qc,
 all_cons qhE (q8),
 q8,
 all_cons (qh Tryz.func121 (by kernel_rfl)) (q8)⟩
theorem q8W:wi Tryz.prog qa 121 (qf q0o q0l wF):=qt qk qap Tryz.func121 (by kernel_rfl) (by kernel_rfl) (fun _=>rfl)
def kG:FIn:={ args:=[(.ptr 0 0),.str,.str],h:=[.cells [(.int .i64)]] }
def kL:List FOut:=[{ res:=.str,h:=[.cells [(.int .i64)]] }]
noncomputable def qet:Env:={ tt:=qj,glob:=qa,spec:=[(125,qf qdx qdO q0F),(121,qf q0o q0l wF)],body:=[(87,Tryz.f87)],loops:=[],nimp:=1 }
noncomputable def qC (ps:List PV):TR:=qW qet 87 Tryz.f87 true kG kL ps
theorem qjB:EnvOK qet Tryz.prog:=⟨qm qc,
 all_cons qhE (all_cons q8W (q8)),
 q8,
 all_cons (qh Tryz.func87 (by kernel_rfl)) (q8)⟩
theorem q1P:wi Tryz.prog qa 87 (qf kG kL qC):=qt qk qjB Tryz.func87 (by kernel_rfl) (by kernel_rfl) (fun _=>rfl)
def q22:FIn:={ args:=[(.ptr 0 0),(.agg [.str,.str]),(.agg [.str,.str])],h:=[.cells [(.int .i64)]] }
def q24:List FOut:=[{ res:=.str,h:=[.cells [(.int .i64)]] }]
noncomputable def qeE:Env:={ tt:=qj,glob:=qa,spec:=[(85,qf kN kO zM),(87,qf kG kL qC)],body:=[(96,Tryz.f96)],loops:=[],nimp:=1 }
noncomputable def wk (ps:List PV):TR:=qW qeE 96 Tryz.f96 true q22 q24 ps
theorem qlc:EnvOK qeE Tryz.prog:=⟨qm qc,
 all_cons q1G (all_cons q1P (q8)),
 q8,
 all_cons (qh Tryz.func96 (by kernel_rfl)) (q8)⟩
theorem q4K:wi Tryz.prog qa 96 (qf q22 q24 wk):=qt qk qlc Tryz.func96 (by kernel_rfl) (by kernel_rfl) (fun _=>rfl)
def q27:FIn:={ args:=[(.ptr 0 0),(.agg [.str,.str]),(.agg [.str,.str])],h:=[.cells [(.int .i64)]] }
def q28:List FOut:=[{ res:=.str,h:=[.cells [(.int .i64)]] }]
noncomputable def qeF:Env:={ tt:=qj,glob:=qa,spec:=[(95,qf q1q q1n qR),(96,qf q22 q24 wk)],body:=[(59,Tryz.f59)],loops:=[],nimp:=1 }
noncomputable def ye (ps:List PV):TR:=qW qeF 59 Tryz.f59 true q27 q28 ps
theorem qlz:EnvOK qeF Tryz.prog:=⟨qm qc,
 all_cons q3J (all_cons q4K (q8)),
 q8,
 all_cons (qh Tryz.func59 (by kernel_rfl)) (q8)⟩
theorem q4N:wi Tryz.prog qa 59 (qf q27 q28 ye):=qt qk qlz Tryz.func59 (by kernel_rfl) (by kernel_rfl) (fun _=>rfl)
def qg0:FIn:={ args:=[.str],h:=[] }
def qfS:List FOut:=[{ res:=(.tuple [(.int .i64),(.int .i64)]),h:=[] }]
noncomputable def qnn:Env:={ tt:=qj,glob:=qa,spec:=[(91,qf q06 kX qT),(133,qf q7o q78 wu)],body:=[(238,Tryz.f238)],loops:=[],nimp:=0 }
noncomputable def q32 (ps:List PV):TR:=qW qnn 238 Tryz.f238 true qg0 qfS ps
theorem qrQ:EnvOK qnn Tryz.prog:=⟨qm qc,
 all_cons kI (all_cons q9K (q8)),
 q8,
 all_cons (qh Tryz.func238 (by kernel_rfl)) (q8)⟩
theorem qqR:wi Tryz.prog qa 238 (qf qg0 qfS q32):=qt qk qrQ Tryz.func238 (by kernel_rfl) (by kernel_rfl) (fun _=>rfl)
def q37:FIn:={ args:=[(.ptr 0 0),.str],h:=[.cells [(.int .i64)]] }
def q3d:List FOut:=[{ res:=(.int .i64),h:=[.cells [(.int .i64)]] }]
noncomputable def qd0:Env:={ tt:=qj,glob:=qa,spec:=[(238,qf qg0 qfS q32)],body:=[(211,Tryz.f211)],loops:=[],nimp:=1 }
noncomputable def wS (ps:List PV):TR:=qW qd0 211 Tryz.f211 true q37 q3d ps
theorem qj2:EnvOK qd0 Tryz.prog:=⟨qm qc,
 all_cons qqR (q8),
 q8,
 all_cons (qh Tryz.func211 (by kernel_rfl)) (q8)⟩
theorem q8l:wi Tryz.prog qa 211 (qf q37 q3d wS):=qt qk qj2 Tryz.func211 (by kernel_rfl) (by kernel_rfl) (fun _=>rfl)
def q6b:FIn:={ args:=[(.ptr 0 0),.str,.str,.str],h:=[.cells [(.int .i64)]] }
def q6G:List FOut:=[{ res:=(.int .i64),h:=[.cells [(.int .i64)]] }]
noncomputable def qcW:Env:={ tt:=qj,glob:=qa,spec:=[(162,qf kK kJ zE),(163,qf yd jW qe),(211,qf q37 q3d wS)],body:=[(210,Tryz.f210)],loops:=[],nimp:=1 }
noncomputable def uS (ps:List PV):TR:=qW qcW 210 Tryz.f210 true q6b q6G ps
theorem qiN:EnvOK qcW Tryz.prog:=⟨qm qc,
 all_cons q1Z (all_cons yj (all_cons q8l (q8))),
 q8,
 all_cons (qh Tryz.func210 (by kernel_rfl)) (q8)⟩
theorem qgX:wi Tryz.prog qa 210 (qf q6b q6G uS):=qt qk qiN Tryz.func210 (by kernel_rfl) (by kernel_rfl) (fun _=>rfl)
def q6B:FIn:={ args:=[.str,.str,.str,.str,.str],h:=[] }
def q6q:List FOut:=[{ res:=(.tuple [(.int .i64),(.int .i64)]),h:=[] }]
noncomputable def qcQ:Env:={ tt:=qj,glob:=qa,spec:=[(90,qf q2K q2R q9),(162,qf kK kJ zE),(163,qf yd jW qe),(165,qf q4u q4w vd),(187,qf uQ uN za),(210,qf q6b q6G uS),(211,qf q37 q3d wS)],body:=[(166,Tryz.f166)],loops:=[],nimp:=0 }
noncomputable def yn (ps:List PV):TR:=qW qcQ 166 Tryz.f166 true q6B q6q ps
theorem qiX:EnvOK qcQ Tryz.prog:=⟨qm qc,
 all_cons q2d (all_cons q1Z (all_cons yj (all_cons q9p (all_cons uT (all_cons qgX (all_cons q8l (q8))))))),
 q8,
 all_cons (qh Tryz.func166 (by kernel_rfl)) (q8)⟩
theorem qh6:wi Tryz.prog qa 166 (qf q6B q6q yn):=qt qk qiX Tryz.func166 (by kernel_rfl) (by kernel_rfl) (fun _=>rfl)
def q7E:FIn:={ args:=[.str,.str,.str],h:=[] }
def q7B:List FOut:=[{ res:=(.tuple [(.int .i64),(.int .i64)]),h:=[] }]
noncomputable def qeG:Env:={ tt:=qj,glob:=qa,spec:=[(166,qf q6B q6q yn)],body:=[(124,Tryz.f124)],loops:=[],nimp:=0 }
noncomputable def ug (ps:List PV):TR:=qW qeG 124 Tryz.f124 true q7E q7B ps
theorem qkH:EnvOK qeG Tryz.prog:=⟨qm qc,
 all_cons qh6 (q8),
 q8,
 all_cons (qh Tryz.func124 (by kernel_rfl)) (q8)⟩
theorem qiO:wi Tryz.prog qa 124 (qf q7E q7B ug):=qt qk qkH Tryz.func124 (by kernel_rfl) (by kernel_rfl) (fun _=>rfl)
def q1g:FIn:={ args:=[(.ptr 0 0),.str,.str,.str],h:=[.cells [(.int .i64)]] }
def q0W:List FOut:=[{ res:=(.int .i64),h:=[.cells [(.int .i64)]] }]
noncomputable def qd5:Env:={ tt:=qj,glob:=qa,spec:=[(124,qf q7E q7B ug)],body:=[(86,Tryz.f86)],loops:=[],nimp:=1 }
noncomputable def wP (ps:List PV):TR:=qW qd5 86 Tryz.f86 true q1g q0W ps
theorem qiv:EnvOK qd5 Tryz.prog:=⟨qm qc,
 all_cons qiO (q8),
 q8,
 all_cons (qh Tryz.func86 (by kernel_rfl)) (q8)⟩
theorem q3O:wi Tryz.prog qa 86 (qf q1g q0W wP):=qt qk qiv Tryz.func86 (by kernel_rfl) (by kernel_rfl) (fun _=>rfl)
def q1h:FIn:={ args:=[(.ptr 0 0),(.agg [.str,.str,.str]),(.agg [.str,.str,.str]),.str],h:=[.cells [(.int .i64)]] }
def q17:List FOut:=[{ res:=(.int .i64),h:=[.cells [(.int .i64)]] }]
noncomputable def qct:Env:={ tt:=qj,glob:=qa,spec:=[(59,qf q27 q28 ye),(84,qf uj uf qG),(85,qf kN kO zM),(86,qf q1g q0W wP),(87,qf kG kL qC)],body:=[(50,Tryz.f50)],loops:=[],nimp:=1 }
noncomputable def vj (ps:List PV):TR:=qW qct 50 Tryz.f50 true q1h q17 ps
theorem qiD:EnvOK qct Tryz.prog:=⟨qm qc,
 all_cons q4N (all_cons kq (all_cons q1G (all_cons q3O (all_cons q1P (q8))))),
 q8,
 all_cons (qh Tryz.func50 (by kernel_rfl)) (q8)⟩
theorem q3G:wi Tryz.prog qa 50 (qf q1h q17 vj):=qt qk qiD Tryz.func50 (by kernel_rfl) (by kernel_rfl) (fun _=>rfl)
def kV:FIn:={ args:=[(.ptr 0 0),.str,.str],h:=[.cells [(.int .i64)]] }
def kW:List FOut:=[{ res:=(.int .i64),h:=[.cells [(.int .i64)]] }]
noncomputable def qbu:Env:={ tt:=qj,glob:=qa,spec:=[(84,qf uj uf qG),(86,qf q1g q0W wP)],body:=[(58,Tryz.f58)],loops:=[],nimp:=1 }
noncomputable def zI (ps:List PV):TR:=qW qbu 58 Tryz.f58 true kV kW ps
theorem qhr:EnvOK qbu Tryz.prog:=⟨qm qc,
 all_cons kq (all_cons q3O (q8)),
 q8,
 all_cons (qh Tryz.func58 (by kernel_rfl)) (q8)⟩
theorem q34:wi Tryz.prog qa 58 (qf kV kW zI):=qt qk qhr Tryz.func58 (by kernel_rfl) (by kernel_rfl) (fun _=>rfl)
def jl:FIn:={ args:=[(.ptr 0 0),(.agg [.str,.str,.str]),(.agg [.str,.str,.str])],h:=[.cells [(.int .i64)]] }
def jm:List FOut:=[{ res:=.bool,h:=[.cells [(.int .i64)]] }]
noncomputable def q9g:Env:={ tt:=qj,glob:=qa,spec:=[(50,qf q1h q17 vj),(58,qf kV kW zI)],body:=[(49,Tryz.f49)],loops:=[],nimp:=1 }
noncomputable def qM (ps:List PV):TR:=qW q9g 49 Tryz.f49 true jl jm ps
theorem qgw:EnvOK q9g Tryz.prog:=⟨qm qc,
 all_cons q3G (all_cons q34 (q8)),
 q8,
 all_cons (qh Tryz.func49 (by kernel_rfl)) (q8)⟩
theorem yf:wi Tryz.prog qa 49 (qf jl jm qM):=qt qk qgw Tryz.func49 (by kernel_rfl) (by kernel_rfl) (fun _=>rfl)
def q6S:FIn:={ args:=[(.agg [.str,.str,.str]),(.agg [.str,.str,.str])],h:=[] }
def q6Z:List FOut:=[{ res:=(.tuple [(.int .i64),(.int .i64)]),h:=[] }]
def q8j:Tmpl:={ t:=[.any,.any,(.ptr 0 0),(.ptr 1 0),.any,.any,.any,.any,.any,.any,.any,.any,.any,(.vec 2),(.int .i64),(.int .i64),.any,.any,.any,.any,.any,.any,.any,.any,.any,.any,.any,.any,.any,.any,.any,.any,.any,.any,.any,.any,.any,.any,.any,.any,.any,.any,.any,.any,.any,.any,.any,.any,.any,.any,.any,.any],h:=[.cells [.str,.str,.str],.cells [.str,.str,.str],.vec 26 [.str,.str,.str]] }
def q89:List Out:=[{ x:=(.exit 0),tm:={ t:=[.any,.any,(.ptr 0 0),(.ptr 1 0),.any,.any,.any,.any,.any,.any,.any,.any,.any,.any,.any,.any,.any,.any,.any,.any,.any,.any,.any,.any,.any,.any,.any,.any,.any,.any,.any,.any,.any,.any,.any,.any,.any,.any,.any,.any,.any,.any,.any,.any,.any,.any,.any,.any,.any,.any,.any,.any],h:=[.cells [.str,.str,.str],.cells [.str,.str,.str]] } },{ x:=.ret,tm:={ t:=[.any,.any,.any,.any,(.int .i64),(.int .i64),.any,.any,.any,.any,.any,.any,.any,.any,.any,.any,.any,.any,.any,.any,.any,.any,.any,.any,.any,.any,.any,.any,.any,.any,.any,.any,.any,.any,.any,.any,.any,.any,.any,.any,.any,.any,.any,.any,.any,.any,.any,.any,.any,.any,.any,.any],h:=[] } }]
noncomputable def q4k:Env:={ tt:=qj,glob:=qa,spec:=[(15,qf ux uv zA),(49,qf jl jm qM),(50,qf q1h q17 vj)],body:=[(13,Tryz.f13)],loops:=[],nimp:=0 }
noncomputable def jV (ps:List PV):TR:=jx q4k 13 Tryz.f13 3 q8j q89 ps
theorem qkZ:EnvOK q4k Tryz.prog:=⟨qm qc,
 all_cons uk (all_cons yf (all_cons q3G (q8))),
 q8,
 all_cons (qh Tryz.func13 (by kernel_rfl)) (q8)⟩
theorem qiQ:qO Tryz.prog qa q4k.nimp (zo Tryz.prog q4k.iter 13) (wM Tryz.f13 3) (qE q8j q89 (qg jV)):=
 qv qk qkZ Tryz.func13 (by kernel_rfl) (by kernel_rfl) (by kernel_rfl) (by kernel_rfl) (fun _=>rfl)
noncomputable def qhF:Env:={ tt:=qj,glob:=qa,spec:=[(15,qf ux uv zA),(49,qf jl jm qM),(50,qf q1h q17 vj)],body:=[(13,Tryz.f13)],loops:=[((13,3),qE q8j q89 (qg jV))],nimp:=0 }
noncomputable def jB (ps:List PV):TR:=qW qhF 13 Tryz.f13 true q6S q6Z ps
theorem qo5:EnvOK qhF Tryz.prog:=⟨qm qc,
 all_cons uk (all_cons yf (all_cons q3G (q8))),
 all_cons (zp Tryz.func13 (by kernel_rfl) (by kernel_rfl) qiQ) (q8),
 all_cons (qh Tryz.func13 (by kernel_rfl)) (q8)⟩
theorem qdb:wi Tryz.prog qa 13 (qf q6S q6Z jB):=qt qk qo5 Tryz.func13 (by kernel_rfl) (by kernel_rfl) (fun _=>rfl)
def vw:FIn:={ args:=[(.imm [.str,.str,.str])],h:=[] }
def vt:List FOut:=[{ res:=(.int .i64),h:=[] }]
def qcj:Tmpl:={ t:=[(.imm [.str,.str,.str]),.any,.any,.any,.any,.any,.any,.any,.any,(.imm [.str,.str,.str]),(.int .i64),(.int .i64),.any,.any,.any,.any,.any,.any,.any,.any,.any,.any,.any,.any],h:=[] }
def qbw:List Out:=[{ x:=(.exit 0),tm:={ t:=[(.imm [.str,.str,.str]),.any,.any,.any,.any,.any,.any,.any,.any,.any,.any,.any,.any,.any,.any,.any,.any,.any,.any,.any,.any,.any,.any,.any],h:=[] } },{ x:=.ret,tm:={ t:=[.any,.any,(.int .i64),.any,.any,.any,.any,.any,.any,.any,.any,.any,.any,.any,.any,.any,.any,.any,.any,.any,.any,.any,.any,.any],h:=[] } }]
noncomputable def q6W:Env:={ tt:=qj,glob:=qa,spec:=[(15,qf ux uv zA)],body:=[(54,Tryz.f54)],loops:=[],nimp:=0 }
noncomputable def uJ (ps:List PV):TR:=jx q6W 54 Tryz.f54 6 qcj qbw ps
theorem qof:EnvOK q6W Tryz.prog:=⟨qm qc,
 all_cons uk (q8),
 q8,
 all_cons (qh Tryz.func54 (by kernel_rfl)) (q8)⟩
theorem qm1:qO Tryz.prog qa q6W.nimp (zo Tryz.prog q6W.iter 54) (wM Tryz.f54 6) (qE qcj qbw (qg uJ)):=
 qv qk qof Tryz.func54 (by kernel_rfl) (by kernel_rfl) (by kernel_rfl) (by kernel_rfl) (fun _=>rfl)
noncomputable def qnb:Env:={ tt:=qj,glob:=qa,spec:=[(15,qf ux uv zA)],body:=[(54,Tryz.f54)],loops:=[((54,6),qE qcj qbw (qg uJ))],nimp:=0 }
noncomputable def zl (ps:List PV):TR:=qW qnb 54 Tryz.f54 true vw vt ps
theorem qrX:EnvOK qnb Tryz.prog:=⟨qm qc,
 all_cons uk (q8),
 all_cons (zp Tryz.func54 (by kernel_rfl) (by kernel_rfl) qm1) (q8),
 all_cons (qh Tryz.func54 (by kernel_rfl)) (q8)⟩
theorem wR:wi Tryz.prog qa 54 (qf vw vt zl):=qt qk qrX Tryz.func54 (by kernel_rfl) (by kernel_rfl) (fun _=>rfl)
def q8u:FIn:={ args:=[(.ptr 0 0),.str,.str,.str,.str],h:=[.cells [(.int .i64)]] }
def q8J:List FOut:=[{ res:=(.tuple [.str,.str]),h:=[.cells [(.int .i64)]] }]
noncomputable def qka:Env:={ tt:=qj,glob:=qa,spec:=[(163,qf yd jW qe)],body:=[(188,Tryz.f188)],loops:=[],nimp:=1 }
noncomputable def zZ (ps:List PV):TR:=qW qka 188 Tryz.f188 true q8u q8J ps
theorem qoI:EnvOK qka Tryz.prog:=⟨qm qc,
 all_cons yj (q8),
 q8,
 all_cons (qh Tryz.func188 (by kernel_rfl)) (q8)⟩
theorem qeQ:wi Tryz.prog qa 188 (qf q8u q8J zZ):=qt qk qoI Tryz.func188 (by kernel_rfl) (by kernel_rfl) (fun _=>rfl)
def q0S:FIn:={ args:=[.str,.str,(.fn 188 [] [])],h:=[] }
def q1s:List FOut:=[{ res:=(.tuple [.str,(.int .i64)]),h:=[] }]
noncomputable def q4U:Env:={ tt:=qj,glob:=qa,spec:=[(90,qf q2K q2R q9),(187,qf uQ uN za),(188,qf q8u q8J zZ),(205,qf yk yi qX)],body:=[(160,Tryz.f160)],loops:=[],nimp:=0 }
noncomputable def wQ (ps:List PV):TR:=qW q4U 160 Tryz.f160 true q0S q1s ps
theorem qb0:EnvOK q4U Tryz.prog:=⟨qm qc,
 all_cons q2d (all_cons uT (all_cons qeQ (all_cons kw (q8)))),
 q8,
 all_cons (qh Tryz.func160 (by kernel_rfl)) (q8)⟩
theorem qaC:wi Tryz.prog qa 160 (qf q0S q1s wQ):=qt qk qb0 Tryz.func160 (by kernel_rfl) (by kernel_rfl) (fun _=>rfl)
def qef:FIn:={ args:=[.str,.str],h:=[] }
def qe0:List FOut:=[{ res:=(.tuple [.str,(.int .i64)]),h:=[] }]
noncomputable def qp9:Env:={ tt:=qj,glob:=qa,spec:=[(187,qf uQ uN za),(188,qf q8u q8J zZ),(160,qf q0S q1s wQ)],body:=[(142,Tryz.f142)],loops:=[],nimp:=0 }
noncomputable def q0m (ps:List PV):TR:=qW qp9 142 Tryz.f142 true qef qe0 ps
theorem quw:EnvOK qp9 Tryz.prog:=⟨qm qc,
 all_cons uT (all_cons qeQ (all_cons qaC (q8))),
 q8,
 all_cons (qh Tryz.func142 (by kernel_rfl)) (q8)⟩
theorem qhv:wi Tryz.prog qa 142 (qf qef qe0 q0m):=qt qk quw Tryz.func142 (by kernel_rfl) (by kernel_rfl) (fun _=>rfl)
def q0A:FIn:={ args:=[(.ptr 0 0),(.fn 142 [] []),.str,.str],h:=[.cells [(.int .i64)]] }
def q0G:List FOut:=[{ res:=.str,h:=[.cells [(.int .i64)]] }]
noncomputable def q4a:Env:={ tt:=qj,glob:=qa,spec:=[(142,qf qef qe0 q0m)],body:=[(121,Tryz.f121)],loops:=[],nimp:=1 }
noncomputable def vh (ps:List PV):TR:=qW q4a 121 Tryz.f121 true q0A q0G ps
theorem qai:EnvOK q4a Tryz.prog:=⟨qm qc,
 all_cons qhv (q8),
 q8,
 all_cons (qh Tryz.func121 (by kernel_rfl)) (q8)⟩
theorem q8K:wi Tryz.prog qa 121 (qf q0A q0G vh):=qt qk qai Tryz.func121 (by kernel_rfl) (by kernel_rfl) (fun _=>rfl)
def q2y:FIn:={ args:=[(.ptr 0 0),(.imm [.str,.str,.str]),(.agg [(.int .i64),(.int .i64),(.int .i64)])],h:=[.cells [(.int .i64)]] }
def q2r:List FOut:=[{ res:=(.tuple [(.agg [.str,.str,.str,.str,.str]),.bool]),h:=[.cells [(.int .i64)]] }]
noncomputable def qbr:Env:={ tt:=qj,glob:=qa,spec:=[(84,qf uj uf qG),(85,qf kN kO zM),(87,qf kG kL qC),(95,qf q1q q1n qR),(96,qf q22 q24 wk),(142,qf qef qe0 q0m),(121,qf q0A q0G vh)],body:=[(99,Tryz.f99)],loops:=[],nimp:=1 }
noncomputable def jF (ps:List PV):TR:=qW qbr 99 Tryz.f99 true q2y q2r ps
theorem qhp:EnvOK qbr Tryz.prog:=⟨qm qc,
 all_cons kq (all_cons q1G (all_cons q1P (all_cons q3J (all_cons q4K (all_cons qhv (all_cons q8K (q8))))))),
 q8,
 all_cons (qh Tryz.func99 (by kernel_rfl)) (q8)⟩
theorem q7d:wi Tryz.prog qa 99 (qf q2y q2r jF):=qt qk qhp Tryz.func99 (by kernel_rfl) (by kernel_rfl) (fun _=>rfl)
def q2E:FIn:={ args:=[(.ptr 0 0),(.agg [.str,.str,.str]),(.agg [.str,.str,.str,.str,.str])],h:=[.cells [(.int .i64)]] }
def q2v:List FOut:=[{ res:=.bool,h:=[.cells [(.int .i64)]] }]
noncomputable def qbj:Env:={ tt:=qj,glob:=qa,spec:=[(84,qf uj uf qG),(85,qf kN kO zM),(86,qf q1g q0W wP),(87,qf kG kL qC),(95,qf q1q q1n qR),(96,qf q22 q24 wk)],body:=[(101,Tryz.f101)],loops:=[],nimp:=1 }
noncomputable def vo (ps:List PV):TR:=qW qbj 101 Tryz.f101 true q2E q2v ps
theorem qh7:EnvOK qbj Tryz.prog:=⟨qm qc,
 all_cons kq (all_cons q1G (all_cons q3O (all_cons q1P (all_cons q3J (all_cons q4K (q8)))))),
 q8,
 all_cons (qh Tryz.func101 (by kernel_rfl)) (q8)⟩
theorem q7n:wi Tryz.prog qa 101 (qf q2E q2v vo):=qt qk qh7 Tryz.func101 (by kernel_rfl) (by kernel_rfl) (fun _=>rfl)
def vC:FIn:={ args:=[(.ptr 0 0),(.imm [.str,.str,.str]),(.agg [(.int .i64),(.int .i64),(.int .i64)])],h:=[.cells [(.int .i64)]] }
def vA:List FOut:=[{ res:=.bool,h:=[.cells [(.int .i64)]] }]
def q0p:Tmpl:={ t:=[(.imm [.str,.str,.str]),(.fn 103 [] [(.ptr 4 0)]),.any,.any,.any,.any,.any,(.int .i64),(.int .i64),.any,.any,.any,.any,.any,.any,.any,.any,.any,.any],h:=[.cells [(.int .i64)],.cells [(.ptr 0 0)],.cells [(.int .i64),(.int .i64),(.int .i64)],.cells [.str,.str,.str,.str,.str],.cells [(.fn 100 [] [(.ptr 1 0),(.ptr 3 0)])]],fs:=[[(.imm [.str,.str,.str]),(.fn 103 [] [(.ptr 4 0)]),.any,.any,(.blit false),(.imm [.str,.str,.str]),(.fn 103 [] [(.ptr 4 0)]),.any,.any],[(.ptr 0 0),(.imm [.str,.str,.str]),(.agg [(.int .i64),(.int .i64),(.int .i64)]),(.ptr 1 0),.any,(.ptr 2 0),(.blit false),(.ptr 3 0),.bool,(.ptr 4 0),(.tuple [(.agg [.str,.str,.str,.str,.str]),.bool]),(.ptr 0 0),(.imm [.str,.str,.str]),(.agg [(.int .i64),(.int .i64),(.int .i64)]),(.tuple [(.agg [.str,.str,.str,.str,.str]),.bool]),(.agg [.str,.str,.str,.str,.str]),.bool,(.fn 100 [] [(.ptr 1 0),(.ptr 3 0)]),.bool,(.blit true),(.imm [.str,.str,.str]),(.fn 103 [] [(.ptr 4 0)]),.any,.any,.any,.any,.any,.any,.any,.any,.any,.any],[]] }
def q0D:List Out:=[{ x:=(.exit 0),tm:={ t:=[.any,.any,.any,.any,.any,.any,.any,.any,.any,.any,.any,.any,.any,.any,.any,.any,.any,.any,.any],h:=[.cells [(.int .i64)],.cells [(.ptr 0 0)],.cells [(.int .i64),(.int .i64),(.int .i64)],.cells [.str,.str,.str,.str,.str],.cells [(.fn 100 [] [(.ptr 1 0),(.ptr 3 0)])]],fs:=[[(.imm [.str,.str,.str]),(.fn 103 [] [(.ptr 4 0)]),.any,.any,(.blit false),(.imm [.str,.str,.str]),(.fn 103 [] [(.ptr 4 0)]),.any,.any],[(.ptr 0 0),(.imm [.str,.str,.str]),(.agg [(.int .i64),(.int .i64),(.int .i64)]),(.ptr 1 0),.any,(.ptr 2 0),(.blit false),(.ptr 3 0),.bool,(.ptr 4 0),(.tuple [(.agg [.str,.str,.str,.str,.str]),.bool]),(.ptr 0 0),(.imm [.str,.str,.str]),(.agg [(.int .i64),(.int .i64),(.int .i64)]),(.tuple [(.agg [.str,.str,.str,.str,.str]),.bool]),(.agg [.str,.str,.str,.str,.str]),.bool,(.fn 100 [] [(.ptr 1 0),(.ptr 3 0)]),.bool,(.blit true),(.imm [.str,.str,.str]),(.fn 103 [] [(.ptr 4 0)]),.any,.any,.any,.any,.any,.any,.any,.any,.any,.any],[]] } },{ x:=.ret,tm:={ t:=[.any,.any,.any,.any,(.int .i64),.any,.any,.any,.any,.any,.any,.any,.any,.any,.any,.any,.any,.any,.any],h:=[.cells [(.int .i64)],.cells [(.ptr 0 0)],.cells [(.int .i64),(.int .i64),(.int .i64)],.cells [.str,.str,.str,.str,.str],.cells [(.fn 100 [] [(.ptr 1 0),(.ptr 3 0)])]],fs:=[[(.imm [.str,.str,.str]),(.fn 103 [] [(.ptr 4 0)]),.any,.any,(.blit false),(.imm [.str,.str,.str]),(.fn 103 [] [(.ptr 4 0)]),.any,.any],[(.ptr 0 0),(.imm [.str,.str,.str]),(.agg [(.int .i64),(.int .i64),(.int .i64)]),(.ptr 1 0),.any,(.ptr 2 0),(.blit false),(.ptr 3 0),.bool,(.ptr 4 0),(.tuple [(.agg [.str,.str,.str,.str,.str]),.bool]),(.ptr 0 0),(.imm [.str,.str,.str]),(.agg [(.int .i64),(.int .i64),(.int .i64)]),(.tuple [(.agg [.str,.str,.str,.str,.str]),.bool]),(.agg [.str,.str,.str,.str,.str]),.bool,(.fn 100 [] [(.ptr 1 0),(.ptr 3 0)]),.bool,(.blit true),(.imm [.str,.str,.str]),(.fn 103 [] [(.ptr 4 0)]),.any,.any,.any,.any,.any,.any,.any,.any,.any,.any],[]] } }]
noncomputable def yD:Env:={ tt:=qj,glob:=qa,spec:=[(99,qf q2y q2r jF),(101,qf q2E q2v vo)],body:=[(61,Tryz.f61),(100,Tryz.f100),(102,Tryz.f102),(103,Tryz.f103),(143,Tryz.f143)],loops:=[],nimp:=1 }
noncomputable def j6 (ps:List PV):TR:=jx yD 143 Tryz.f143 3 q0p q0D ps
theorem qay:EnvOK yD Tryz.prog:=⟨qm qc,
 all_cons q7d (all_cons q7n (q8)),
 q8,
 all_cons (qh Tryz.func61 (by kernel_rfl)) (all_cons (qh Tryz.func100 (by kernel_rfl)) (all_cons (qh Tryz.func102 (by kernel_rfl)) (all_cons (qh Tryz.func103 (by kernel_rfl)) (all_cons (qh Tryz.func143 (by kernel_rfl)) (q8)))))⟩
theorem q8N:qO Tryz.prog qa yD.nimp (zo Tryz.prog yD.iter 143) (wM Tryz.f143 3) (qE q0p q0D (qg j6)):=
 qv qk qay Tryz.func143 (by kernel_rfl) (by kernel_rfl) (by kernel_rfl) (by kernel_rfl) (fun _=>rfl)
noncomputable def q9H:Env:={ tt:=qj,glob:=qa,spec:=[(99,qf q2y q2r jF),(101,qf q2E q2v vo)],body:=[(61,Tryz.f61),(100,Tryz.f100),(102,Tryz.f102),(103,Tryz.f103),(143,Tryz.f143)],loops:=[((143,3),qE q0p q0D (qg j6))],nimp:=1 }
noncomputable def qU (ps:List PV):TR:=qW q9H 61 Tryz.f61 true vC vA ps
theorem qfb:EnvOK q9H Tryz.prog:=⟨qm qc,
 all_cons q7d (all_cons q7n (q8)),
 all_cons (zp Tryz.func143 (by kernel_rfl) (by kernel_rfl) q8N) (q8),
 all_cons (qh Tryz.func61 (by kernel_rfl)) (all_cons (qh Tryz.func100 (by kernel_rfl)) (all_cons (qh Tryz.func102 (by kernel_rfl)) (all_cons (qh Tryz.func103 (by kernel_rfl)) (all_cons (qh Tryz.func143 (by kernel_rfl)) (q8)))))⟩
theorem vX:wi Tryz.prog qa 61 (qf vC vA qU):=qt qk qfb Tryz.func61 (by kernel_rfl) (by kernel_rfl) (fun _=>rfl)
def wt:FIn:={ args:=[(.ptr 0 0),(.imm [.str,.str,.str])],h:=[.cells [(.int .i64)]] }
def wz:List FOut:=[{ res:=(.tuple [(.agg [(.int .i64),(.int .i64),(.int .i64)]),.bool]),h:=[.cells [(.int .i64)]] }]
def q1v:Tmpl:={ t:=[.yld,(.ptr 5 0),.any,.any,.any,.any,.any,.any,(.int .i64),(.int .i64),.any,.any,.any,.any,.any,.any,.any,.any,.any,.any,.any,.any,.any,.any,.any,.any,.any,.any,.any,.any,.any,.any,.any,.any,.any,.any,.any,.any,.any,.any,.any,.any,.any,.any,.any],h:=[.cells [(.int .i64)],.cells [(.ptr 0 0)],.cells [(.imm [.str,.str,.str])],.cells [(.int .i64),(.int .i64),(.int .i64)],.cells [.bool],.cells [(.int .i64)]],fs:=[[.any,.any,(.ptr 1 0),(.ptr 2 0),(.ptr 3 0),(.ptr 4 0),.any,.any,.any,(.fn 139 [] [(.ptr 5 0)]),.any,.any,.any,.any,.any,.any,.any],[]] }
def q18:List Out:=[{ x:=(.exit 0),tm:={ t:=[.yld,(.ptr 5 0),.any,.any,.any,.any,.any,.any,.any,.any,.any,.any,.any,.any,.any,.any,.any,.any,.any,.any,.any,.any,.any,.any,.any,.any,.any,.any,.any,.any,.any,.any,.any,.any,.any,.any,.any,.any,.any,.any,.any,.any,.any,.any,.any],h:=[.cells [(.int .i64)],.cells [(.ptr 0 0)],.cells [(.imm [.str,.str,.str])],.cells [(.int .i64),(.int .i64),(.int .i64)],.cells [.bool],.cells [(.int .i64)]],fs:=[[.any,.any,(.ptr 1 0),(.ptr 2 0),(.ptr 3 0),(.ptr 4 0),.any,.any,.any,(.fn 139 [] [(.ptr 5 0)]),.any,.any,.any,.any,.any,.any,.any],[]] } },{ x:=.ret,tm:={ t:=[.any,.any,.any,.any,.any,.any,.any,.any,.any,.any,.any,.any,.any,.any,.any,.any,.any,.any,.any,.any,.any,.any,.any,.any,.any,.any,.any,.any,.any,.any,.any,.any,.any,.any,.any,.any,.any,.any,.any,.any,.any,.any,.any,.any,.any],h:=[.cells [(.int .i64)],.cells [(.ptr 0 0)],.cells [(.imm [.str,.str,.str])],.cells [(.int .i64),(.int .i64),(.int .i64)],.cells [.bool],.cells [(.int .i64)]],fs:=[[.any,.any,(.ptr 1 0),(.ptr 2 0),(.ptr 3 0),(.ptr 4 0),.any,.any,.any,(.fn 139 [] [(.ptr 5 0)]),.any,.any,.any,.any,.any,.any,.any],[]],pend:=(.some .ret) } }]
noncomputable def yU:Env:={ tt:=qj,glob:=qa,spec:=[(61,qf vC vA qU)],body:=[(55,Tryz.f55),(94,Tryz.f94),(139,Tryz.f139)],loops:=[],nimp:=1,iter:=[(139,55,3)] }
noncomputable def ju (ps:List PV):TR:=qvp yU (some (55,Tryz.f55,3)) 139 Tryz.f139 2 q1v q18 ps
theorem qaO:EnvOK yU Tryz.prog:=⟨qm qc,
 all_cons vX (q8),
 q8,
 all_cons (qh Tryz.func55 (by kernel_rfl)) (all_cons (qh Tryz.func94 (by kernel_rfl)) (all_cons (qh Tryz.func139 (by kernel_rfl)) (q8)))⟩
theorem qa3:qO Tryz.prog qa yU.nimp (zo Tryz.prog yU.iter 139) (wM Tryz.f139 2) (qE q1v q18 (qg ju)):=
 q7m qk qaO Tryz.func139 (by kernel_rfl) (y:=some (55,Tryz.f55,3)) ⟨Tryz.func55,by kernel_rfl⟩ (by kernel_rfl) (by kernel_rfl) (fun _=>rfl)
def q0j:Tmpl:={ t:=[.yld,(.ptr 5 0),.any,.any,(.int .i64),(.int .i64),.any,.any,.any,.any,.any,.any,.any,.any,.any,.any,.any,.any,.any,(.int .i64),(.int .i64),.any,.any,.any,.any,.any,.any,.any,.any,.any,(.vec 6),(.int .i64),(.int .i64),.any,.any,.any,.any,.any,.any,.any,.any,.any,.any,.any,.any],h:=[.cells [(.int .i64)],.cells [(.ptr 0 0)],.cells [(.imm [.str,.str,.str])],.cells [(.int .i64),(.int .i64),(.int .i64)],.cells [.bool],.cells [(.int .i64)],.vec 3 [(.int .i64)]],fs:=[[.any,.any,(.ptr 1 0),(.ptr 2 0),(.ptr 3 0),(.ptr 4 0),.any,.any,.any,(.fn 139 [] [(.ptr 5 0)]),.any,.any,.any,.any,.any,.any,.any],[]] }
def q0w:List Out:=[{ x:=(.exit 6),tm:={ t:=[.yld,(.ptr 5 0),.any,.any,(.int .i64),(.int .i64),.any,.any,.any,.any,.any,.any,.any,.any,.any,.any,.any,.any,.any,(.int .i64),(.int .i64),.any,.any,.any,.any,.any,.any,.any,.any,.any,.any,.any,.any,.any,.any,.any,.any,.any,.any,.any,.any,.any,.any,.any,.any],h:=[.cells [(.int .i64)],.cells [(.ptr 0 0)],.cells [(.imm [.str,.str,.str])],.cells [(.int .i64),(.int .i64),(.int .i64)],.cells [.bool],.cells [(.int .i64)]],fs:=[[.any,.any,(.ptr 1 0),(.ptr 2 0),(.ptr 3 0),(.ptr 4 0),.any,.any,.any,(.fn 139 [] [(.ptr 5 0)]),.any,.any,.any,.any,.any,.any,.any],[]] } },{ x:=.ret,tm:={ t:=[.any,.any,.any,.any,.any,.any,.any,.any,.any,.any,.any,.any,.any,.any,.any,.any,.any,.any,.any,.any,.any,.any,.any,.any,.any,.any,.any,.any,.any,.any,.any,.any,.any,.any,.any,.any,.any,.any,.any,.any,.any,.any,.any,.any,.any],h:=[.cells [(.int .i64)],.cells [(.ptr 0 0)],.cells [(.imm [.str,.str,.str])],.cells [(.int .i64),(.int .i64),(.int .i64)],.cells [.bool],.cells [(.int .i64)]],fs:=[[.any,.any,(.ptr 1 0),(.ptr 2 0),(.ptr 3 0),(.ptr 4 0),.any,.any,.any,(.fn 139 [] [(.ptr 5 0)]),.any,.any,.any,.any,.any,.any,.any],[]],pend:=(.some .ret) } }]
noncomputable def yL:Env:={ tt:=qj,glob:=qa,spec:=[(61,qf vC vA qU)],body:=[(55,Tryz.f55),(94,Tryz.f94),(139,Tryz.f139)],loops:=[],nimp:=1,iter:=[(139,55,3)] }
noncomputable def j5 (ps:List PV):TR:=qvp yL (some (55,Tryz.f55,3)) 139 Tryz.f139 20 q0j q0w ps
theorem q9V:EnvOK yL Tryz.prog:=⟨qm qc,
 all_cons vX (q8),
 q8,
 all_cons (qh Tryz.func55 (by kernel_rfl)) (all_cons (qh Tryz.func94 (by kernel_rfl)) (all_cons (qh Tryz.func139 (by kernel_rfl)) (q8)))⟩
theorem q8w:qO Tryz.prog qa yL.nimp (zo Tryz.prog yL.iter 139) (wM Tryz.f139 20) (qE q0j q0w (qg j5)):=
 q7m qk q9V Tryz.func139 (by kernel_rfl) (y:=some (55,Tryz.f55,3)) ⟨Tryz.func55,by kernel_rfl⟩ (by kernel_rfl) (by kernel_rfl) (fun _=>rfl)
def q0f:Tmpl:={ t:=[.yld,(.ptr 5 0),.any,.any,(.int .i64),(.int .i64),.any,.any,.any,.any,.any,.any,.any,.any,.any,.any,.any,.any,.any,(.int .i64),(.int .i64),.any,.any,.any,.any,.any,.any,.any,.any,.any,.any,.any,.any,.any,.any,.any,.any,.any,.any,.any,.any,.any,.any,.any,.any],h:=[.cells [(.int .i64)],.cells [(.ptr 0 0)],.cells [(.imm [.str,.str,.str])],.cells [(.int .i64),(.int .i64),(.int .i64)],.cells [.bool],.cells [(.int .i64)]],fs:=[[.any,.any,(.ptr 1 0),(.ptr 2 0),(.ptr 3 0),(.ptr 4 0),.any,.any,.any,(.fn 139 [] [(.ptr 5 0)]),.any,.any,.any,.any,.any,.any,.any],[]] }
def q0h:List Out:=[{ x:=(.exit 4),tm:={ t:=[.yld,(.ptr 5 0),.any,.any,.any,.any,.any,.any,.any,.any,.any,.any,.any,.any,.any,.any,.any,.any,.any,(.int .i64),(.int .i64),.any,.any,.any,.any,.any,.any,.any,.any,.any,.any,.any,.any,.any,.any,.any,.any,.any,.any,.any,.any,.any,.any,.any,.any],h:=[.cells [(.int .i64)],.cells [(.ptr 0 0)],.cells [(.imm [.str,.str,.str])],.cells [(.int .i64),(.int .i64),(.int .i64)],.cells [.bool],.cells [(.int .i64)]],fs:=[[.any,.any,(.ptr 1 0),(.ptr 2 0),(.ptr 3 0),(.ptr 4 0),.any,.any,.any,(.fn 139 [] [(.ptr 5 0)]),.any,.any,.any,.any,.any,.any,.any],[]] } },{ x:=.ret,tm:={ t:=[.any,.any,.any,.any,.any,.any,.any,.any,.any,.any,.any,.any,.any,.any,.any,.any,.any,.any,.any,.any,.any,.any,.any,.any,.any,.any,.any,.any,.any,.any,.any,.any,.any,.any,.any,.any,.any,.any,.any,.any,.any,.any,.any,.any,.any],h:=[.cells [(.int .i64)],.cells [(.ptr 0 0)],.cells [(.imm [.str,.str,.str])],.cells [(.int .i64),(.int .i64),(.int .i64)],.cells [.bool],.cells [(.int .i64)]],fs:=[[.any,.any,(.ptr 1 0),(.ptr 2 0),(.ptr 3 0),(.ptr 4 0),.any,.any,.any,(.fn 139 [] [(.ptr 5 0)]),.any,.any,.any,.any,.any,.any,.any],[]],pend:=(.some .ret) } }]
noncomputable def yv:Env:={ tt:=qj,glob:=qa,spec:=[(61,qf vC vA qU)],body:=[(55,Tryz.f55),(94,Tryz.f94),(139,Tryz.f139)],loops:=[((139,20),qE q0j q0w (qg j5))],nimp:=1,iter:=[(139,55,3)] }
noncomputable def j3 (ps:List PV):TR:=qvp yv (some (55,Tryz.f55,3)) 139 Tryz.f139 15 q0f q0h ps
theorem q9B:EnvOK yv Tryz.prog:=⟨qm qc,
 all_cons vX (q8),
 all_cons (zp Tryz.func139 (by kernel_rfl) (by kernel_rfl) q8w) (q8),
 all_cons (qh Tryz.func55 (by kernel_rfl)) (all_cons (qh Tryz.func94 (by kernel_rfl)) (all_cons (qh Tryz.func139 (by kernel_rfl)) (q8)))⟩
theorem q8H:qO Tryz.prog qa yv.nimp (zo Tryz.prog yv.iter 139) (wM Tryz.f139 15) (qE q0f q0h (qg j3)):=
 q7m qk q9B Tryz.func139 (by kernel_rfl) (y:=some (55,Tryz.f55,3)) ⟨Tryz.func55,by kernel_rfl⟩ (by kernel_rfl) (by kernel_rfl) (fun _=>rfl)
def q0T:Tmpl:={ t:=[.yld,(.ptr 5 0),.any,.any,.any,.any,.any,.any,.any,.any,.any,.any,.any,.any,.any,.any,.any,.any,.any,(.int .i64),(.int .i64),.any,.any,.any,.any,.any,.any,.any,.any,.any,.any,.any,.any,.any,.any,.any,.any,.any,.any,.any,.any,.any,.any,.any,.any],h:=[.cells [(.int .i64)],.cells [(.ptr 0 0)],.cells [(.imm [.str,.str,.str])],.cells [(.int .i64),(.int .i64),(.int .i64)],.cells [.bool],.cells [(.int .i64)]],fs:=[[.any,.any,(.ptr 1 0),(.ptr 2 0),(.ptr 3 0),(.ptr 4 0),.any,.any,.any,(.fn 139 [] [(.ptr 5 0)]),.any,.any,.any,.any,.any,.any,.any],[]] }
def q0V:List Out:=[{ x:=(.exit 2),tm:={ t:=[.any,.any,.any,.any,.any,.any,.any,.any,.any,.any,.any,.any,.any,.any,.any,.any,.any,.any,.any,.any,.any,.any,.any,.any,.any,.any,.any,.any,.any,.any,.any,.any,.any,.any,.any,.any,.any,.any,.any,.any,.any,.any,.any,.any,.any],h:=[.cells [(.int .i64)],.cells [(.ptr 0 0)],.cells [(.imm [.str,.str,.str])],.cells [(.int .i64),(.int .i64),(.int .i64)],.cells [.bool],.cells [(.int .i64)]],fs:=[[.any,.any,(.ptr 1 0),(.ptr 2 0),(.ptr 3 0),(.ptr 4 0),.any,.any,.any,(.fn 139 [] [(.ptr 5 0)]),.any,.any,.any,.any,.any,.any,.any],[]] } },{ x:=.ret,tm:={ t:=[.any,.any,.any,.any,.any,.any,.any,.any,.any,.any,.any,.any,.any,.any,.any,.any,.any,.any,.any,.any,.any,.any,.any,.any,.any,.any,.any,.any,.any,.any,.any,.any,.any,.any,.any,.any,.any,.any,.any,.any,.any,.any,.any,.any,.any],h:=[.cells [(.int .i64)],.cells [(.ptr 0 0)],.cells [(.imm [.str,.str,.str])],.cells [(.int .i64),(.int .i64),(.int .i64)],.cells [.bool],.cells [(.int .i64)]],fs:=[[.any,.any,(.ptr 1 0),(.ptr 2 0),(.ptr 3 0),(.ptr 4 0),.any,.any,.any,(.fn 139 [] [(.ptr 5 0)]),.any,.any,.any,.any,.any,.any,.any],[]],pend:=(.some .ret) } }]
noncomputable def u4:Env:={ tt:=qj,glob:=qa,spec:=[(61,qf vC vA qU)],body:=[(55,Tryz.f55),(94,Tryz.f94),(139,Tryz.f139)],loops:=[((139,15),qE q0f q0h (qg j3))],nimp:=1,iter:=[(139,55,3)] }
noncomputable def jw (ps:List PV):TR:=qvp u4 (some (55,Tryz.f55,3)) 139 Tryz.f139 9 q0T q0V ps
theorem qaT:EnvOK u4 Tryz.prog:=⟨qm qc,
 all_cons vX (q8),
 all_cons (zp Tryz.func139 (by kernel_rfl) (by kernel_rfl) q8H) (q8),
 all_cons (qh Tryz.func55 (by kernel_rfl)) (all_cons (qh Tryz.func94 (by kernel_rfl)) (all_cons (qh Tryz.func139 (by kernel_rfl)) (q8)))⟩
theorem q9L:qO Tryz.prog qa u4.nimp (zo Tryz.prog u4.iter 139) (wM Tryz.f139 9) (qE q0T q0V (qg jw)):=
 q7m qk qaT Tryz.func139 (by kernel_rfl) (y:=some (55,Tryz.f55,3)) ⟨Tryz.func55,by kernel_rfl⟩ (by kernel_rfl) (by kernel_rfl) (fun _=>rfl)
noncomputable def qbc:Env:={ tt:=qj,glob:=qa,spec:=[(61,qf vC vA qU)],body:=[(55,Tryz.f55),(94,Tryz.f94),(139,Tryz.f139)],loops:=[((139,2),qE q1v q18 (qg ju)),((139,9),qE q0T q0V (qg jw))],nimp:=1,iter:=[(139,55,3)] }
noncomputable def qV (ps:List PV):TR:=qW qbc 55 Tryz.f55 true wt wz ps
theorem qh2:EnvOK qbc Tryz.prog:=⟨qm qc,
 all_cons vX (q8),
 all_cons (zp Tryz.func139 (by kernel_rfl) (by kernel_rfl) qa3) (all_cons (zp Tryz.func139 (by kernel_rfl) (by kernel_rfl) q9L) (q8)),
 all_cons (qh Tryz.func55 (by kernel_rfl)) (all_cons (qh Tryz.func94 (by kernel_rfl)) (all_cons (qh Tryz.func139 (by kernel_rfl)) (q8)))⟩
theorem wy:wi Tryz.prog qa 55 (qf wt wz qV):=qt qk qh2 Tryz.func55 (by kernel_rfl) (by kernel_rfl) (fun _=>rfl)
def q77:FIn:={ args:=[(.imm [.str,.str,.str])],h:=[] }
def q6Q:List FOut:=[{ res:=(.tuple [.bool,(.agg [(.int .i64),(.int .i64),(.int .i64)]),(.int .i64)]),h:=[] }]
noncomputable def qie:Env:={ tt:=qj,glob:=qa,spec:=[(54,qf vw vt zl),(55,qf wt wz qV)],body:=[(18,Tryz.f18)],loops:=[],nimp:=0 }
noncomputable def zn (ps:List PV):TR:=qW qie 18 Tryz.f18 true q77 q6Q ps
theorem qnF:EnvOK qie Tryz.prog:=⟨qm qc,
 all_cons wR (all_cons wy (q8)),
 q8,
 all_cons (qh Tryz.func18 (by kernel_rfl)) (q8)⟩
theorem qd6:wi Tryz.prog qa 18 (qf q77 q6Q zn):=qt qk qnF Tryz.func18 (by kernel_rfl) (by kernel_rfl) (fun _=>rfl)
def kZ:FIn:={ args:=[(.imm [.str,.str,.str])],h:=[] }
def q01:List FOut:=[{ res:=(.tuple [(.imm [(.int .i64)]),(.int .i64)]),h:=[] }]
def ui:Tmpl:={ t:=[.any,(.ptr 0 0),(.ptr 2 0),.any,.any,(.vec 4),.any,.any,.any,.any,(.vec 3),(.int .i64),(.int .i64),.any,.any,.any,.any,.any,.any,.any,.any,.any,.any,.any,.any,.any,.any,.any,.any,.any,.any,.any,.any,.any,.any,.any,.any,.any,.any],h:=[.cells [(.imm [.str,.str,.str])],.cells [(.int .i64)],.cells [(.ptr 1 0)],.vec 3 [(.int .i64)],.vec 26 [.str,.str,.str]],pro:=[(5,26,[.str,.str,.str])],fs:=[[.any,(.ptr 0 0),.any,.any,.any,(.ptr 2 0),(.fn 63 [] [(.ptr 0 0),(.ptr 2 0)]),(.int .i64),(.int .i64),.any,.any,.any,.any,.any,.any,.any,.any,.any,.any,.any,.any,(.int .i64),(.int .i64),.any,.any,.any,.any,(.int .i64),(.imm [.str,.str,.str]),(.int .i64),(.blit true),.any,.any,(.fn 63 [] [(.ptr 0 0),(.ptr 2 0)]),(.int .i64),(.int .i64),(.vec 3),.any,.any,.any,.any,.any,.any,.any,.any,.any,.any,.any,.any,.any,.any,.any,.any,.any,.any,.any,.any,.any,.any,.any,.any,.any,.any,.any,.any,.any,.any,.any,.any,.any,.any,.any,.any,.any,.any,.any,.any,.any],[]] }
def u9:List Out:=[{ x:=(.exit 0),tm:={ t:=[.any,.any,(.ptr 2 0),.any,.any,(.vec 4),.any,.any,.any,.any,.any,.any,.any,.any,.any,.any,.any,.any,.any,.any,.any,.any,.any,.any,.any,.any,.any,.any,.any,.any,.any,.any,.any,.any,.any,.any,.any,.any,.any],h:=[.cells [(.imm [.str,.str,.str])],.cells [(.int .i64)],.cells [(.ptr 1 0)],.vec 3 [(.int .i64)],.vec 26 [.str,.str,.str]],fs:=[[.any,(.ptr 0 0),.any,.any,.any,(.ptr 2 0),(.fn 63 [] [(.ptr 0 0),(.ptr 2 0)]),(.int .i64),(.int .i64),.any,.any,.any,.any,.any,.any,.any,.any,.any,.any,.any,.any,(.int .i64),(.int .i64),.any,.any,.any,.any,(.int .i64),(.imm [.str,.str,.str]),(.int .i64),(.blit true),.any,.any,(.fn 63 [] [(.ptr 0 0),(.ptr 2 0)]),(.int .i64),(.int .i64),(.vec 3),.any,.any,.any,.any,.any,.any,.any,.any,.any,.any,.any,.any,.any,.any,.any,.any,.any,.any,.any,.any,.any,.any,.any,.any,.any,.any,.any,.any,.any,.any,.any,.any,.any,.any,.any,.any,.any,.any,.any,.any,.any],[]] } }]
noncomputable def jj:Env:={ tt:=qj,glob:=qa,spec:=[(54,qf vw vt zl),(55,qf wt wz qV)],body:=[(26,Tryz.f26),(63,Tryz.f63)],loops:=[],nimp:=0 }
noncomputable def wj (ps:List PV):TR:=jx jj 63 Tryz.f63 4 ui u9 ps
theorem q6g:EnvOK jj Tryz.prog:=⟨qm qc,
 all_cons wR (all_cons wy (q8)),
 q8,
 all_cons (qh Tryz.func26 (by kernel_rfl)) (all_cons (qh Tryz.func63 (by kernel_rfl)) (q8))⟩
theorem q64:qO Tryz.prog qa jj.nimp (zo Tryz.prog jj.iter 63) (wM Tryz.f63 4) (qE ui u9 (qg wj)):=
 qv qk q6g Tryz.func63 (by kernel_rfl) (by kernel_rfl) (by kernel_rfl) (by kernel_rfl) (fun _=>rfl)
def q1c:Tmpl:={ t:=[.any,(.ptr 0 0),.any,.any,.any,(.ptr 2 0),(.fn 63 [] [(.ptr 0 0),(.ptr 2 0)]),(.int .i64),(.int .i64),.any,.any,.any,.any,.any,.any,.any,.any,.any,.any,.any,.any,(.int .i64),(.int .i64),.any,.any,.any,.any,.any,.any,.any,.any,.any,.any,.any,.any,.any,.any,.any,.any,.any,.any,.any,.any,.any,.any,.any,.any,.any,.any,.any,.any,.any,.any,.any,.any,.any,.any,.any,.any,.any,.any,.any,.any,.any,.any,.any,.any,.any,.any,.any,.any,.any,.any,.any,.any,.any,.any,.any],h:=[.cells [(.imm [.str,.str,.str])],.cells [(.int .i64)],.cells [(.ptr 1 0)]] }
def q1l:List Out:=[{ x:=(.exit 2),tm:={ t:=[.any,(.ptr 0 0),.any,.any,.any,(.ptr 2 0),(.fn 63 [] [(.ptr 0 0),(.ptr 2 0)]),.any,.any,.any,.any,.any,.any,.any,.any,.any,.any,.any,.any,.any,.any,(.int .i64),(.int .i64),.any,.any,.any,.any,.any,.any,.any,.any,.any,.any,.any,.any,.any,.any,.any,.any,.any,.any,.any,.any,.any,.any,.any,.any,.any,.any,.any,.any,.any,.any,.any,.any,.any,.any,.any,.any,.any,.any,.any,.any,.any,.any,.any,.any,.any,.any,.any,.any,.any,.any,.any,.any,.any,.any,.any],h:=[.cells [(.imm [.str,.str,.str])],.cells [(.int .i64)],.cells [(.ptr 1 0)]] } },{ x:=.ret,tm:={ t:=[.any,.any,(.vec 6),(.int .i64),.any,.any,.any,.any,.any,.any,.any,.any,.any,.any,.any,.any,.any,.any,.any,.any,.any,.any,.any,.any,.any,.any,.any,.any,.any,.any,.any,.any,.any,.any,.any,.any,.any,.any,.any,.any,.any,.any,.any,.any,.any,.any,.any,.any,.any,.any,.any,.any,.any,.any,.any,.any,.any,.any,.any,.any,.any,.any,.any,.any,.any,.any,.any,.any,.any,.any,.any,.any,.any,.any,.any,.any,.any,.any],h:=[.dead,.dead,.dead,.dead,.dead,.dead,.vec 3 [(.int .i64)]] } }]
noncomputable def yY:Env:={ tt:=qj,glob:=qa,spec:=[(54,qf vw vt zl),(55,qf wt wz qV)],body:=[(26,Tryz.f26),(63,Tryz.f63)],loops:=[((63,4),qE ui u9 (qg wj))],nimp:=0 }
noncomputable def zh (ps:List PV):TR:=jx yY 26 Tryz.f26 15 q1c q1l ps
theorem qaJ:EnvOK yY Tryz.prog:=⟨qm qc,
 all_cons wR (all_cons wy (q8)),
 all_cons (zp Tryz.func63 (by kernel_rfl) (by kernel_rfl) q64) (q8),
 all_cons (qh Tryz.func26 (by kernel_rfl)) (all_cons (qh Tryz.func63 (by kernel_rfl)) (q8))⟩
theorem qaj:qO Tryz.prog qa yY.nimp (zo Tryz.prog yY.iter 26) (wM Tryz.f26 15) (qE q1c q1l (qg zh)):=
 qv qk qaJ Tryz.func26 (by kernel_rfl) (by kernel_rfl) (by kernel_rfl) (by kernel_rfl) (fun _=>rfl)
def q1U:Tmpl:={ t:=[.any,(.ptr 0 0),.any,.any,.any,(.ptr 2 0),(.fn 63 [] [(.ptr 0 0),(.ptr 2 0)]),.any,.any,.any,.any,.any,.any,.any,.any,.any,.any,.any,.any,.any,.any,(.int .i64),(.int .i64),.any,.any,.any,.any,.any,.any,.any,.any,.any,.any,.any,.any,.any,.any,.any,.any,.any,.any,.any,.any,.any,.any,.any,.any,.any,.any,.any,.any,.any,.any,.any,.any,.any,.any,.any,.any,.any,.any,.any,.any,.any,.any,.any,.any,.any,.any,.any,.any,.any,.any,.any,.any,.any,.any,.any],h:=[.cells [(.imm [.str,.str,.str])],.cells [(.int .i64)],.cells [(.ptr 1 0)]] }
def q1R:List Out:=[{ x:=(.exit 0),tm:={ t:=[.any,(.ptr 0 0),.any,.any,.any,(.ptr 2 0),(.fn 63 [] [(.ptr 0 0),(.ptr 2 0)]),.any,.any,.any,.any,.any,.any,.any,.any,.any,.any,.any,.any,.any,.any,.any,.any,.any,.any,.any,.any,.any,.any,.any,.any,.any,.any,.any,.any,.any,.any,.any,.any,.any,.any,.any,.any,.any,.any,.any,.any,.any,.any,.any,.any,.any,.any,.any,.any,.any,.any,.any,.any,.any,.any,.any,.any,.any,.any,.any,.any,.any,.any,.any,.any,.any,.any,.any,.any,.any,.any,.any],h:=[.cells [(.imm [.str,.str,.str])],.cells [(.int .i64)],.cells [(.ptr 1 0)]] } },{ x:=.ret,tm:={ t:=[.any,.any,(.vec 6),(.int .i64),.any,.any,.any,.any,.any,.any,.any,.any,.any,.any,.any,.any,.any,.any,.any,.any,.any,.any,.any,.any,.any,.any,.any,.any,.any,.any,.any,.any,.any,.any,.any,.any,.any,.any,.any,.any,.any,.any,.any,.any,.any,.any,.any,.any,.any,.any,.any,.any,.any,.any,.any,.any,.any,.any,.any,.any,.any,.any,.any,.any,.any,.any,.any,.any,.any,.any,.any,.any,.any,.any,.any,.any,.any,.any],h:=[.dead,.dead,.dead,.dead,.dead,.dead,.vec 3 [(.int .i64)]] } }]
noncomputable def uC:Env:={ tt:=qj,glob:=qa,spec:=[(54,qf vw vt zl),(55,qf wt wz qV)],body:=[(26,Tryz.f26),(63,Tryz.f63)],loops:=[((26,15),qE q1c q1l (qg zh))],nimp:=0 }
noncomputable def qz (ps:List PV):TR:=jx uC 26 Tryz.f26 9 q1U q1R ps
theorem qcl:EnvOK uC Tryz.prog:=⟨qm qc,
 all_cons wR (all_cons wy (q8)),
 all_cons (zp Tryz.func26 (by kernel_rfl) (by kernel_rfl) qaj) (q8),
 all_cons (qh Tryz.func26 (by kernel_rfl)) (all_cons (qh Tryz.func63 (by kernel_rfl)) (q8))⟩
theorem qaY:qO Tryz.prog qa uC.nimp (zo Tryz.prog uC.iter 26) (wM Tryz.f26 9) (qE q1U q1R (qg qz)):=
 qv qk qcl Tryz.func26 (by kernel_rfl) (by kernel_rfl) (by kernel_rfl) (by kernel_rfl) (fun _=>rfl)
def ul:Tmpl:={ t:=[.any,(.ptr 0 0),(.ptr 2 0),.any,.any,(.vec 4),.any,.any,.any,.any,(.vec 3),(.int .i64),(.int .i64),.any,.any,.any,.any,.any,.any,.any,.any,.any,.any,.any,.any,.any,.any,.any,.any,.any,.any,.any,.any,.any,.any,.any,.any,.any,.any],h:=[.cells [(.imm [.str,.str,.str])],.cells [(.int .i64)],.cells [(.ptr 1 0)],.vec 3 [(.int .i64)],.vec 26 [.str,.str,.str]],pro:=[(5,26,[.str,.str,.str])],fs:=[[.any,(.ptr 0 0),.any,.any,.any,(.ptr 2 0),(.fn 63 [] [(.ptr 0 0),(.ptr 2 0)]),.any,.any,(.int .i64),(.int .i64),(.int .i64),.any,.any,.any,.any,.any,.any,.any,.any,.any,.any,.any,.any,.any,.any,.any,.any,.any,.any,.any,.any,.any,.any,.any,.any,.any,.any,.any,.any,.any,.any,.any,(.int .i64),(.int .i64),.any,.any,.any,.any,.any,.any,.any,.any,.any,.any,.any,.any,(.int .i64),(.imm [.str,.str,.str]),(.int .i64),(.blit true),.any,.any,(.fn 63 [] [(.ptr 0 0),(.ptr 2 0)]),(.int .i64),(.int .i64),(.int .i64),(.vec 3),.any,.any,.any,.any,.any,.any,.any,.any,.any,.any],[]] }
def ua:List Out:=[{ x:=(.exit 0),tm:={ t:=[.any,.any,(.ptr 2 0),.any,.any,(.vec 4),.any,.any,.any,.any,.any,.any,.any,.any,.any,.any,.any,.any,.any,.any,.any,.any,.any,.any,.any,.any,.any,.any,.any,.any,.any,.any,.any,.any,.any,.any,.any,.any,.any],h:=[.cells [(.imm [.str,.str,.str])],.cells [(.int .i64)],.cells [(.ptr 1 0)],.vec 3 [(.int .i64)],.vec 26 [.str,.str,.str]],fs:=[[.any,(.ptr 0 0),.any,.any,.any,(.ptr 2 0),(.fn 63 [] [(.ptr 0 0),(.ptr 2 0)]),.any,.any,(.int .i64),(.int .i64),(.int .i64),.any,.any,.any,.any,.any,.any,.any,.any,.any,.any,.any,.any,.any,.any,.any,.any,.any,.any,.any,.any,.any,.any,.any,.any,.any,.any,.any,.any,.any,.any,.any,(.int .i64),(.int .i64),.any,.any,.any,.any,.any,.any,.any,.any,.any,.any,.any,.any,(.int .i64),(.imm [.str,.str,.str]),(.int .i64),(.blit true),.any,.any,(.fn 63 [] [(.ptr 0 0),(.ptr 2 0)]),(.int .i64),(.int .i64),(.int .i64),(.vec 3),.any,.any,.any,.any,.any,.any,.any,.any,.any,.any],[]] } }]
noncomputable def jk:Env:={ tt:=qj,glob:=qa,spec:=[(54,qf vw vt zl),(55,qf wt wz qV)],body:=[(26,Tryz.f26),(63,Tryz.f63)],loops:=[],nimp:=0 }
noncomputable def wo (ps:List PV):TR:=jx jk 63 Tryz.f63 4 ul ua ps
theorem q6x:EnvOK jk Tryz.prog:=⟨qm qc,
 all_cons wR (all_cons wy (q8)),
 q8,
 all_cons (qh Tryz.func26 (by kernel_rfl)) (all_cons (qh Tryz.func63 (by kernel_rfl)) (q8))⟩
theorem q63:qO Tryz.prog qa jk.nimp (zo Tryz.prog jk.iter 63) (wM Tryz.f63 4) (qE ul ua (qg wo)):=
 qv qk q6x Tryz.func63 (by kernel_rfl) (by kernel_rfl) (by kernel_rfl) (by kernel_rfl) (fun _=>rfl)
def q0U:Tmpl:={ t:=[.any,(.ptr 0 0),.any,.any,.any,(.ptr 2 0),(.fn 63 [] [(.ptr 0 0),(.ptr 2 0)]),.any,.any,(.int .i64),(.int .i64),(.int .i64),.any,.any,.any,.any,.any,.any,.any,.any,.any,.any,.any,.any,.any,.any,.any,.any,.any,.any,.any,.any,.any,.any,.any,.any,.any,.any,.any,.any,.any,.any,.any,(.int .i64),(.int .i64),.any,.any,.any,.any,.any,.any,.any,.any,.any,.any,.any,.any,.any,.any,.any,.any,.any,.any,.any,.any,.any,.any,.any,.any,.any,.any,.any,.any,.any,.any,.any,.any,.any],h:=[.cells [(.imm [.str,.str,.str])],.cells [(.int .i64)],.cells [(.ptr 1 0)]] }
def q0Z:List Out:=[{ x:=(.exit 8),tm:={ t:=[.any,(.ptr 0 0),.any,.any,.any,(.ptr 2 0),(.fn 63 [] [(.ptr 0 0),(.ptr 2 0)]),.any,.any,(.int .i64),(.int .i64),.any,.any,.any,.any,.any,.any,.any,.any,.any,.any,.any,.any,.any,.any,.any,.any,.any,.any,.any,.any,.any,.any,.any,.any,.any,.any,.any,.any,.any,.any,.any,.any,(.int .i64),(.int .i64),.any,.any,.any,.any,.any,.any,.any,.any,.any,.any,.any,.any,.any,.any,.any,.any,.any,.any,.any,.any,.any,.any,.any,.any,.any,.any,.any,.any,.any,.any,.any,.any,.any],h:=[.cells [(.imm [.str,.str,.str])],.cells [(.int .i64)],.cells [(.ptr 1 0)]] } },{ x:=.ret,tm:={ t:=[.any,.any,(.vec 6),(.int .i64),.any,.any,.any,.any,.any,.any,.any,.any,.any,.any,.any,.any,.any,.any,.any,.any,.any,.any,.any,.any,.any,.any,.any,.any,.any,.any,.any,.any,.any,.any,.any,.any,.any,.any,.any,.any,.any,.any,.any,.any,.any,.any,.any,.any,.any,.any,.any,.any,.any,.any,.any,.any,.any,.any,.any,.any,.any,.any,.any,.any,.any,.any,.any,.any,.any,.any,.any,.any,.any,.any,.any,.any,.any,.any],h:=[.dead,.dead,.dead,.dead,.dead,.dead,.vec 3 [(.int .i64)]] } }]
noncomputable def yW:Env:={ tt:=qj,glob:=qa,spec:=[(54,qf vw vt zl),(55,qf wt wz qV)],body:=[(26,Tryz.f26),(63,Tryz.f63)],loops:=[((63,4),qE ul ua (qg wo))],nimp:=0 }
noncomputable def qY (ps:List PV):TR:=jx yW 26 Tryz.f26 34 q0U q0Z ps
theorem qaX:EnvOK yW Tryz.prog:=⟨qm qc,
 all_cons wR (all_cons wy (q8)),
 all_cons (zp Tryz.func63 (by kernel_rfl) (by kernel_rfl) q63) (q8),
 all_cons (qh Tryz.func26 (by kernel_rfl)) (all_cons (qh Tryz.func63 (by kernel_rfl)) (q8))⟩
theorem q9c:qO Tryz.prog qa yW.nimp (zo Tryz.prog yW.iter 26) (wM Tryz.f26 34) (qE q0U q0Z (qg qY)):=
 qv qk qaX Tryz.func26 (by kernel_rfl) (by kernel_rfl) (by kernel_rfl) (by kernel_rfl) (fun _=>rfl)
def q1w:Tmpl:={ t:=[.any,(.ptr 0 0),.any,.any,.any,(.ptr 2 0),(.fn 63 [] [(.ptr 0 0),(.ptr 2 0)]),.any,.any,(.int .i64),(.int .i64),.any,.any,.any,.any,.any,.any,.any,.any,.any,.any,.any,.any,.any,.any,.any,.any,.any,.any,.any,.any,.any,.any,.any,.any,.any,.any,.any,.any,.any,.any,.any,.any,(.int .i64),(.int .i64),.any,.any,.any,.any,.any,.any,.any,.any,.any,.any,.any,.any,.any,.any,.any,.any,.any,.any,.any,.any,.any,.any,.any,.any,.any,.any,.any,.any,.any,.any,.any,.any,.any],h:=[.cells [(.imm [.str,.str,.str])],.cells [(.int .i64)],.cells [(.ptr 1 0)]] }
def q16:List Out:=[{ x:=(.exit 6),tm:={ t:=[.any,(.ptr 0 0),.any,.any,.any,(.ptr 2 0),(.fn 63 [] [(.ptr 0 0),(.ptr 2 0)]),.any,.any,.any,.any,.any,.any,.any,.any,.any,.any,.any,.any,.any,.any,.any,.any,.any,.any,.any,.any,.any,.any,.any,.any,.any,.any,.any,.any,.any,.any,.any,.any,.any,.any,.any,.any,(.int .i64),(.int .i64),.any,.any,.any,.any,.any,.any,.any,.any,.any,.any,.any,.any,.any,.any,.any,.any,.any,.any,.any,.any,.any,.any,.any,.any,.any,.any,.any,.any,.any,.any,.any,.any,.any],h:=[.cells [(.imm [.str,.str,.str])],.cells [(.int .i64)],.cells [(.ptr 1 0)]] } },{ x:=.ret,tm:={ t:=[.any,.any,(.vec 6),(.int .i64),.any,.any,.any,.any,.any,.any,.any,.any,.any,.any,.any,.any,.any,.any,.any,.any,.any,.any,.any,.any,.any,.any,.any,.any,.any,.any,.any,.any,.any,.any,.any,.any,.any,.any,.any,.any,.any,.any,.any,.any,.any,.any,.any,.any,.any,.any,.any,.any,.any,.any,.any,.any,.any,.any,.any,.any,.any,.any,.any,.any,.any,.any,.any,.any,.any,.any,.any,.any,.any,.any,.any,.any,.any,.any],h:=[.dead,.dead,.dead,.dead,.dead,.dead,.vec 3 [(.int .i64)]] } }]
noncomputable def yX:Env:={ tt:=qj,glob:=qa,spec:=[(54,qf vw vt zl),(55,qf wt wz qV)],body:=[(26,Tryz.f26),(63,Tryz.f63)],loops:=[((26,34),qE q0U q0Z (qg qY))],nimp:=0 }
noncomputable def zk (ps:List PV):TR:=jx yX 26 Tryz.f26 29 q1w q16 ps
theorem qaR:EnvOK yX Tryz.prog:=⟨qm qc,
 all_cons wR (all_cons wy (q8)),
 all_cons (zp Tryz.func26 (by kernel_rfl) (by kernel_rfl) q9c) (q8),
 all_cons (qh Tryz.func26 (by kernel_rfl)) (all_cons (qh Tryz.func63 (by kernel_rfl)) (q8))⟩
theorem q9Q:qO Tryz.prog qa yX.nimp (zo Tryz.prog yX.iter 26) (wM Tryz.f26 29) (qE q1w q16 (qg zk)):=
 qv qk qaR Tryz.func26 (by kernel_rfl) (by kernel_rfl) (by kernel_rfl) (by kernel_rfl) (fun _=>rfl)
def q12:Tmpl:={ t:=[.any,(.ptr 0 0),.any,.any,.any,(.ptr 2 0),(.fn 63 [] [(.ptr 0 0),(.ptr 2 0)]),.any,.any,.any,.any,.any,.any,.any,.any,.any,.any,.any,.any,.any,.any,.any,.any,.any,.any,.any,.any,.any,.any,.any,.any,.any,.any,.any,.any,.any,.any,.any,.any,.any,.any,.any,.any,(.int .i64),(.int .i64),.any,.any,.any,.any,.any,.any,.any,.any,.any,.any,.any,.any,.any,.any,.any,.any,.any,.any,.any,.any,.any,.any,.any,.any,.any,.any,.any,.any,.any,.any,.any,.any,.any],h:=[.cells [(.imm [.str,.str,.str])],.cells [(.int .i64)],.cells [(.ptr 1 0)]] }
def q19:List Out:=[{ x:=(.exit 4),tm:={ t:=[.any,.any,.any,.any,.any,(.ptr 2 0),.any,.any,.any,.any,.any,.any,.any,.any,.any,.any,.any,.any,.any,.any,.any,.any,.any,.any,.any,.any,.any,.any,.any,.any,.any,.any,.any,.any,.any,.any,.any,.any,.any,.any,.any,.any,.any,.any,.any,.any,.any,.any,.any,.any,.any,.any,.any,.any,.any,.any,.any,.any,.any,.any,.any,.any,.any,.any,.any,.any,.any,.any,.any,.any,.any,.any,.any,.any,.any,.any,.any,.any],h:=[.dead,.cells [(.int .i64)],.cells [(.ptr 1 0)]] } },{ x:=.ret,tm:={ t:=[.any,.any,(.vec 6),(.int .i64),.any,.any,.any,.any,.any,.any,.any,.any,.any,.any,.any,.any,.any,.any,.any,.any,.any,.any,.any,.any,.any,.any,.any,.any,.any,.any,.any,.any,.any,.any,.any,.any,.any,.any,.any,.any,.any,.any,.any,.any,.any,.any,.any,.any,.any,.any,.any,.any,.any,.any,.any,.any,.any,.any,.any,.any,.any,.any,.any,.any,.any,.any,.any,.any,.any,.any,.any,.any,.any,.any,.any,.any,.any,.any],h:=[.dead,.dead,.dead,.dead,.dead,.dead,.vec 3 [(.int .i64)]] } }]
noncomputable def yZ:Env:={ tt:=qj,glob:=qa,spec:=[(54,qf vw vt zl),(55,qf wt wz qV)],body:=[(26,Tryz.f26),(63,Tryz.f63)],loops:=[((26,29),qE q1w q16 (qg zk))],nimp:=0 }
noncomputable def zJ (ps:List PV):TR:=jx yZ 26 Tryz.f26 23 q12 q19 ps
theorem qaP:EnvOK yZ Tryz.prog:=⟨qm qc,
 all_cons wR (all_cons wy (q8)),
 all_cons (zp Tryz.func26 (by kernel_rfl) (by kernel_rfl) q9Q) (q8),
 all_cons (qh Tryz.func26 (by kernel_rfl)) (all_cons (qh Tryz.func63 (by kernel_rfl)) (q8))⟩
theorem qat:qO Tryz.prog qa yZ.nimp (zo Tryz.prog yZ.iter 26) (wM Tryz.f26 23) (qE q12 q19 (qg zJ)):=
 qv qk qaP Tryz.func26 (by kernel_rfl) (by kernel_rfl) (by kernel_rfl) (by kernel_rfl) (fun _=>rfl)
noncomputable def q7f:Env:={ tt:=qj,glob:=qa,spec:=[(54,qf vw vt zl),(55,qf wt wz qV)],body:=[(26,Tryz.f26),(63,Tryz.f63)],loops:=[((26,9),qE q1U q1R (qg qz)),((26,23),qE q12 q19 (qg zJ))],nimp:=0 }
noncomputable def zy (ps:List PV):TR:=qW q7f 26 Tryz.f26 true kZ q01 ps
theorem qdD:EnvOK q7f Tryz.prog:=⟨qm qc,
 all_cons wR (all_cons wy (q8)),
 all_cons (zp Tryz.func26 (by kernel_rfl) (by kernel_rfl) qaY) (all_cons (zp Tryz.func26 (by kernel_rfl) (by kernel_rfl) qat) (q8)),
 all_cons (qh Tryz.func26 (by kernel_rfl)) (all_cons (qh Tryz.func63 (by kernel_rfl)) (q8))⟩
theorem q52:wi Tryz.prog qa 26 (qf kZ q01 zy):=qt qk qdD Tryz.func26 (by kernel_rfl) (by kernel_rfl) (fun _=>rfl)
def qgj:FIn:={ args:=[.str,.str,.str],h:=[] }
def qfW:List FOut:=[{ res:=(.agg [.str,.str,.str]),h:=[] }]
noncomputable def qnp:Env:={ tt:=qj,glob:=qa,spec:=[],body:=[(33,Tryz.f33)],loops:=[],nimp:=0 }
noncomputable def jt (ps:List PV):TR:=qW qnp 33 Tryz.f33 true qgj qfW ps
theorem qrk:EnvOK qnp Tryz.prog:=⟨qm qc,
 q8,
 q8,
 all_cons (qh Tryz.func33 (by kernel_rfl)) (q8)⟩
theorem qp6:wi Tryz.prog qa 33 (qf qgj qfW jt):=qt qk qrk Tryz.func33 (by kernel_rfl) (by kernel_rfl) (fun _=>rfl)
def q2o:FIn:={ args:=[(.imm [(.int .i64)]),(.imm [(.int .i64)])],h:=[] }
def q2p:List FOut:=[{ res:=.bool,h:=[] }]
def q10:Tmpl:={ t:=[(.imm [(.int .i64)]),(.imm [(.int .i64)]),.any,.any,.any,.any,.any,.any,.any,.any,.any,.any,(.int .i64),(.int .i64),.any,.any,.any,.any,.any,.any,.any,.any,.any,.any,.any,.any],h:=[] }
def q1o:List Out:=[{ x:=(.exit 0),tm:={ t:=[.any,.any,.any,.any,.any,.any,.any,.any,.any,.any,.any,.any,.any,.any,.any,.any,.any,.any,.any,.any,.any,.any,.any,.any,.any,.any],h:=[] } },{ x:=.ret,tm:={ t:=[.any,.any,.any,.any,.bool,.any,.any,.any,.any,.any,.any,.any,.any,.any,.any,.any,.any,.any,.any,.any,.any,.any,.any,.any,.any,.any],h:=[] } }]
noncomputable def yT:Env:={ tt:=qj,glob:=qa,spec:=[],body:=[(48,Tryz.f48)],loops:=[],nimp:=0 }
noncomputable def wT (ps:List PV):TR:=jx yT 48 Tryz.f48 6 q10 q1o ps
theorem qb2:EnvOK yT Tryz.prog:=⟨qm qc,
 q8,
 q8,
 all_cons (qh Tryz.func48 (by kernel_rfl)) (q8)⟩
theorem q9F:qO Tryz.prog qa yT.nimp (zo Tryz.prog yT.iter 48) (wM Tryz.f48 6) (qE q10 q1o (qg wT)):=
 qv qk qb2 Tryz.func48 (by kernel_rfl) (by kernel_rfl) (by kernel_rfl) (by kernel_rfl) (fun _=>rfl)
noncomputable def q66:Env:={ tt:=qj,glob:=qa,spec:=[],body:=[(48,Tryz.f48)],loops:=[((48,6),qE q10 q1o (qg wT))],nimp:=0 }
noncomputable def vW (ps:List PV):TR:=qW q66 48 Tryz.f48 true q2o q2p ps
theorem qcD:EnvOK q66 Tryz.prog:=⟨qm qc,
 q8,
 all_cons (zp Tryz.func48 (by kernel_rfl) (by kernel_rfl) q9F) (q8),
 all_cons (qh Tryz.func48 (by kernel_rfl)) (q8)⟩
theorem qce:wi Tryz.prog qa 48 (qf q2o q2p vW):=qt qk qcD Tryz.func48 (by kernel_rfl) (by kernel_rfl) (fun _=>rfl)
def q1V:FIn:={ args:=[],h:=[] }
def q1L:List FOut:=[{ res:=.bool,h:=[] }]
noncomputable def qjW:Env:={ tt:=qj,glob:=qa,spec:=[(13,qf q6S q6Z jB),(18,qf q77 q6Q zn),(26,qf kZ q01 zy),(33,qf qgj qfW jt),(48,qf q2o q2p vW)],body:=[(12,Tryz.f12)],loops:=[],nimp:=0 }
noncomputable def qS (ps:List PV):TR:=qW qjW 12 Tryz.f12 true q1V q1L ps
theorem qqG:EnvOK qjW Tryz.prog:=⟨qm qc,
 all_cons qdb (all_cons qd6 (all_cons q52 (all_cons qp6 (all_cons qce (q8))))),
 q8,
 all_cons (qh Tryz.func12 (by kernel_rfl)) (q8)⟩
theorem q26:wi Tryz.prog qa 12 (qf q1V q1L qS):=qt qk qqG Tryz.func12 (by kernel_rfl) (by kernel_rfl) (fun _=>rfl)
def q8Y:FIn:={ args:=[.str],h:=[] }
def q8D:List FOut:=[{ res:=(.int .i64),h:=[] }]
def q9N:Tmpl:={ t:=[.str,.any,.any,(.int .i64),.any,.any,.any,.any,.any,.any,.any,.any,.any,.any,.any],h:=[] }
def q9E:List Out:=[{ x:=(.exit 0),tm:={ t:=[.any,.any,.any,.any,.any,.any,.any,.any,.any,.any,.any,.any,.any,.any,.any],h:=[] } },{ x:=.ret,tm:={ t:=[.any,.any,(.int .i64),.any,.any,.any,.any,.any,.any,.any,.any,.any,.any,.any,.any],h:=[] } }]
noncomputable def q60:Env:={ tt:=qj,glob:=qa,spec:=[],body:=[(81,Tryz.f81)],loops:=[],nimp:=0 }
noncomputable def ki (ps:List PV):TR:=jx q60 81 Tryz.f81 3 q9N q9E ps
theorem qlM:EnvOK q60 Tryz.prog:=⟨qm qc,
 q8,
 q8,
 all_cons (qh Tryz.func81 (by kernel_rfl)) (q8)⟩
theorem qjA:qO Tryz.prog qa q60.nimp (zo Tryz.prog q60.iter 81) (wM Tryz.f81 3) (qE q9N q9E (qg ki)):=
 qv qk qlM Tryz.func81 (by kernel_rfl) (by kernel_rfl) (by kernel_rfl) (by kernel_rfl) (fun _=>rfl)
noncomputable def qkP:Env:={ tt:=qj,glob:=qa,spec:=[],body:=[(81,Tryz.f81)],loops:=[((81,3),qE q9N q9E (qg ki))],nimp:=0 }
noncomputable def vm (ps:List PV):TR:=qW qkP 81 Tryz.f81 true q8Y q8D ps
theorem qpL:EnvOK qkP Tryz.prog:=⟨qm qc,
 q8,
 all_cons (zp Tryz.func81 (by kernel_rfl) (by kernel_rfl) qjA) (q8),
 all_cons (qh Tryz.func81 (by kernel_rfl)) (q8)⟩
theorem qeA:wi Tryz.prog qa 81 (qf q8Y q8D vm):=qt qk qpL Tryz.func81 (by kernel_rfl) (by kernel_rfl) (fun _=>rfl)
def q5X:FIn:={ args:=[.str],h:=[] }
def q5H:List FOut:=[{ res:=(.tuple [.str,.str]),h:=[] }]
noncomputable def qlo:Env:={ tt:=qj,glob:=qa,spec:=[(81,qf q8Y q8D vm)],body:=[(79,Tryz.f79)],loops:=[],nimp:=0 }
noncomputable def qA (ps:List PV):TR:=qW qlo 79 Tryz.f79 true q5X q5H ps
theorem qr2:EnvOK qlo Tryz.prog:=⟨qm qc,
 all_cons qeA (q8),
 q8,
 all_cons (qh Tryz.func79 (by kernel_rfl)) (q8)⟩
theorem q7U:wi Tryz.prog qa 79 (qf q5X q5H qA):=qt qk qr2 Tryz.func79 (by kernel_rfl) (by kernel_rfl) (fun _=>rfl)
def vQ:FIn:={ args:=[.str],h:=[] }
def vT:List FOut:=[{ res:=.str,h:=[] }]
noncomputable def qna:Env:={ tt:=qj,glob:=qa,spec:=[],body:=[(111,Tryz.f111)],loops:=[],nimp:=0 }
noncomputable def ql (ps:List PV):TR:=qW qna 111 Tryz.f111 true vQ vT ps
theorem qrd:EnvOK qna Tryz.prog:=⟨qm qc,
 q8,
 q8,
 all_cons (qh Tryz.func111 (by kernel_rfl)) (q8)⟩
theorem ve:wi Tryz.prog qa 111 (qf vQ vT ql):=qt qk qrd Tryz.func111 (by kernel_rfl) (by kernel_rfl) (fun _=>rfl)
def qdG:FIn:={ args:=[.str],h:=[] }
def qdm:List FOut:=[{ res:=(.int .i64),h:=[] }]
def q9A:Tmpl:={ t:=[.any,.any,.any,.str,(.int .i64),.any,.any,.any,.any,.any,.any,.any,.any,.any,.any,.any,.any,.any,.any,.any,.any,.any,.any,.any,.any,.any,.any,.any,.any,.any,.any,.any,.any,.any,.any,.any,.any,.any,.any,.any,.any,.any,.any],h:=[] }
def qaz:List Out:=[{ x:=(.exit 0),tm:={ t:=[.any,.any,.any,.str,.any,.any,.any,.any,.any,.any,.any,.any,.any,.any,.any,.any,.any,.any,.any,.any,.any,.any,.any,.any,.any,.any,.any,.any,.any,.any,.any,.any,.any,.any,.any,.any,.any,.any,.any,.any,.any,.any,.any],h:=[] } },{ x:=.ret,tm:={ t:=[.any,.any,(.int .i64),.any,.any,.any,.any,.any,.any,.any,.any,.any,.any,.any,.any,.any,.any,.any,.any,.any,.any,.any,.any,.any,.any,.any,.any,.any,.any,.any,.any,.any,.any,.any,.any,.any,.any,.any,.any,.any,.any,.any,.any],h:=[] } }]
noncomputable def q5g:Env:={ tt:=qj,glob:=qa,spec:=[(111,qf vQ vT ql)],body:=[(80,Tryz.f80)],loops:=[],nimp:=0 }
noncomputable def vb (ps:List PV):TR:=jx q5g 80 Tryz.f80 7 q9A qaz ps
theorem qmM:EnvOK q5g Tryz.prog:=⟨qm qc,
 all_cons ve (q8),
 q8,
 all_cons (qh Tryz.func80 (by kernel_rfl)) (q8)⟩
theorem qkx:qO Tryz.prog qa q5g.nimp (zo Tryz.prog q5g.iter 80) (wM Tryz.f80 7) (qE q9A qaz (qg vb)):=
 qv qk qmM Tryz.func80 (by kernel_rfl) (by kernel_rfl) (by kernel_rfl) (by kernel_rfl) (fun _=>rfl)
noncomputable def qkI:Env:={ tt:=qj,glob:=qa,spec:=[(111,qf vQ vT ql)],body:=[(80,Tryz.f80)],loops:=[((80,7),qE q9A qaz (qg vb))],nimp:=0 }
noncomputable def jc (ps:List PV):TR:=qW qkI 80 Tryz.f80 true qdG qdm ps
theorem qpd:EnvOK qkI Tryz.prog:=⟨qm qc,
 all_cons ve (q8),
 all_cons (zp Tryz.func80 (by kernel_rfl) (by kernel_rfl) qkx) (q8),
 all_cons (qh Tryz.func80 (by kernel_rfl)) (q8)⟩
theorem qnL:wi Tryz.prog qa 80 (qf qdG qdm jc):=qt qk qpd Tryz.func80 (by kernel_rfl) (by kernel_rfl) (fun _=>rfl)
def yw:FIn:={ args:=[.str],h:=[] }
def yH:List FOut:=[{ res:=.bool,h:=[] }]
noncomputable def qkB:Env:={ tt:=qj,glob:=qa,spec:=[],body:=[(107,Tryz.f107)],loops:=[],nimp:=0 }
noncomputable def qB (ps:List PV):TR:=qW qkB 107 Tryz.f107 true yw yH ps
theorem qq9:EnvOK qkB Tryz.prog:=⟨qm qc,
 q8,
 q8,
 all_cons (qh Tryz.func107 (by kernel_rfl)) (q8)⟩
theorem yb:wi Tryz.prog qa 107 (qf yw yH qB):=qt qk qq9 Tryz.func107 (by kernel_rfl) (by kernel_rfl) (fun _=>rfl)
def yK:FIn:={ args:=[.str,.bool],h:=[] }
def yC:List FOut:=[{ res:=.str,h:=[] }]
noncomputable def qi8:Env:={ tt:=qj,glob:=qa,spec:=[],body:=[(112,Tryz.f112)],loops:=[],nimp:=0 }
noncomputable def qL (ps:List PV):TR:=qW qi8 112 Tryz.f112 true yK yC ps
theorem qo1:EnvOK qi8 Tryz.prog:=⟨qm qc,
 q8,
 q8,
 all_cons (qh Tryz.func112 (by kernel_rfl)) (q8)⟩
theorem yo:wi Tryz.prog qa 112 (qf yK yC qL):=qt qk qo1 Tryz.func112 (by kernel_rfl) (by kernel_rfl) (fun _=>rfl)
def uF:FIn:={ args:=[.str],h:=[] }
def uI:List FOut:=[{ res:=.str,h:=[] }]
noncomputable def qhI:Env:={ tt:=qj,glob:=qa,spec:=[(107,qf yw yH qB),(111,qf vQ vT ql),(112,qf yK yC qL)],body:=[(108,Tryz.f108)],loops:=[],nimp:=0 }
noncomputable def zc (ps:List PV):TR:=qW qhI 108 Tryz.f108 true uF uI ps
theorem qnz:EnvOK qhI Tryz.prog:=⟨qm qc,
 all_cons yb (all_cons ve (all_cons yo (q8))),
 q8,
 all_cons (qh Tryz.func108 (by kernel_rfl)) (q8)⟩
theorem uR:wi Tryz.prog qa 108 (qf uF uI zc):=qt qk qnz Tryz.func108 (by kernel_rfl) (by kernel_rfl) (fun _=>rfl)
def qdT:FIn:={ args:=[(.int .i64)],h:=[] }
def qei:List FOut:=[{ res:=.str,h:=[] }]
def qe9:Tmpl:={ t:=[(.int .i64),.any,.any,.str,.any,.any,.any,.any,.any,.any,.any,.any,.any,.any,.any,.any,.any,.any,.any,.any,.any,.any,.any,.any,.any,.any,.any,.any,.any,.any,.any,.any,.any,.any,.any,.any,.any],h:=[] }
def qdF:List Out:=[{ x:=(.exit 0),tm:={ t:=[(.int .i64),.any,.any,.str,.any,.any,.any,.any,.any,.any,.any,.any,.any,.any,.any,.any,.any,.any,.any,.any,.any,.any,.any,.any,.any,.any,.any,.any,.any,.any,.any,.any,.any,.any,.any,.any,.any],h:=[] } }]
noncomputable def q96:Env:={ tt:=qj,glob:=qa,spec:=[(108,qf uF uI zc)],body:=[],loops:=[],nimp:=0 }
noncomputable def vH (ps:List PV):TR:=jx q96 70 Tryz.f70 9 qe9 qdF ps
theorem qr3:EnvOK q96 Tryz.prog:=⟨qm qc,
 all_cons uR (q8),
 q8,
 q8⟩
theorem qnE:qO Tryz.prog qa q96.nimp (zo Tryz.prog q96.iter 70) (wM Tryz.f70 9) (qE qe9 qdF (qg vH)):=
 qv qk qr3 Tryz.func70 (by kernel_rfl) (by kernel_rfl) (by kernel_rfl) (by kernel_rfl) (fun _=>rfl)
noncomputable def qpZ:Env:={ tt:=qj,glob:=qa,spec:=[(108,qf uF uI zc)],body:=[],loops:=[((70,9),qE qe9 qdF (qg vH))],nimp:=0 }
noncomputable def kt (ps:List PV):TR:=qW qpZ 70 Tryz.f70 true qdT qei ps
theorem qtZ:EnvOK qpZ Tryz.prog:=⟨qm qc,
 all_cons uR (q8),
 all_cons (zp Tryz.func70 (by kernel_rfl) (by kernel_rfl) qnE) (q8),
 q8⟩
theorem qhH:wi Tryz.prog qa 70 (qf qdT qei kt):=qt qk qtZ Tryz.func70 (by kernel_rfl) (by kernel_rfl) (fun _=>rfl)
def q4W:FIn:={ args:=[(.int .i64)],h:=[] }
def q4Y:List FOut:=[{ res:=.str,h:=[] }]
def qfR:Tmpl:={ t:=[(.int .i64),.any,.any,.str,.any,.any,.any,.any,.any,.any,.any,.any,.any,.any,.any,.any,.any,.any,.any,.any,.any,.any,.any,.any,.any,.any,.any,.any,.any,.any,.any,.any,.any,.any,.any,.any,.any],h:=[] }
def qgv:List Out:=[{ x:=(.exit 0),tm:={ t:=[(.int .i64),.any,.any,.str,.any,.any,.any,.any,.any,.any,.any,.any,.any,.any,.any,.any,.any,.any,.any,.any,.any,.any,.any,.any,.any,.any,.any,.any,.any,.any,.any,.any,.any,.any,.any,.any,.any],h:=[] } }]
noncomputable def qbn:Env:={ tt:=qj,glob:=qa,spec:=[(70,qf qdT qei kt),(108,qf uF uI zc)],body:=[],loops:=[],nimp:=0 }
noncomputable def jv (ps:List PV):TR:=jx qbn 70 Tryz.f70 9 qfR qgv ps
theorem qsk:EnvOK qbn Tryz.prog:=⟨qm qc,
 all_cons qhH (all_cons uR (q8)),
 q8,
 q8⟩
theorem qoP:qO Tryz.prog qa qbn.nimp (zo Tryz.prog qbn.iter 70) (wM Tryz.f70 9) (qE qfR qgv (qg jv)):=
 qv qk qsk Tryz.func70 (by kernel_rfl) (by kernel_rfl) (by kernel_rfl) (by kernel_rfl) (fun _=>rfl)
noncomputable def qsq:Env:={ tt:=qj,glob:=qa,spec:=[(70,qf qdT qei kt),(108,qf uF uI zc)],body:=[],loops:=[((70,9),qE qfR qgv (qg jv))],nimp:=0 }
noncomputable def wX (ps:List PV):TR:=qW qsq 70 Tryz.f70 true q4W q4Y ps
theorem quU:EnvOK qsq Tryz.prog:=⟨qm qc,
 all_cons qhH (all_cons uR (q8)),
 all_cons (zp Tryz.func70 (by kernel_rfl) (by kernel_rfl) qoP) (q8),
 q8⟩
theorem q3v:wi Tryz.prog qa 70 (qf q4W q4Y wX):=qt qk quU Tryz.func70 (by kernel_rfl) (by kernel_rfl) (fun _=>rfl)
def qc3:FIn:={ args:=[.str],h:=[] }
def qbE:List FOut:=[{ res:=(.int .i64),h:=[] }]
def q7J:Tmpl:={ t:=[.str,.any,.any,(.int .i64),.str,(.int .i64),.any,.any,.any,.any,.any,.any,.any,.any,.any,.any,.any,.any,.any,.any,.any,.any,.any,.any,.any,.any,.any],h:=[] }
def q7H:List Out:=[{ x:=(.exit 0),tm:={ t:=[.str,.any,.any,(.int .i64),.any,.any,.any,.any,.any,.any,.any,.any,.any,.any,.any,.any,.any,.any,.any,.any,.any,.any,.any,.any,.any,.any,.any],h:=[] } }]
noncomputable def q4j:Env:={ tt:=qj,glob:=qa,spec:=[(107,qf yw yH qB),(111,qf vQ vT ql)],body:=[(148,Tryz.f148)],loops:=[],nimp:=0 }
noncomputable def vG (ps:List PV):TR:=jx q4j 148 Tryz.f148 4 q7J q7H ps
theorem qkj:EnvOK q4j Tryz.prog:=⟨qm qc,
 all_cons yb (all_cons ve (q8)),
 q8,
 all_cons (qh Tryz.func148 (by kernel_rfl)) (q8)⟩
theorem qjl:qO Tryz.prog qa q4j.nimp (zo Tryz.prog q4j.iter 148) (wM Tryz.f148 4) (qE q7J q7H (qg vG)):=
 qv qk qkj Tryz.func148 (by kernel_rfl) (by kernel_rfl) (by kernel_rfl) (by kernel_rfl) (fun _=>rfl)
noncomputable def qi7:Env:={ tt:=qj,glob:=qa,spec:=[(107,qf yw yH qB),(111,qf vQ vT ql)],body:=[(148,Tryz.f148)],loops:=[((148,4),qE q7J q7H (qg vG))],nimp:=0 }
noncomputable def uK (ps:List PV):TR:=qW qi7 148 Tryz.f148 true qc3 qbE ps
theorem qnX:EnvOK qi7 Tryz.prog:=⟨qm qc,
 all_cons yb (all_cons ve (q8)),
 all_cons (zp Tryz.func148 (by kernel_rfl) (by kernel_rfl) qjl) (q8),
 all_cons (qh Tryz.func148 (by kernel_rfl)) (q8)⟩
theorem qlG:wi Tryz.prog qa 148 (qf qc3 qbE uK):=qt qk qnX Tryz.func148 (by kernel_rfl) (by kernel_rfl) (fun _=>rfl)
def kU:FIn:={ args:=[.str,.str],h:=[] }
def kR:List FOut:=[{ res:=(.tuple [(.int .i64),(.int .i64),.bool]),h:=[] }]
noncomputable def qlt:Env:={ tt:=qj,glob:=qa,spec:=[(111,qf vQ vT ql),(148,qf qc3 qbE uK)],body:=[(110,Tryz.f110)],loops:=[],nimp:=0 }
noncomputable def z6 (ps:List PV):TR:=qW qlt 110 Tryz.f110 true kU kR ps
theorem qpT:EnvOK qlt Tryz.prog:=⟨qm qc,
 all_cons ve (all_cons qlG (q8)),
 q8,
 all_cons (qh Tryz.func110 (by kernel_rfl)) (q8)⟩
theorem kD:wi Tryz.prog qa 110 (qf kU kR z6):=qt qk qpT Tryz.func110 (by kernel_rfl) (by kernel_rfl) (fun _=>rfl)
def qbb:FIn:={ args:=[.str,(.int .i64)],h:=[] }
def qbh:List FOut:=[{ res:=.str,h:=[] }]
def qc4:Tmpl:={ t:=[.str,(.int .i64),.any,.any,.any,(.vec 0),(.int .i64),.any,.any,.any,.any,.any,.any,.any,.any,.any,.any,.any,.any,.any,.any,.any,.any,.any,.any,.any,.any],h:=[.vec 5 [(.int .u8)]] }
def qbV:List Out:=[{ x:=(.exit 0),tm:={ t:=[.str,(.int .i64),.any,.any,.any,(.vec 0),.any,.any,.any,.any,.any,.any,.any,.any,.any,.any,.any,.any,.any,.any,.any,.any,.any,.any,.any,.any,.any],h:=[.vec 5 [(.int .u8)]] } }]
noncomputable def q71:Env:={ tt:=qj,glob:=qa,spec:=[],body:=[(149,Tryz.f149)],loops:=[],nimp:=0 }
noncomputable def zK (ps:List PV):TR:=jx q71 149 Tryz.f149 4 qc4 qbV ps
theorem qo3:EnvOK q71 Tryz.prog:=⟨qm qc,
 q8,
 q8,
 all_cons (qh Tryz.func149 (by kernel_rfl)) (q8)⟩
theorem qmI:qO Tryz.prog qa q71.nimp (zo Tryz.prog q71.iter 149) (wM Tryz.f149 4) (qE qc4 qbV (qg zK)):=
 qv qk qo3 Tryz.func149 (by kernel_rfl) (by kernel_rfl) (by kernel_rfl) (by kernel_rfl) (fun _=>rfl)
noncomputable def qn1:Env:={ tt:=qj,glob:=qa,spec:=[],body:=[(149,Tryz.f149)],loops:=[((149,4),qE qc4 qbV (qg zK))],nimp:=0 }
noncomputable def jy (ps:List PV):TR:=qW qn1 149 Tryz.f149 true qbb qbh ps
theorem qrF:EnvOK qn1 Tryz.prog:=⟨qm qc,
 q8,
 all_cons (zp Tryz.func149 (by kernel_rfl) (by kernel_rfl) qmI) (q8),
 all_cons (qh Tryz.func149 (by kernel_rfl)) (q8)⟩
theorem qgi:wi Tryz.prog qa 149 (qf qbb qbh jy):=qt qk qrF Tryz.func149 (by kernel_rfl) (by kernel_rfl) (fun _=>rfl)
def q6I:FIn:={ args:=[(.int .u8),(.int .u8),(.int .i64),.bool],h:=[] }
def q6P:List FOut:=[{ res:=(.tuple [(.int .u8),(.int .i64)]),h:=[] }]
noncomputable def qi6:Env:={ tt:=qj,glob:=qa,spec:=[],body:=[(150,Tryz.f150)],loops:=[],nimp:=0 }
noncomputable def uG (ps:List PV):TR:=qW qi6 150 Tryz.f150 true q6I q6P ps
theorem qog:EnvOK qi6 Tryz.prog:=⟨qm qc,
 q8,
 q8,
 all_cons (qh Tryz.func150 (by kernel_rfl)) (q8)⟩
theorem qde:wi Tryz.prog qa 150 (qf q6I q6P uG):=qt qk qog Tryz.func150 (by kernel_rfl) (by kernel_rfl) (fun _=>rfl)
def yR:FIn:={ args:=[.str],h:=[] }
def yN:List FOut:=[{ res:=.str,h:=[] }]
def qbR:Tmpl:={ t:=[.str,.any,.any,.any,.any,.any,.any,.any,.any,.any,.any,.any,.any,.any],h:=[] }
def qbK:List Out:=[{ x:=(.exit 0),tm:={ t:=[.str,.any,.any,.any,.any,.any,.any,.any,.any,.any,.any,.any,.any,.any],h:=[] } }]
noncomputable def q73:Env:={ tt:=qj,glob:=qa,spec:=[],body:=[(151,Tryz.f151)],loops:=[],nimp:=0 }
noncomputable def q2i (ps:List PV):TR:=jx q73 151 Tryz.f151 2 qbR qbK ps
theorem qnA:EnvOK q73 Tryz.prog:=⟨qm qc,
 q8,
 q8,
 all_cons (qh Tryz.func151 (by kernel_rfl)) (q8)⟩
theorem qmP:qO Tryz.prog qa q73.nimp (zo Tryz.prog q73.iter 151) (wM Tryz.f151 2) (qE qbR qbK (qg q2i)):=
 qv qk qnA Tryz.func151 (by kernel_rfl) (by kernel_rfl) (by kernel_rfl) (by kernel_rfl) (fun _=>rfl)
noncomputable def qn4:Env:={ tt:=qj,glob:=qa,spec:=[],body:=[(151,Tryz.f151)],loops:=[((151,2),qE qbR qbK (qg q2i))],nimp:=0 }
noncomputable def zq (ps:List PV):TR:=qW qn4 151 Tryz.f151 true yR yN ps
theorem qs6:EnvOK qn4 Tryz.prog:=⟨qm qc,
 q8,
 all_cons (zp Tryz.func151 (by kernel_rfl) (by kernel_rfl) qmP) (q8),
 all_cons (qh Tryz.func151 (by kernel_rfl)) (q8)⟩
theorem jG:wi Tryz.prog qa 151 (qf yR yN zq):=qt qk qs6 Tryz.func151 (by kernel_rfl) (by kernel_rfl) (fun _=>rfl)
def q3n:FIn:={ args:=[.str,.str,.bool],h:=[] }
def q3i:List FOut:=[{ res:=.str,h:=[] }]
def q9z:Tmpl:={ t:=[.str,.str,.bool,.any,.any,.any,.any,.any,(.vec 0),(.int .i64),(.int .i64),.any,.any,.any,.any,.any,.any,.any,.any,.any,.any,.any,.any,.any,.any,.any,.any,.any,.any,.any,.any,.any,.any,.any,.any,.any,.any,.any,.any,.any,.any,.any,.any,.any,.any,.any,.any,.any,.any],h:=[.vec 5 [(.int .u8)]] }
def qan:List Out:=[{ x:=(.exit 0),tm:={ t:=[.any,.any,.any,.any,.any,.any,.any,.any,(.vec 0),.any,.any,.any,.any,.any,.any,.any,.any,.any,.any,.any,.any,.any,.any,.any,.any,.any,.any,.any,.any,.any,.any,.any,.any,.any,.any,.any,.any,.any,.any,.any,.any,.any,.any,.any,.any,.any,.any,.any,.any],h:=[.vec 5 [(.int .u8)]] } }]
noncomputable def q5I:Env:={ tt:=qj,glob:=qa,spec:=[(149,qf qbb qbh jy),(150,qf q6I q6P uG),(151,qf yR yN zq)],body:=[(113,Tryz.f113)],loops:=[],nimp:=0 }
noncomputable def yM (ps:List PV):TR:=jx q5I 113 Tryz.f113 7 q9z qan ps
theorem qmN:EnvOK q5I Tryz.prog:=⟨qm qc,
 all_cons qgi (all_cons qde (all_cons jG (q8))),
 q8,
 all_cons (qh Tryz.func113 (by kernel_rfl)) (q8)⟩
theorem qlg:qO Tryz.prog qa q5I.nimp (zo Tryz.prog q5I.iter 113) (wM Tryz.f113 7) (qE q9z qan (qg yM)):=
 qv qk qmN Tryz.func113 (by kernel_rfl) (by kernel_rfl) (by kernel_rfl) (by kernel_rfl) (fun _=>rfl)
noncomputable def qk3:Env:={ tt:=qj,glob:=qa,spec:=[(149,qf qbb qbh jy),(150,qf q6I q6P uG),(151,qf yR yN zq)],body:=[(113,Tryz.f113)],loops:=[((113,7),qE q9z qan (qg yM))],nimp:=0 }
noncomputable def zV (ps:List PV):TR:=qW qk3 113 Tryz.f113 true q3n q3i ps
theorem qqj:EnvOK qk3 Tryz.prog:=⟨qm qc,
 all_cons qgi (all_cons qde (all_cons jG (q8))),
 all_cons (zp Tryz.func113 (by kernel_rfl) (by kernel_rfl) qlg) (q8),
 all_cons (qh Tryz.func113 (by kernel_rfl)) (q8)⟩
theorem q4A:wi Tryz.prog qa 113 (qf q3n q3i zV):=qt qk qqj Tryz.func113 (by kernel_rfl) (by kernel_rfl) (fun _=>rfl)
def q4R:FIn:={ args:=[.str,.str],h:=[] }
def q4V:List FOut:=[{ res:=.bool,h:=[] }]
noncomputable def qn0:Env:={ tt:=qj,glob:=qa,spec:=[],body:=[(114,Tryz.f114)],loops:=[],nimp:=0 }
noncomputable def yP (ps:List PV):TR:=qW qn0 114 Tryz.f114 true q4R q4V ps
theorem qsi:EnvOK qn0 Tryz.prog:=⟨qm qc,
 q8,
 q8,
 all_cons (qh Tryz.func114 (by kernel_rfl)) (q8)⟩
theorem q5i:wi Tryz.prog qa 114 (qf q4R q4V yP):=qt qk qsi Tryz.func114 (by kernel_rfl) (by kernel_rfl) (fun _=>rfl)
def qbt:FIn:={ args:=[.str,.str],h:=[] }
def qba:List FOut:=[{ res:=.str,h:=[] }]
noncomputable def qn7:Env:={ tt:=qj,glob:=qa,spec:=[(70,qf q4W q4Y wX),(107,qf yw yH qB),(110,qf kU kR z6),(111,qf vQ vT ql),(112,qf yK yC qL),(113,qf q3n q3i zV),(114,qf q4R q4V yP)],body:=[(69,Tryz.f69)],loops:=[],nimp:=0 }
noncomputable def uO (ps:List PV):TR:=qW qn7 69 Tryz.f69 true qbt qba ps
theorem qs3:EnvOK qn7 Tryz.prog:=⟨qm qc,
 all_cons q3v (all_cons yb (all_cons kD (all_cons ve (all_cons yo (all_cons q4A (all_cons q5i (q8))))))),
 q8,
 all_cons (qh Tryz.func69 (by kernel_rfl)) (q8)⟩
theorem qfi:wi Tryz.prog qa 69 (qf qbt qba uO):=qt qk qs3 Tryz.func69 (by kernel_rfl) (by kernel_rfl) (fun _=>rfl)
def q5p:FIn:={ args:=[.str,.str],h:=[] }
def q5b:List FOut:=[{ res:=.str,h:=[] }]
noncomputable def qlv:Env:={ tt:=qj,glob:=qa,spec:=[(69,qf qbt qba uO),(108,qf uF uI zc)],body:=[(120,Tryz.f120)],loops:=[],nimp:=0 }
noncomputable def wx (ps:List PV):TR:=qW qlv 120 Tryz.f120 true q5p q5b ps
theorem qq1:EnvOK qlv Tryz.prog:=⟨qm qc,
 all_cons qfi (all_cons uR (q8)),
 q8,
 all_cons (qh Tryz.func120 (by kernel_rfl)) (q8)⟩
theorem q86:wi Tryz.prog qa 120 (qf q5p q5b wx):=qt qk qq1 Tryz.func120 (by kernel_rfl) (by kernel_rfl) (fun _=>rfl)
def q5V:FIn:={ args:=[.str,.str],h:=[] }
def q5m:List FOut:=[{ res:=(.int .i64),h:=[] }]
noncomputable def qkz:Env:={ tt:=qj,glob:=qa,spec:=[(107,qf yw yH qB),(120,qf q5p q5b wx)],body:=[(82,Tryz.f82)],loops:=[],nimp:=0 }
noncomputable def je (ps:List PV):TR:=qW qkz 82 Tryz.f82 true q5V q5m ps
theorem qr1:EnvOK qkz Tryz.prog:=⟨qm qc,
 all_cons yb (all_cons q86 (q8)),
 q8,
 all_cons (qh Tryz.func82 (by kernel_rfl)) (q8)⟩
theorem q7R:wi Tryz.prog qa 82 (qf q5V q5m je):=qt qk qr1 Tryz.func82 (by kernel_rfl) (by kernel_rfl) (fun _=>rfl)
def q9T:FIn:={ args:=[.str,.str],h:=[] }
def q9q:List FOut:=[{ res:=.str,h:=[] }]
def q6v:Tmpl:={ t:=[.str,.str,.any,.any,.any,(.vec 0),(.int .i64),(.int .i64),.any,.any,.any,.any,.any,.any,.any,.any,.any,.any,.any,.any,.any,.any,.any,.any,.any,.any,.any,.any,.any,.any,.any,.any,.any,.any,.any,.any,.any,.any,.any,.any,.any,.any,.any,.any,.any,.any,.any,.any,.any,.any,.any,.any,.any,.any,.any,.any,.any,.any,.any,.any,.any,.any,.any,.any,.any,.any,.any,.any,.any,.any,.any,.any,.any,.any,.any,.any,.any],h:=[.vec 3 [(.int .i64)]] }
def q6y:List Out:=[{ x:=(.exit 2),tm:={ t:=[.str,.str,.any,.any,.any,(.vec 0),(.int .i64),.any,.any,.any,.any,.any,.any,.any,.any,.any,.any,.any,.any,.any,.any,.any,.any,.any,.any,.any,.any,.any,.any,.any,.any,.any,.any,.any,.any,.any,.any,.any,.any,.any,.any,.any,.any,.any,.any,.any,.any,.any,.any,.any,.any,.any,.any,.any,.any,.any,.any,.any,.any,.any,.any,.any,.any,.any,.any,.any,.any,.any,.any,.any,.any,.any,.any,.any,.any,.any,.any],h:=[.vec 3 [(.int .i64)]] } }]
noncomputable def q3h:Env:={ tt:=qj,glob:=qa,spec:=[(151,qf yR yN zq)],body:=[(146,Tryz.f146)],loops:=[],nimp:=0 }
noncomputable def vg (ps:List PV):TR:=jx q3h 146 Tryz.f146 9 q6v q6y ps
theorem qjq:EnvOK q3h Tryz.prog:=⟨qm qc,
 all_cons jG (q8),
 q8,
 all_cons (qh Tryz.func146 (by kernel_rfl)) (q8)⟩
theorem qgY:qO Tryz.prog qa q3h.nimp (zo Tryz.prog q3h.iter 146) (wM Tryz.f146 9) (qE q6v q6y (qg vg)):=
 qv qk qjq Tryz.func146 (by kernel_rfl) (by kernel_rfl) (by kernel_rfl) (by kernel_rfl) (fun _=>rfl)
def q6m:Tmpl:={ t:=[.str,.str,.any,.any,.any,(.vec 0),(.int .i64),.any,.any,.any,.any,.any,.any,.any,.any,.any,.any,.any,.any,.any,.any,.any,.any,.any,.any,.any,.any,.any,.any,.any,.any,.any,.any,.any,.any,.any,.any,.any,.any,.any,.any,.any,.any,.any,.any,.any,.any,.any,.any,.any,.any,.any,.any,.any,.any,.any,.any,.any,.any,.any,.any,.any,.any,.any,.any,.any,.any,.any,.any,.any,.any,.any,.any,.any,.any,.any,.any],h:=[.vec 3 [(.int .i64)]] }
def q6j:List Out:=[{ x:=(.exit 0),tm:={ t:=[.any,.any,.any,.any,.any,(.vec 0),.any,.any,.any,.any,.any,.any,.any,.any,.any,.any,.any,.any,.any,.any,.any,.any,.any,.any,.any,.any,.any,.any,.any,.any,.any,.any,.any,.any,.any,.any,.any,.any,.any,.any,.any,.any,.any,.any,.any,.any,.any,.any,.any,.any,.any,.any,.any,.any,.any,.any,.any,.any,.any,.any,.any,.any,.any,.any,.any,.any,.any,.any,.any,.any,.any,.any,.any,.any,.any,.any,.any],h:=[.vec 3 [(.int .i64)]] } }]
noncomputable def q38:Env:={ tt:=qj,glob:=qa,spec:=[(151,qf yR yN zq)],body:=[(146,Tryz.f146)],loops:=[((146,9),qE q6v q6y (qg vg))],nimp:=0 }
noncomputable def zm (ps:List PV):TR:=jx q38 146 Tryz.f146 4 q6m q6j ps
theorem qjg:EnvOK q38 Tryz.prog:=⟨qm qc,
 all_cons jG (q8),
 all_cons (zp Tryz.func146 (by kernel_rfl) (by kernel_rfl) qgY) (q8),
 all_cons (qh Tryz.func146 (by kernel_rfl)) (q8)⟩
theorem qgZ:qO Tryz.prog qa q38.nimp (zo Tryz.prog q38.iter 146) (wM Tryz.f146 4) (qE q6m q6j (qg zm)):=
 qv qk qjg Tryz.func146 (by kernel_rfl) (by kernel_rfl) (by kernel_rfl) (by kernel_rfl) (fun _=>rfl)
def q5a:Tmpl:={ t:=[.any,.any,.any,.any,.any,(.vec 0),.any,.any,(.vec 1),(.int .i64),(.int .i64),.any,.any,.any,.any,.any,.any,.any,.any,.any,.any,.any,.any,.any,.any,.any,.any,.any,.any,.any,.any,.any,.any,.any,.any,.any,.any,.any,.any,.any,.any,.any,.any,.any,.any,.any,.any,.any,.any,.any,.any,.any,.any,.any,.any,.any,.any,.any,.any,.any,.any,.any,.any,.any,.any,.any,.any,.any,.any,.any,.any,.any,.any,.any,.any,.any,.any],h:=[.vec 3 [(.int .i64)],.vec 5 [(.int .u8)]] }
def q5t:List Out:=[{ x:=(.exit 4),tm:={ t:=[.any,.any,.any,.any,.any,.any,.any,.any,(.vec 1),.any,.any,.any,.any,.any,.any,.any,.any,.any,.any,.any,.any,.any,.any,.any,.any,.any,.any,.any,.any,.any,.any,.any,.any,.any,.any,.any,.any,.any,.any,.any,.any,.any,.any,.any,.any,.any,.any,.any,.any,.any,.any,.any,.any,.any,.any,.any,.any,.any,.any,.any,.any,.any,.any,.any,.any,.any,.any,.any,.any,.any,.any,.any,.any,.any,.any,.any,.any],h:=[.dead,.vec 5 [(.int .u8)]] } }]
noncomputable def q2s:Env:={ tt:=qj,glob:=qa,spec:=[(151,qf yR yN zq)],body:=[(146,Tryz.f146)],loops:=[],nimp:=0 }
noncomputable def vM (ps:List PV):TR:=jx q2s 146 Tryz.f146 17 q5a q5t ps
theorem qhk:EnvOK q2s Tryz.prog:=⟨qm qc,
 all_cons jG (q8),
 q8,
 all_cons (qh Tryz.func146 (by kernel_rfl)) (q8)⟩
theorem qfz:qO Tryz.prog qa q2s.nimp (zo Tryz.prog q2s.iter 146) (wM Tryz.f146 17) (qE q5a q5t (qg vM)):=
 qv qk qhk Tryz.func146 (by kernel_rfl) (by kernel_rfl) (by kernel_rfl) (by kernel_rfl) (fun _=>rfl)
noncomputable def qfM:Env:={ tt:=qj,glob:=qa,spec:=[(151,qf yR yN zq)],body:=[(146,Tryz.f146)],loops:=[((146,4),qE q6m q6j (qg zm)),((146,17),qE q5a q5t (qg vM))],nimp:=0 }
noncomputable def j8 (ps:List PV):TR:=qW qfM 146 Tryz.f146 true q9T q9q ps
theorem qme:EnvOK qfM Tryz.prog:=⟨qm qc,
 all_cons jG (q8),
 all_cons (zp Tryz.func146 (by kernel_rfl) (by kernel_rfl) qgZ) (all_cons (zp Tryz.func146 (by kernel_rfl) (by kernel_rfl) qfz) (q8)),
 all_cons (qh Tryz.func146 (by kernel_rfl)) (q8)⟩
theorem qjO:wi Tryz.prog qa 146 (qf q9T q9q j8):=qt qk qme Tryz.func146 (by kernel_rfl) (by kernel_rfl) (fun _=>rfl)
def q8Z:FIn:={ args:=[.str,.str],h:=[] }
def q8A:List FOut:=[{ res:=.str,h:=[] }]
noncomputable def qkX:Env:={ tt:=qj,glob:=qa,spec:=[(70,qf q4W q4Y wX),(107,qf yw yH qB),(110,qf kU kR z6),(111,qf vQ vT ql),(112,qf yK yC qL),(146,qf q9T q9q j8)],body:=[(106,Tryz.f106)],loops:=[],nimp:=0 }
noncomputable def zU (ps:List PV):TR:=qW qkX 106 Tryz.f106 true q8Z q8A ps
theorem qqQ:EnvOK qkX Tryz.prog:=⟨qm qc,
 all_cons q3v (all_cons yb (all_cons kD (all_cons ve (all_cons yo (all_cons qjO (q8)))))),
 q8,
 all_cons (qh Tryz.func106 (by kernel_rfl)) (q8)⟩
theorem qen:wi Tryz.prog qa 106 (qf q8Z q8A zU):=qt qk qqQ Tryz.func106 (by kernel_rfl) (by kernel_rfl) (fun _=>rfl)
def q9n:FIn:={ args:=[.str,.str],h:=[] }
def qah:List FOut:=[{ res:=(.tuple [.str,.str]),h:=[] }]
def q5s:Tmpl:={ t:=[.str,.str,.any,.any,.any,.any,.str,.str,(.int .i64),(.int .u8),.any,.any,.any,.any,.any,.any,.any,.any,.any,.any,.any,.any,.any,.any,.any,.any,.any,.any,.any,.any,.any,.any,.any,.any,.any,.any,.any,.any,.any,.any,.any],h:=[] }
def q5W:List Out:=[{ x:=(.exit 2),tm:={ t:=[.str,.str,.any,.any,.any,.any,.str,.str,(.int .i64),(.int .u8),.any,.any,.any,.any,.any,.any,.any,.any,.any,.any,.any,.any,.any,.any,.any,.any,.any,.any,.any,.any,.any,.any,.any,.any,.any,.any,.any,.any,.any,.any,.any],h:=[] } }]
noncomputable def q2w:Env:={ tt:=qj,glob:=qa,spec:=[(113,qf q3n q3i zV),(114,qf q4R q4V yP),(151,qf yR yN zq)],body:=[(147,Tryz.f147)],loops:=[],nimp:=0 }
noncomputable def zB (ps:List PV):TR:=jx q2w 147 Tryz.f147 11 q5s q5W ps
theorem qha:EnvOK q2w Tryz.prog:=⟨qm qc,
 all_cons q4A (all_cons q5i (all_cons jG (q8))),
 q8,
 all_cons (qh Tryz.func147 (by kernel_rfl)) (q8)⟩
theorem qgc:qO Tryz.prog qa q2w.nimp (zo Tryz.prog q2w.iter 147) (wM Tryz.f147 11) (qE q5s q5W (qg zB)):=
 qv qk qha Tryz.func147 (by kernel_rfl) (by kernel_rfl) (by kernel_rfl) (by kernel_rfl) (fun _=>rfl)
def q6D:Tmpl:={ t:=[.str,.str,.any,.any,.any,.any,.str,.str,(.int .i64),.any,.any,.any,.any,.any,.any,.any,.any,.any,.any,.any,.any,.any,.any,.any,.any,.any,.any,.any,.any,.any,.any,.any,.any,.any,.any,.any,.any,.any,.any,.any,.any],h:=[] }
def q6f:List Out:=[{ x:=(.exit 0),tm:={ t:=[.any,.any,.any,.any,.any,.any,.str,.str,.any,.any,.any,.any,.any,.any,.any,.any,.any,.any,.any,.any,.any,.any,.any,.any,.any,.any,.any,.any,.any,.any,.any,.any,.any,.any,.any,.any,.any,.any,.any,.any,.any],h:=[] } }]
noncomputable def q3m:Env:={ tt:=qj,glob:=qa,spec:=[(113,qf q3n q3i zV),(114,qf q4R q4V yP),(151,qf yR yN zq)],body:=[(147,Tryz.f147)],loops:=[((147,11),qE q5s q5W (qg zB))],nimp:=0 }
noncomputable def jp (ps:List PV):TR:=jx q3m 147 Tryz.f147 4 q6D q6f ps
theorem qja:EnvOK q3m Tryz.prog:=⟨qm qc,
 all_cons q4A (all_cons q5i (all_cons jG (q8))),
 all_cons (zp Tryz.func147 (by kernel_rfl) (by kernel_rfl) qgc) (q8),
 all_cons (qh Tryz.func147 (by kernel_rfl)) (q8)⟩
theorem qhd:qO Tryz.prog qa q3m.nimp (zo Tryz.prog q3m.iter 147) (wM Tryz.f147 4) (qE q6D q6f (qg jp)):=
 qv qk qja Tryz.func147 (by kernel_rfl) (by kernel_rfl) (by kernel_rfl) (by kernel_rfl) (fun _=>rfl)
noncomputable def qfT:Env:={ tt:=qj,glob:=qa,spec:=[(113,qf q3n q3i zV),(114,qf q4R q4V yP),(151,qf yR yN zq)],body:=[(147,Tryz.f147)],loops:=[((147,4),qE q6D q6f (qg jp))],nimp:=0 }
noncomputable def q2V (ps:List PV):TR:=qW qfT 147 Tryz.f147 true q9n qah ps
theorem qmr:EnvOK qfT Tryz.prog:=⟨qm qc,
 all_cons q4A (all_cons q5i (all_cons jG (q8))),
 all_cons (zp Tryz.func147 (by kernel_rfl) (by kernel_rfl) qhd) (q8),
 all_cons (qh Tryz.func147 (by kernel_rfl)) (q8)⟩
theorem qkQ:wi Tryz.prog qa 147 (qf q9n qah q2V):=qt qk qmr Tryz.func147 (by kernel_rfl) (by kernel_rfl) (fun _=>rfl)
def q2e:FIn:={ args:=[.str,.str],h:=[] }
def q2g:List FOut:=[{ res:=(.tuple [.str,.str]),h:=[] }]
noncomputable def qhJ:Env:={ tt:=qj,glob:=qa,spec:=[(70,qf q4W q4Y wX),(106,qf q8Z q8A zU),(107,qf yw yH qB),(110,qf kU kR z6),(111,qf vQ vT ql),(112,qf yK yC qL),(120,qf q5p q5b wx),(147,qf q9n qah q2V)],body:=[(109,Tryz.f109)],loops:=[],nimp:=0 }
noncomputable def z8 (ps:List PV):TR:=qW qhJ 109 Tryz.f109 true q2e q2g ps
theorem qnT:EnvOK qhJ Tryz.prog:=⟨qm qc,
 all_cons q3v (all_cons qen (all_cons yb (all_cons kD (all_cons ve (all_cons yo (all_cons q86 (all_cons qkQ (q8)))))))),
 q8,
 all_cons (qh Tryz.func109 (by kernel_rfl)) (q8)⟩
theorem q35:wi Tryz.prog qa 109 (qf q2e q2g z8):=qt qk qnT Tryz.func109 (by kernel_rfl) (by kernel_rfl) (fun _=>rfl)
def q6T:FIn:={ args:=[.str,.str],h:=[] }
def q6X:List FOut:=[{ res:=.str,h:=[] }]
def q6d:Tmpl:={ t:=[.any,.any,.any,.any,.any,(.int .i64),(.int .i64),.any,.any,.any,.any,.any,.any,.any,.any,.any,.any,.any,.any,.any,.any,.any,.any,.any,.any,.any,.any,.any,.any,.any,.any,.any,.any,.any,.any,.any,.any,.any,.any,.any,.any,.any,.any],h:=[] }
def q6n:List Out:=[{ x:=(.exit 2),tm:={ t:=[.any,.any,.any,.any,.any,(.int .i64),.any,.any,.any,.any,.any,.any,.any,.any,.any,.any,.any,.any,.any,.any,.any,.any,.any,.any,.any,.any,.any,.any,.any,.any,.any,.any,.any,.any,.any,.any,.any,.any,.any,.any,.any,.any,.any],h:=[] } }]
noncomputable def q3A:Env:={ tt:=qj,glob:=qa,spec:=[(70,qf q4W q4Y wX),(109,qf q2e q2g z8),(110,qf kU kR z6),(111,qf vQ vT ql),(112,qf yK yC qL)],body:=[(83,Tryz.f83)],loops:=[],nimp:=0 }
noncomputable def jq (ps:List PV):TR:=jx q3A 83 Tryz.f83 10 q6d q6n ps
theorem qih:EnvOK q3A Tryz.prog:=⟨qm qc,
 all_cons q3v (all_cons q35 (all_cons kD (all_cons ve (all_cons yo (q8))))),
 q8,
 all_cons (qh Tryz.func83 (by kernel_rfl)) (q8)⟩
theorem qhc:qO Tryz.prog qa q3A.nimp (zo Tryz.prog q3A.iter 83) (wM Tryz.f83 10) (qE q6d q6n (qg jq)):=
 qv qk qih Tryz.func83 (by kernel_rfl) (by kernel_rfl) (by kernel_rfl) (by kernel_rfl) (fun _=>rfl)
def q7S:Tmpl:={ t:=[.str,.str,.any,.any,.any,.any,.any,.any,.any,.any,.any,.any,.any,.any,.any,.any,.any,.any,.any,.any,.any,.any,.any,.any,.any,.any,.any,.any,.any,.any,.any,.any,.any,.any,.any,.any,.any,.any,.any,.any,.any,.any,.any],h:=[] }
def q8b:List Out:=[{ x:=(.exit 0),tm:={ t:=[.str,.any,.any,.any,.any,.any,.any,.any,.any,.any,.any,.any,.any,.any,.any,.any,.any,.any,.any,.any,.any,.any,.any,.any,.any,.any,.any,.any,.any,.any,.any,.any,.any,.any,.any,.any,.any,.any,.any,.any,.any,.any,.any],h:=[] } },{ x:=.ret,tm:={ t:=[.any,.any,.any,.any,.str,.any,.any,.any,.any,.any,.any,.any,.any,.any,.any,.any,.any,.any,.any,.any,.any,.any,.any,.any,.any,.any,.any,.any,.any,.any,.any,.any,.any,.any,.any,.any,.any,.any,.any,.any,.any,.any,.any],h:=[] } }]
noncomputable def q4s:Env:={ tt:=qj,glob:=qa,spec:=[(70,qf q4W q4Y wX),(109,qf q2e q2g z8),(110,qf kU kR z6),(111,qf vQ vT ql),(112,qf yK yC qL)],body:=[(83,Tryz.f83)],loops:=[((83,10),qE q6d q6n (qg jq))],nimp:=0 }
noncomputable def jY (ps:List PV):TR:=jx q4s 83 Tryz.f83 3 q7S q8b ps
theorem qlw:EnvOK q4s Tryz.prog:=⟨qm qc,
 all_cons q3v (all_cons q35 (all_cons kD (all_cons ve (all_cons yo (q8))))),
 all_cons (zp Tryz.func83 (by kernel_rfl) (by kernel_rfl) qhc) (q8),
 all_cons (qh Tryz.func83 (by kernel_rfl)) (q8)⟩
theorem qiz:qO Tryz.prog qa q4s.nimp (zo Tryz.prog q4s.iter 83) (wM Tryz.f83 3) (qE q7S q8b (qg jY)):=
 qv qk qlw Tryz.func83 (by kernel_rfl) (by kernel_rfl) (by kernel_rfl) (by kernel_rfl) (fun _=>rfl)
noncomputable def qhZ:Env:={ tt:=qj,glob:=qa,spec:=[(70,qf q4W q4Y wX),(109,qf q2e q2g z8),(110,qf kU kR z6),(111,qf vQ vT ql),(112,qf yK yC qL)],body:=[(83,Tryz.f83)],loops:=[((83,3),qE q7S q8b (qg jY))],nimp:=0 }
noncomputable def z7 (ps:List PV):TR:=qW qhZ 83 Tryz.f83 true q6T q6X ps
theorem qnO:EnvOK qhZ Tryz.prog:=⟨qm qc,
 all_cons q3v (all_cons q35 (all_cons kD (all_cons ve (all_cons yo (q8))))),
 all_cons (zp Tryz.func83 (by kernel_rfl) (by kernel_rfl) qiz) (q8),
 all_cons (qh Tryz.func83 (by kernel_rfl)) (q8)⟩
theorem qcr:wi Tryz.prog qa 83 (qf q6T q6X z7):=qt qk qnO Tryz.func83 (by kernel_rfl) (by kernel_rfl) (fun _=>rfl)
def q5G:FIn:={ args:=[.str],h:=[] }
def q5K:List FOut:=[{ res:=(.int .i64),h:=[] }]
noncomputable def qjY:Env:={ tt:=qj,glob:=qa,spec:=[(79,qf q5X q5H qA),(80,qf qdG qdm jc),(81,qf q8Y q8D vm),(82,qf q5V q5m je),(83,qf q6T q6X z7)],body:=[(45,Tryz.f45)],loops:=[],nimp:=0 }
noncomputable def v8 (ps:List PV):TR:=qW qjY 45 Tryz.f45 true q5G q5K ps
theorem qql:EnvOK qjY Tryz.prog:=⟨qm qc,
 all_cons q7U (all_cons qnL (all_cons qeA (all_cons q7R (all_cons qcr (q8))))),
 q8,
 all_cons (qh Tryz.func45 (by kernel_rfl)) (q8)⟩
theorem q7Q:wi Tryz.prog qa 45 (qf q5G q5K v8):=qt qk qql Tryz.func45 (by kernel_rfl) (by kernel_rfl) (fun _=>rfl)
def q2c:FIn:={ args:=[.str],h:=[] }
def q2h:List FOut:=[{ res:=(.int .i64),h:=[] }]
noncomputable def qhV:Env:={ tt:=qj,glob:=qa,spec:=[(79,qf q5X q5H qA),(82,qf q5V q5m je)],body:=[(53,Tryz.f53)],loops:=[],nimp:=0 }
noncomputable def zx (ps:List PV):TR:=qW qhV 53 Tryz.f53 true q2c q2h ps
theorem qnx:EnvOK qhV Tryz.prog:=⟨qm qc,
 all_cons q7U (all_cons q7R (q8)),
 q8,
 all_cons (qh Tryz.func53 (by kernel_rfl)) (q8)⟩
theorem q3p:wi Tryz.prog qa 53 (qf q2c q2h zx):=qt qk qnx Tryz.func53 (by kernel_rfl) (by kernel_rfl) (fun _=>rfl)
def q20:FIn:={ args:=[(.agg [.str,.str,.str])],h:=[] }
def q1S:List FOut:=[{ res:=(.int .i64),h:=[] }]
def q9y:Tmpl:={ t:=[.any,(.ptr 0 0),.any,.any,.any,.any,.any,.any,.any,.any,.any,.any,.any,.any,(.vec 1),(.int .i64),(.int .i64),.any,.any,.any,.any,.any,.any,.any,.any,.any,.any,.any,.any,.any],h:=[.cells [.str,.str,.str],.vec 22 [.str]] }
def q9o:List Out:=[{ x:=(.exit 0),tm:={ t:=[.any,(.ptr 0 0),.any,.any,.any,.any,.any,.any,.any,.any,.any,.any,.any,.any,.any,.any,.any,.any,.any,.any,.any,.any,.any,.any,.any,.any,.any,.any,.any,.any],h:=[.cells [.str,.str,.str]] } },{ x:=.ret,tm:={ t:=[.any,.any,(.int .i64),.any,.any,.any,.any,.any,.any,.any,.any,.any,.any,.any,.any,.any,.any,.any,.any,.any,.any,.any,.any,.any,.any,.any,.any,.any,.any,.any],h:=[] } }]
noncomputable def q5v:Env:={ tt:=qj,glob:=qa,spec:=[(45,qf q5G q5K v8),(53,qf q2c q2h zx)],body:=[(16,Tryz.f16)],loops:=[],nimp:=0 }
noncomputable def jJ (ps:List PV):TR:=jx q5v 16 Tryz.f16 3 q9y q9o ps
theorem qlV:EnvOK q5v Tryz.prog:=⟨qm qc,
 all_cons q7Q (all_cons q3p (q8)),
 q8,
 all_cons (qh Tryz.func16 (by kernel_rfl)) (q8)⟩
theorem qkm:qO Tryz.prog qa q5v.nimp (zo Tryz.prog q5v.iter 16) (wM Tryz.f16 3) (qE q9y q9o (qg jJ)):=
 qv qk qlV Tryz.func16 (by kernel_rfl) (by kernel_rfl) (by kernel_rfl) (by kernel_rfl) (fun _=>rfl)
noncomputable def qkC:Env:={ tt:=qj,glob:=qa,spec:=[(45,qf q5G q5K v8),(53,qf q2c q2h zx)],body:=[(16,Tryz.f16)],loops:=[((16,3),qE q9y q9o (qg jJ))],nimp:=0 }
noncomputable def zz (ps:List PV):TR:=qW qkC 16 Tryz.f16 true q20 q1S ps
theorem qoA:EnvOK qkC Tryz.prog:=⟨qm qc,
 all_cons q7Q (all_cons q3p (q8)),
 all_cons (zp Tryz.func16 (by kernel_rfl) (by kernel_rfl) qkm) (q8),
 all_cons (qh Tryz.func16 (by kernel_rfl)) (q8)⟩
theorem q21:wi Tryz.prog qa 16 (qf q20 q1S zz):=qt qk qoA Tryz.func16 (by kernel_rfl) (by kernel_rfl) (fun _=>rfl)
def kf:FIn:={ args:=[.str,.str],h:=[] }
def ko:List FOut:=[{ res:=(.imm [.str]),h:=[] }]
noncomputable def qfN:Env:={ tt:=qj,glob:=qa,spec:=[(79,qf q5X q5H qA),(106,qf q8Z q8A zU)],body:=[(67,Tryz.f67)],loops:=[],nimp:=0 }
noncomputable def qp (ps:List PV):TR:=qW qfN 67 Tryz.f67 true kf ko ps
theorem qmC:EnvOK qfN Tryz.prog:=⟨qm qc,
 all_cons q7U (all_cons qen (q8)),
 q8,
 all_cons (qh Tryz.func67 (by kernel_rfl)) (q8)⟩
theorem q09:wi Tryz.prog qa 67 (qf kf ko qp):=qt qk qmC Tryz.func67 (by kernel_rfl) (by kernel_rfl) (fun _=>rfl)
def q5C:FIn:={ args:=[.str,.str],h:=[] }
def q5o:List FOut:=[{ res:=(.int .i64),h:=[] }]
noncomputable def qks:Env:={ tt:=qj,glob:=qa,spec:=[(67,qf kf ko qp),(82,qf q5V q5m je)],body:=[(97,Tryz.f97)],loops:=[],nimp:=0 }
noncomputable def jf (ps:List PV):TR:=qW qks 97 Tryz.f97 true q5C q5o ps
theorem qqs:EnvOK qks Tryz.prog:=⟨qm qc,
 all_cons q09 (all_cons q7R (q8)),
 q8,
 all_cons (qh Tryz.func97 (by kernel_rfl)) (q8)⟩
theorem q7X:wi Tryz.prog qa 97 (qf q5C q5o jf):=qt qk qqs Tryz.func97 (by kernel_rfl) (by kernel_rfl) (fun _=>rfl)
def q2a:FIn:={ args:=[.str,.str],h:=[] }
def q2b:List FOut:=[{ res:=.str,h:=[] }]
noncomputable def qhR:Env:={ tt:=qj,glob:=qa,spec:=[(83,qf q6T q6X z7),(107,qf yw yH qB),(108,qf uF uI zc),(109,qf q2e q2g z8)],body:=[(68,Tryz.f68)],loops:=[],nimp:=0 }
noncomputable def wA (ps:List PV):TR:=qW qhR 68 Tryz.f68 true q2a q2b ps
theorem qoj:EnvOK qhR Tryz.prog:=⟨qm qc,
 all_cons qcr (all_cons yb (all_cons uR (all_cons q35 (q8)))),
 q8,
 all_cons (qh Tryz.func68 (by kernel_rfl)) (q8)⟩
theorem q3w:wi Tryz.prog qa 68 (qf q2a q2b wA):=qt qk qoj Tryz.func68 (by kernel_rfl) (by kernel_rfl) (fun _=>rfl)
def q2W:FIn:={ args:=[.str,.str],h:=[] }
def q2U:List FOut:=[{ res:=.str,h:=[] }]
noncomputable def qmY:Env:={ tt:=qj,glob:=qa,spec:=[(67,qf kf ko qp),(68,qf q2a q2b wA),(69,qf qbt qba uO)],body:=[(34,Tryz.f34)],loops:=[],nimp:=0 }
noncomputable def zO (ps:List PV):TR:=qW qmY 34 Tryz.f34 true q2W q2U ps
theorem qrG:EnvOK qmY Tryz.prog:=⟨qm qc,
 all_cons q09 (all_cons q3w (all_cons qfi (q8))),
 q8,
 all_cons (qh Tryz.func34 (by kernel_rfl)) (q8)⟩
theorem q2S:wi Tryz.prog qa 34 (qf q2W q2U zO):=qt qk qrG Tryz.func34 (by kernel_rfl) (by kernel_rfl) (fun _=>rfl)
def kQ:FIn:={ args:=[.str,.str],h:=[] }
def q0a:List FOut:=[{ res:=.str,h:=[] }]
noncomputable def qjC:Env:={ tt:=qj,glob:=qa,spec:=[(67,qf kf ko qp),(68,qf q2a q2b wA)],body:=[(46,Tryz.f46)],loops:=[],nimp:=0 }
noncomputable def qI (ps:List PV):TR:=qW qjC 46 Tryz.f46 true kQ q0a ps
theorem qra:EnvOK qjC Tryz.prog:=⟨qm qc,
 all_cons q09 (all_cons q3w (q8)),
 q8,
 all_cons (qh Tryz.func46 (by kernel_rfl)) (q8)⟩
theorem kH:wi Tryz.prog qa 46 (qf kQ q0a qI):=qt qk qra Tryz.func46 (by kernel_rfl) (by kernel_rfl) (fun _=>rfl)
def qa6:FIn:={ args:=[(.agg [.str,.str]),(.agg [.str,.str])],h:=[] }
def q9W:List FOut:=[{ res:=.str,h:=[] }]
noncomputable def qpU:Env:={ tt:=qj,glob:=qa,spec:=[(34,qf q2W q2U zO),(46,qf kQ q0a qI)],body:=[(140,Tryz.f140)],loops:=[],nimp:=0 }
noncomputable def ub (ps:List PV):TR:=qW qpU 140 Tryz.f140 true qa6 q9W ps
theorem quC:EnvOK qpU Tryz.prog:=⟨qm qc,
 all_cons q2S (all_cons kH (q8)),
 q8,
 all_cons (qh Tryz.func140 (by kernel_rfl)) (q8)⟩
theorem qbM:wi Tryz.prog qa 140 (qf qa6 q9W ub):=qt qk quC Tryz.func140 (by kernel_rfl) (by kernel_rfl) (fun _=>rfl)
def q04:FIn:={ args:=[.str,.str],h:=[] }
def q0c:List FOut:=[{ res:=.str,h:=[] }]
noncomputable def qjL:Env:={ tt:=qj,glob:=qa,spec:=[(67,qf kf ko qp),(68,qf q2a q2b wA),(120,qf q5p q5b wx)],body:=[(127,Tryz.f127)],loops:=[],nimp:=0 }
noncomputable def zw (ps:List PV):TR:=qW qjL 127 Tryz.f127 true q04 q0c ps
theorem qpO:EnvOK qjL Tryz.prog:=⟨qm qc,
 all_cons q09 (all_cons q3w (all_cons q86 (q8))),
 q8,
 all_cons (qh Tryz.func127 (by kernel_rfl)) (q8)⟩
theorem kE:wi Tryz.prog qa 127 (qf q04 q0c zw):=qt qk qpO Tryz.func127 (by kernel_rfl) (by kernel_rfl) (fun _=>rfl)
def q5S:FIn:={ args:=[(.agg [.str,.str]),(.agg [.str,.str])],h:=[] }
def q62:List FOut:=[{ res:=(.agg [.str,.str]),h:=[] }]
noncomputable def qjx:Env:={ tt:=qj,glob:=qa,spec:=[(127,qf q04 q0c zw)],body:=[(141,Tryz.f141)],loops:=[],nimp:=0 }
noncomputable def zY (ps:List PV):TR:=qW qjx 141 Tryz.f141 true q5S q62 ps
theorem qqd:EnvOK qjx Tryz.prog:=⟨qm qc,
 all_cons kE (q8),
 q8,
 all_cons (qh Tryz.func141 (by kernel_rfl)) (q8)⟩
theorem q7x:wi Tryz.prog qa 141 (qf q5S q62 zY):=qt qk qqd Tryz.func141 (by kernel_rfl) (by kernel_rfl) (fun _=>rfl)
def qae:FIn:={ args:=[(.agg [.str,.str]),(.agg [.str,.str])],h:=[] }
def q9s:List FOut:=[{ res:=.str,h:=[] }]
noncomputable def qpx:Env:={ tt:=qj,glob:=qa,spec:=[(140,qf qa6 q9W ub),(141,qf q5S q62 zY)],body:=[(98,Tryz.f98)],loops:=[],nimp:=0 }
noncomputable def vu (ps:List PV):TR:=qW qpx 98 Tryz.f98 true qae q9s ps
theorem qtb:EnvOK qpx Tryz.prog:=⟨qm qc,
 all_cons qbM (all_cons q7x (q8)),
 q8,
 all_cons (qh Tryz.func98 (by kernel_rfl)) (q8)⟩
theorem qch:wi Tryz.prog qa 98 (qf qae q9s vu):=qt qk qtb Tryz.func98 (by kernel_rfl) (by kernel_rfl) (fun _=>rfl)
def q7h:FIn:={ args:=[.str,.str,.str],h:=[] }
def q79:List FOut:=[{ res:=(.int .i64),h:=[] }]
noncomputable def qng:Env:={ tt:=qj,glob:=qa,spec:=[(46,qf kQ q0a qI),(53,qf q2c q2h zx),(97,qf q5C q5o jf)],body:=[(128,Tryz.f128)],loops:=[],nimp:=0 }
noncomputable def yS (ps:List PV):TR:=qW qng 128 Tryz.f128 true q7h q79 ps
theorem qrv:EnvOK qng Tryz.prog:=⟨qm qc,
 all_cons kH (all_cons q3p (all_cons q7X (q8))),
 q8,
 all_cons (qh Tryz.func128 (by kernel_rfl)) (q8)⟩
theorem q9M:wi Tryz.prog qa 128 (qf q7h q79 yS):=qt qk qrv Tryz.func128 (by kernel_rfl) (by kernel_rfl) (fun _=>rfl)
def qds:FIn:={ args:=[(.agg [.str,.str,.str]),(.agg [.str,.str,.str])],h:=[] }
def qe4:List FOut:=[{ res:=(.int .i64),h:=[] }]
noncomputable def qlB:Env:={ tt:=qj,glob:=qa,spec:=[(34,qf q2W q2U zO),(46,qf kQ q0a qI),(98,qf qae q9s vu),(127,qf q04 q0c zw),(128,qf q7h q79 yS)],body:=[(126,Tryz.f126)],loops:=[],nimp:=0 }
noncomputable def q3x (ps:List PV):TR:=qW qlB 126 Tryz.f126 true qds qe4 ps
theorem qqw:EnvOK qlB Tryz.prog:=⟨qm qc,
 all_cons q2S (all_cons kH (all_cons qch (all_cons kE (all_cons q9M (q8))))),
 q8,
 all_cons (qh Tryz.func126 (by kernel_rfl)) (q8)⟩
theorem qob:wi Tryz.prog qa 126 (qf qds qe4 q3x):=qt qk qqw Tryz.func126 (by kernel_rfl) (by kernel_rfl) (fun _=>rfl)
def q2f:FIn:={ args:=[(.agg [.str,.str,.str]),(.agg [.str,.str,.str])],h:=[] }
def q2j:List FOut:=[{ res:=.bool,h:=[] }]
noncomputable def qhT:Env:={ tt:=qj,glob:=qa,spec:=[(97,qf q5C q5o jf),(126,qf qds qe4 q3x)],body:=[(88,Tryz.f88)],loops:=[],nimp:=0 }
noncomputable def wC (ps:List PV):TR:=qW qhT 88 Tryz.f88 true q2f q2j ps
theorem qoe:EnvOK qhT Tryz.prog:=⟨qm qc,
 all_cons q7X (all_cons qob (q8)),
 q8,
 all_cons (qh Tryz.func88 (by kernel_rfl)) (q8)⟩
theorem q3f:wi Tryz.prog qa 88 (qf q2f q2j wC):=qt qk qoe Tryz.func88 (by kernel_rfl) (by kernel_rfl) (fun _=>rfl)
def qjk:FIn:={ args:=[(.agg [.str,.str,.str]),(.agg [.str,.str,.str])],h:=[] }
def qin:List FOut:=[{ res:=(.int .i64),h:=[] }]
noncomputable def qpv:Env:={ tt:=qj,glob:=qa,spec:=[(34,qf q2W q2U zO),(46,qf kQ q0a qI),(98,qf qae q9s vu),(127,qf q04 q0c zw),(128,qf q7h q79 yS)],body:=[(89,Tryz.f89)],loops:=[],nimp:=0 }
noncomputable def q6t (ps:List PV):TR:=qW qpv 89 Tryz.f89 true qjk qin ps
theorem qud:EnvOK qpv Tryz.prog:=⟨qm qc,
 all_cons q2S (all_cons kH (all_cons qch (all_cons kE (all_cons q9M (q8))))),
 q8,
 all_cons (qh Tryz.func89 (by kernel_rfl)) (q8)⟩
theorem qs0:wi Tryz.prog qa 89 (qf qjk qin q6t):=qt qk qud Tryz.func89 (by kernel_rfl) (by kernel_rfl) (fun _=>rfl)
def qg8:FIn:={ args:=[(.agg [.str,.str,.str]),(.agg [.str,.str,.str])],h:=[] }
def qg7:List FOut:=[{ res:=(.int .i64),h:=[] }]
noncomputable def qnm:Env:={ tt:=qj,glob:=qa,spec:=[(88,qf q2f q2j wC),(89,qf qjk qin q6t)],body:=[(51,Tryz.f51)],loops:=[],nimp:=0 }
noncomputable def q4T (ps:List PV):TR:=qW qnm 51 Tryz.f51 true qg8 qg7 ps
theorem qsg:EnvOK qnm Tryz.prog:=⟨qm qc,
 all_cons q3f (all_cons qs0 (q8)),
 q8,
 all_cons (qh Tryz.func51 (by kernel_rfl)) (q8)⟩
theorem qp7:wi Tryz.prog qa 51 (qf qg8 qg7 q4T):=qt qk qsg Tryz.func51 (by kernel_rfl) (by kernel_rfl) (fun _=>rfl)
def qbC:FIn:={ args:=[(.agg [.str,.str,.str]),(.agg [.str,.str,.str])],h:=[] }
def qbO:List FOut:=[{ res:=(.tuple [(.int .i64),(.int .i64)]),h:=[] }]
noncomputable def qhN:Env:={ tt:=qj,glob:=qa,spec:=[(16,qf q20 q1S zz),(51,qf qg8 qg7 q4T)],body:=[(14,Tryz.f14)],loops:=[],nimp:=0 }
noncomputable def q0I (ps:List PV):TR:=qW qhN 14 Tryz.f14 true qbC qbO ps
theorem qnv:EnvOK qhN Tryz.prog:=⟨qm qc,
 all_cons q21 (all_cons qp7 (q8)),
 q8,
 all_cons (qh Tryz.func14 (by kernel_rfl)) (q8)⟩
theorem qmi:wi Tryz.prog qa 14 (qf qbC qbO q0I):=qt qk qnv Tryz.func14 (by kernel_rfl) (by kernel_rfl) (fun _=>rfl)
def q4Q:FIn:={ args:=[(.agg [.str,.str,.str]),(.agg [.str,.str,.str])],h:=[] }
def q4M:List FOut:=[{ res:=.bool,h:=[] }]
noncomputable def jn:Env:={ tt:=qj,glob:=qa,spec:=[(11,qf q3u q3o va),(12,qf q1V q1L qS),(13,qf q6S q6Z jB),(14,qf qbC qbO q0I),(15,qf ux uv zA),(16,qf q20 q1S zz)],body:=[(3,Tryz.f3)],loops:=[],nimp:=0 }
noncomputable def ke (ps:List PV):TR:=qW jn 3 Tryz.f3 true q4Q q4M ps
theorem qfE:EnvOK jn Tryz.prog:=⟨qm qc,
 all_cons q4t (all_cons q26 (all_cons qdb (all_cons qmi (all_cons uk (all_cons q21 (q8)))))),
 q8,
 all_cons (qh Tryz.func3 (by kernel_rfl)) (q8)⟩
theorem qf7:wi Tryz.prog qa 3 (qf q4Q q4M ke):=qt qk qfE Tryz.func3 (by kernel_rfl) (by kernel_rfl) (fun _=>rfl)
def qao:FIn:={ args:=[(.imm [.str,.str,.str])],h:=[] }
def q9f:List FOut:=[{ res:=.bool,h:=[] }]
def qdt:Tmpl:={ t:=[(.imm [.str,.str,.str]),.any,.any,(.int .i64),.any,.any,.any,.any,.any,.any,.any,.any,.any,.any,.any,.any,.any,.any,.any,.any,.any,.any,.any,.any,.any,.any,.any,.any,.any,.any,.any,.any,.any],h:=[] }
def qdV:List Out:=[{ x:=(.exit 0),tm:={ t:=[(.imm [.str,.str,.str]),.any,.any,.any,.any,.any,.any,.any,.any,.any,.any,.any,.any,.any,.any,.any,.any,.any,.any,.any,.any,.any,.any,.any,.any,.any,.any,.any,.any,.any,.any,.any,.any],h:=[] } },{ x:=.ret,tm:={ t:=[.any,.any,.bool,.any,.any,.any,.any,.any,.any,.any,.any,.any,.any,.any,.any,.any,.any,.any,.any,.any,.any,.any,.any,.any,.any,.any,.any,.any,.any,.any,.any,.any,.any],h:=[] } }]
noncomputable def q8X:Env:={ tt:=qj,glob:=qa,spec:=[(11,qf q3u q3o va)],body:=[(17,Tryz.f17)],loops:=[],nimp:=0 }
noncomputable def yB (ps:List PV):TR:=jx q8X 17 Tryz.f17 3 qdt qdV ps
theorem qoG:EnvOK q8X Tryz.prog:=⟨qm qc,
 all_cons q4t (q8),
 q8,
 all_cons (qh Tryz.func17 (by kernel_rfl)) (q8)⟩
theorem qnZ:qO Tryz.prog qa q8X.nimp (zo Tryz.prog q8X.iter 17) (wM Tryz.f17 3) (qE qdt qdV (qg yB)):=
 qv qk qoG Tryz.func17 (by kernel_rfl) (by kernel_rfl) (by kernel_rfl) (by kernel_rfl) (fun _=>rfl)
noncomputable def qpf:Env:={ tt:=qj,glob:=qa,spec:=[(11,qf q3u q3o va)],body:=[(17,Tryz.f17)],loops:=[((17,3),qE qdt qdV (qg yB))],nimp:=0 }
noncomputable def u6 (ps:List PV):TR:=qW qpf 17 Tryz.f17 true qao q9f ps
theorem quG:EnvOK qpf Tryz.prog:=⟨qm qc,
 all_cons q4t (q8),
 all_cons (zp Tryz.func17 (by kernel_rfl) (by kernel_rfl) qnZ) (q8),
 all_cons (qh Tryz.func17 (by kernel_rfl)) (q8)⟩
theorem qbW:wi Tryz.prog qa 17 (qf qao q9f u6):=qt qk quG Tryz.func17 (by kernel_rfl) (by kernel_rfl) (fun _=>rfl)
def q31:FIn:={ args:=[(.imm [.str,.str,.str])],h:=[] }
def q2X:List FOut:=[{ res:=(.int .i64),h:=[] }]
def qbF:Tmpl:={ t:=[(.imm [.str,.str,.str]),.any,.any,(.int .i64),.any,.any,.any,.any,.any,.any,.any,.any,.any,.any,.any,.any,.any,.any,.any,.any,.any,.any,.any,.any,.any],h:=[] }
def qbJ:List Out:=[{ x:=(.exit 0),tm:={ t:=[(.imm [.str,.str,.str]),.any,.any,.any,.any,.any,.any,.any,.any,.any,.any,.any,.any,.any,.any,.any,.any,.any,.any,.any,.any,.any,.any,.any,.any],h:=[] } },{ x:=.ret,tm:={ t:=[.any,.any,(.int .i64),.any,.any,.any,.any,.any,.any,.any,.any,.any,.any,.any,.any,.any,.any,.any,.any,.any,.any,.any,.any,.any,.any],h:=[] } }]
noncomputable def q76:Env:={ tt:=qj,glob:=qa,spec:=[(16,qf q20 q1S zz)],body:=[(56,Tryz.f56)],loops:=[],nimp:=0 }
noncomputable def uE (ps:List PV):TR:=jx q76 56 Tryz.f56 6 qbF qbJ ps
theorem qo6:EnvOK q76 Tryz.prog:=⟨qm qc,
 all_cons q21 (q8),
 q8,
 all_cons (qh Tryz.func56 (by kernel_rfl)) (q8)⟩
theorem qlP:qO Tryz.prog qa q76.nimp (zo Tryz.prog q76.iter 56) (wM Tryz.f56 6) (qE qbF qbJ (qg uE)):=
 qv qk qo6 Tryz.func56 (by kernel_rfl) (by kernel_rfl) (by kernel_rfl) (by kernel_rfl) (fun _=>rfl)
noncomputable def qn9:Env:={ tt:=qj,glob:=qa,spec:=[(16,qf q20 q1S zz)],body:=[(56,Tryz.f56)],loops:=[((56,6),qE qbF qbJ (qg uE))],nimp:=0 }
noncomputable def zQ (ps:List PV):TR:=qW qn9 56 Tryz.f56 true q31 q2X ps
theorem qrA:EnvOK qn9 Tryz.prog:=⟨qm qc,
 all_cons q21 (q8),
 all_cons (zp Tryz.func56 (by kernel_rfl) (by kernel_rfl) qlP) (q8),
 all_cons (qh Tryz.func56 (by kernel_rfl)) (q8)⟩
theorem q2N:wi Tryz.prog qa 56 (qf q31 q2X zQ):=qt qk qrA Tryz.func56 (by kernel_rfl) (by kernel_rfl) (fun _=>rfl)
end Go.Eng

namespace Go.Eng
open Go.Proofs
def q6L:FIn:={ args:=[.str],h:=[] }
def q6V:List FOut:=[{ res:=.str,h:=[] }]
noncomputable def qhS:Env:={ tt:=qj,glob:=qa,spec:=[(127,qf q04 q0c zw)],body:=[(145,Tryz.f145)],loops:=[],nimp:=0 }
noncomputable def jC (ps:List PV):TR:=qW qhS 145 Tryz.f145 true q6L q6V ps
theorem qnQ:EnvOK qhS Tryz.prog:=⟨qm qc,
 all_cons kE (q8),
 q8,
 all_cons (qh Tryz.func145 (by kernel_rfl)) (q8)⟩
theorem qcx:wi Tryz.prog qa 145 (qf q6L q6V jC):=qt qk qnQ Tryz.func145 (by kernel_rfl) (by kernel_rfl) (fun _=>rfl)
def qmz:FIn:={ args:=[.str,.str],h:=[] }
def qm9:List FOut:=[{ res:=.str,h:=[] }]
noncomputable def qsS:Env:={ tt:=qj,glob:=qa,spec:=[(67,qf kf ko qp),(68,qf q2a q2b wA)],body:=[(189,Tryz.f189)],loops:=[],nimp:=0 }
noncomputable def q99 (ps:List PV):TR:=qW qsS 189 Tryz.f189 true qmz qm9 ps
theorem qvc:EnvOK qsS Tryz.prog:=⟨qm qc,
 all_cons q09 (all_cons q3w (q8)),
 q8,
 all_cons (qh Tryz.func189 (by kernel_rfl)) (q8)⟩
theorem qti:wi Tryz.prog qa 189 (qf qmz qm9 q99):=qt qk qvc Tryz.func189 (by kernel_rfl) (by kernel_rfl) (fun _=>rfl)
def q7D:FIn:={ args:=[(.agg [.str,.str,.str]),(.agg [.str,.str,.str])],h:=[] }
def q7K:List FOut:=[{ res:=(.tuple [(.agg [.str,.str,.str,.str,.str]),.bool]),h:=[] }]
noncomputable def qep:Env:={ tt:=qj,glob:=qa,spec:=[(34,qf q2W q2U zO),(46,qf kQ q0a qI),(53,qf q2c q2h zx),(127,qf q04 q0c zw),(140,qf qa6 q9W ub),(141,qf q5S q62 zY),(145,qf q6L q6V jC),(189,qf qmz qm9 q99)],body:=[(144,Tryz.f144)],loops:=[],nimp:=0 }
noncomputable def zr (ps:List PV):TR:=qW qep 144 Tryz.f144 true q7D q7K ps
theorem qlA:EnvOK qep Tryz.prog:=⟨qm qc,
 all_cons q2S (all_cons kH (all_cons q3p (all_cons kE (all_cons qbM (all_cons q7x (all_cons qcx (all_cons qti (q8)))))))),
 q8,
 all_cons (qh Tryz.func144 (by kernel_rfl)) (q8)⟩
theorem qis:wi Tryz.prog qa 144 (qf q7D q7K zr):=qt qk qlA Tryz.func144 (by kernel_rfl) (by kernel_rfl) (fun _=>rfl)
def q5E:FIn:={ args:=[(.imm [.str,.str,.str]),(.agg [(.int .i64),(.int .i64),(.int .i64)])],h:=[] }
def q5w:List FOut:=[{ res:=(.tuple [(.agg [.str,.str,.str,.str,.str]),.bool]),h:=[] }]
noncomputable def qfK:Env:={ tt:=qj,glob:=qa,spec:=[(144,qf q7D q7K zr),(145,qf q6L q6V jC)],body:=[(104,Tryz.f104)],loops:=[],nimp:=0 }
noncomputable def ze (ps:List PV):TR:=qW qfK 104 Tryz.f104 true q5E q5w ps
theorem qlS:EnvOK qfK Tryz.prog:=⟨qm qc,
 all_cons qis (all_cons qcx (q8)),
 q8,
 all_cons (qh Tryz.func104 (by kernel_rfl)) (q8)⟩
theorem qbi:wi Tryz.prog qa 104 (qf q5E q5w ze):=qt qk qlS Tryz.func104 (by kernel_rfl) (by kernel_rfl) (fun _=>rfl)
def q8M:FIn:={ args:=[(.agg [.str,.str,.str]),(.agg [.str,.str,.str,.str,.str])],h:=[] }
def q8I:List FOut:=[{ res:=.bool,h:=[] }]
noncomputable def qln:Env:={ tt:=qj,glob:=qa,spec:=[(34,qf q2W q2U zO),(46,qf kQ q0a qI),(127,qf q04 q0c zw),(128,qf q7h q79 yS),(140,qf qa6 q9W ub),(141,qf q5S q62 zY)],body:=[(105,Tryz.f105)],loops:=[],nimp:=0 }
noncomputable def q1H (ps:List PV):TR:=qW qln 105 Tryz.f105 true q8M q8I ps
theorem qqp:EnvOK qln Tryz.prog:=⟨qm qc,
 all_cons q2S (all_cons kH (all_cons kE (all_cons q9M (all_cons qbM (all_cons q7x (q8)))))),
 q8,
 all_cons (qh Tryz.func105 (by kernel_rfl)) (q8)⟩
theorem qev:wi Tryz.prog qa 105 (qf q8M q8I q1H):=qt qk qqp Tryz.func105 (by kernel_rfl) (by kernel_rfl) (fun _=>rfl)
def yx:FIn:={ args:=[(.imm [.str,.str,.str]),(.agg [(.int .i64),(.int .i64),(.int .i64)])],h:=[] }
def yI:List FOut:=[{ res:=.bool,h:=[] }]
def q85:Tmpl:={ t:=[(.imm [.str,.str,.str]),.any,.any,.any,.any,(.ptr 1 0),.any,(.int .i64),.any,.any,.any,.any,.any,.any,.any,.any,.any,.any,.any,.any,.any,.any,.any,.any,.any,.any,.any,.any,.any],h:=[.dead,.cells [.str,.str,.str,.str,.str]] }
def q7F:List Out:=[{ x:=(.exit 0),tm:={ t:=[.any,.any,.any,.any,.any,.any,.any,.any,.any,.any,.any,.any,.any,.any,.any,.any,.any,.any,.any,.any,.any,.any,.any,.any,.any,.any,.any,.any,.any],h:=[] } },{ x:=.ret,tm:={ t:=[.any,.any,.any,.any,.bool,.any,.any,.any,.any,.any,.any,.any,.any,.any,.any,.any,.any,.any,.any,.any,.any,.any,.any,.any,.any,.any,.any,.any,.any],h:=[] } }]
noncomputable def q4r:Env:={ tt:=qj,glob:=qa,spec:=[(104,qf q5E q5w ze),(105,qf q8M q8I q1H)],body:=[(62,Tryz.f62)],loops:=[],nimp:=0 }
noncomputable def u5 (ps:List PV):TR:=jx q4r 62 Tryz.f62 7 q85 q7F ps
theorem qkw:EnvOK q4r Tryz.prog:=⟨qm qc,
 all_cons qbi (all_cons qev (q8)),
 q8,
 all_cons (qh Tryz.func62 (by kernel_rfl)) (q8)⟩
theorem qj4:qO Tryz.prog qa q4r.nimp (zo Tryz.prog q4r.iter 62) (wM Tryz.f62 7) (qE q85 q7F (qg u5)):=
 qv qk qkw Tryz.func62 (by kernel_rfl) (by kernel_rfl) (by kernel_rfl) (by kernel_rfl) (fun _=>rfl)
noncomputable def qhK:Env:={ tt:=qj,glob:=qa,spec:=[(104,qf q5E q5w ze),(105,qf q8M q8I q1H)],body:=[(62,Tryz.f62)],loops:=[((62,7),qE q85 q7F (qg u5))],nimp:=0 }
noncomputable def we (ps:List PV):TR:=qW qhK 62 Tryz.f62 true yx yI ps
theorem qnI:EnvOK qhK Tryz.prog:=⟨qm qc,
 all_cons qbi (all_cons qev (q8)),
 all_cons (zp Tryz.func62 (by kernel_rfl) (by kernel_rfl) qj4) (q8),
 all_cons (qh Tryz.func62 (by kernel_rfl)) (q8)⟩
theorem yh:wi Tryz.prog qa 62 (qf yx yI we):=qt qk qnI Tryz.func62 (by kernel_rfl) (by kernel_rfl) (fun _=>rfl)
def uy:FIn:={ args:=[(.imm [.str,.str,.str])],h:=[] }
def uw:List FOut:=[{ res:=(.tuple [(.agg [(.int .i64),(.int .i64),(.int .i64)]),.bool]),h:=[] }]
def qau:Tmpl:={ t:=[(.imm [.str,.str,.str]),.any,(.ptr 0 0),.any,(.int .i64),.any,.any,.any,.any,.any,.any,.any,.any,.any,.any,.any,.any,.any,.any,.any,.any,.any,.any,.any,.any,.any,.any,.any,.any,.any,.any,.any,.any,.any,.any,.any,.any,.any,.any,.any,.any,.any,.any,.any,.any,.any,.any,.any,.any,.any,.any,.any,.any,.any],h:=[.cells [(.int .i64),(.int .i64),(.int .i64)]] }
def qar:List Out:=[{ x:=(.exit 0),tm:={ t:=[(.imm [.str,.str,.str]),.any,(.ptr 0 0),.any,.any,.any,.any,.any,.any,.any,.any,.any,.any,.any,.any,.any,.any,.any,.any,.any,.any,.any,.any,.any,.any,.any,.any,.any,.any,.any,.any,.any,.any,.any,.any,.any,.any,.any,.any,.any,.any,.any,.any,.any,.any,.any,.any,.any,.any,.any,.any,.any,.any,.any],h:=[.cells [(.int .i64),(.int .i64),(.int .i64)]] } },{ x:=.ret,tm:={ t:=[.any,.any,(.ptr 0 0),.bool,.any,.any,.any,.any,.any,.any,.any,.any,.any,.any,.any,.any,.any,.any,.any,.any,.any,.any,.any,.any,.any,.any,.any,.any,.any,.any,.any,.any,.any,.any,.any,.any,.any,.any,.any,.any,.any,.any,.any,.any,.any,.any,.any,.any,.any,.any,.any,.any,.any,.any],h:=[.cells [(.int .i64),(.int .i64),(.int .i64)]] } }]
noncomputable def q5l:Env:={ tt:=qj,glob:=qa,spec:=[(62,qf yx yI we)],body:=[(57,Tryz.f57)],loops:=[],nimp:=0 }
noncomputable def qD (ps:List PV):TR:=jx q5l 57 Tryz.f57 3 qau qar ps
theorem qmm:EnvOK q5l Tryz.prog:=⟨qm qc,
 all_cons yh (q8),
 q8,
 all_cons (qh Tryz.func57 (by kernel_rfl)) (q8)⟩
theorem qlp:qO Tryz.prog qa q5l.nimp (zo Tryz.prog q5l.iter 57) (wM Tryz.f57 3) (qE qau qar (qg qD)):=
 qv qk qmm Tryz.func57 (by kernel_rfl) (by kernel_rfl) (by kernel_rfl) (by kernel_rfl) (fun _=>rfl)
def q7W:Tmpl:={ t:=[(.imm [.str,.str,.str]),.any,(.ptr 0 0),.any,.any,.any,(.int .i64),(.int .i64),.any,.any,.any,.any,.any,.any,.any,.any,.any,.any,.any,.any,.any,.any,.any,.any,.any,.any,.any,.any,.any,.any,.any,.any,.any,.any,.any,.any,.any,.any,(.vec 1),(.int .i64),(.int .i64),.any,.any,.any,.any,.any,.any,.any,.any,.any,.any,.any,.any,.any],h:=[.cells [(.int .i64),(.int .i64),(.int .i64)],.vec 3 [(.int .i64)]] }
def q8c:List Out:=[{ x:=(.exit 6),tm:={ t:=[(.imm [.str,.str,.str]),.any,(.ptr 0 0),.any,.any,.any,(.int .i64),(.int .i64),.any,.any,.any,.any,.any,.any,.any,.any,.any,.any,.any,.any,.any,.any,.any,.any,.any,.any,.any,.any,.any,.any,.any,.any,.any,.any,.any,.any,.any,.any,.any,.any,.any,.any,.any,.any,.any,.any,.any,.any,.any,.any,.any,.any,.any,.any],h:=[.cells [(.int .i64),(.int .i64),(.int .i64)]] } },{ x:=.ret,tm:={ t:=[.any,.any,(.ptr 0 0),.bool,.any,.any,.any,.any,.any,.any,.any,.any,.any,.any,.any,.any,.any,.any,.any,.any,.any,.any,.any,.any,.any,.any,.any,.any,.any,.any,.any,.any,.any,.any,.any,.any,.any,.any,.any,.any,.any,.any,.any,.any,.any,.any,.any,.any,.any,.any,.any,.any,.any,.any],h:=[.cells [(.int .i64),(.int .i64),(.int .i64)]] } }]
noncomputable def q4n:Env:={ tt:=qj,glob:=qa,spec:=[(62,qf yx yI we)],body:=[(57,Tryz.f57)],loops:=[],nimp:=0 }
noncomputable def zD (ps:List PV):TR:=jx q4n 57 Tryz.f57 22 q7W q8c ps
theorem ql7:EnvOK q4n Tryz.prog:=⟨qm qc,
 all_cons yh (q8),
 q8,
 all_cons (qh Tryz.func57 (by kernel_rfl)) (q8)⟩
theorem qiM:qO Tryz.prog qa q4n.nimp (zo Tryz.prog q4n.iter 57) (wM Tryz.f57 22) (qE q7W q8c (qg zD)):=
 qv qk ql7 Tryz.func57 (by kernel_rfl) (by kernel_rfl) (by kernel_rfl) (by kernel_rfl) (fun _=>rfl)
def q7N:Tmpl:={ t:=[(.imm [.str,.str,.str]),.any,(.ptr 0 0),.any,.any,.any,(.int .i64),(.int .i64),.any,.any,.any,.any,.any,.any,.any,.any,.any,.any,.any,.any,.any,.any,.any,.any,.any,.any,.any,.any,.any,.any,.any,.any,.any,.any,.any,.any,.any,.any,.any,.any,.any,.any,.any,.any,.any,.any,.any,.any,.any,.any,.any,.any,.any,.any],h:=[.cells [(.int .i64),(.int .i64),(.int .i64)]] }
def q82:List Out:=[{ x:=(.exit 4),tm:={ t:=[(.imm [.str,.str,.str]),.any,(.ptr 0 0),.any,.any,.any,(.int .i64),.any,.any,.any,.any,.any,.any,.any,.any,.any,.any,.any,.any,.any,.any,.any,.any,.any,.any,.any,.any,.any,.any,.any,.any,.any,.any,.any,.any,.any,.any,.any,.any,.any,.any,.any,.any,.any,.any,.any,.any,.any,.any,.any,.any,.any,.any,.any],h:=[.cells [(.int .i64),(.int .i64),(.int .i64)]] } },{ x:=.ret,tm:={ t:=[.any,.any,(.ptr 0 0),.bool,.any,.any,.any,.any,.any,.any,.any,.any,.any,.any,.any,.any,.any,.any,.any,.any,.any,.any,.any,.any,.any,.any,.any,.any,.any,.any,.any,.any,.any,.any,.any,.any,.any,.any,.any,.any,.any,.any,.any,.any,.any,.any,.any,.any,.any,.any,.any,.any,.any,.any],h:=[.cells [(.int .i64),(.int .i64),(.int .i64)]] } }]
noncomputable def q4m:Env:={ tt:=qj,glob:=qa,spec:=[(62,qf yx yI we)],body:=[(57,Tryz.f57)],loops:=[((57,22),qE q7W q8c (qg zD))],nimp:=0 }
noncomputable def zL (ps:List PV):TR:=jx q4m 57 Tryz.f57 17 q7N q82 ps
theorem qk1:EnvOK q4m Tryz.prog:=⟨qm qc,
 all_cons yh (q8),
 all_cons (zp Tryz.func57 (by kernel_rfl) (by kernel_rfl) qiM) (q8),
 all_cons (qh Tryz.func57 (by kernel_rfl)) (q8)⟩
theorem qiE:qO Tryz.prog qa q4m.nimp (zo Tryz.prog q4m.iter 57) (wM Tryz.f57 17) (qE q7N q82 (qg zL)):=
 qv qk qk1 Tryz.func57 (by kernel_rfl) (by kernel_rfl) (by kernel_rfl) (by kernel_rfl) (fun _=>rfl)
def q83:Tmpl:={ t:=[(.imm [.str,.str,.str]),.any,(.ptr 0 0),.any,.any,.any,(.int .i64),.any,.any,.any,.any,.any,.any,.any,.any,.any,.any,.any,.any,.any,.any,.any,.any,.any,.any,.any,.any,.any,.any,.any,.any,.any,.any,.any,.any,.any,.any,.any,.any,.any,.any,.any,.any,.any,.any,.any,.any,.any,.any,.any,.any,.any,.any,.any],h:=[.cells [(.int .i64),(.int .i64),(.int .i64)]] }
def q8i:List Out:=[{ x:=(.exit 2),tm:={ t:=[.any,.any,(.ptr 0 0),.any,.any,.any,.any,.any,.any,.any,.any,.any,.any,.any,.any,.any,.any,.any,.any,.any,.any,.any,.any,.any,.any,.any,.any,.any,.any,.any,.any,.any,.any,.any,.any,.any,.any,.any,.any,.any,.any,.any,.any,.any,.any,.any,.any,.any,.any,.any,.any,.any,.any,.any],h:=[.cells [(.int .i64),(.int .i64),(.int .i64)]] } },{ x:=.ret,tm:={ t:=[.any,.any,(.ptr 0 0),.bool,.any,.any,.any,.any,.any,.any,.any,.any,.any,.any,.any,.any,.any,.any,.any,.any,.any,.any,.any,.any,.any,.any,.any,.any,.any,.any,.any,.any,.any,.any,.any,.any,.any,.any,.any,.any,.any,.any,.any,.any,.any,.any,.any,.any,.any,.any,.any,.any,.any,.any],h:=[.cells [(.int .i64),(.int .i64),(.int .i64)]] } }]
noncomputable def q4v:Env:={ tt:=qj,glob:=qa,spec:=[(62,qf yx yI we)],body:=[(57,Tryz.f57)],loops:=[((57,17),qE q7N q82 (qg zL))],nimp:=0 }
noncomputable def vD (ps:List PV):TR:=jx q4v 57 Tryz.f57 12 q83 q8i ps
theorem qlj:EnvOK q4v Tryz.prog:=⟨qm qc,
 all_cons yh (q8),
 all_cons (zp Tryz.func57 (by kernel_rfl) (by kernel_rfl) qiE) (q8),
 all_cons (qh Tryz.func57 (by kernel_rfl)) (q8)⟩
theorem qiu:qO Tryz.prog qa q4v.nimp (zo Tryz.prog q4v.iter 57) (wM Tryz.f57 12) (qE q83 q8i (qg vD)):=
 qv qk qlj Tryz.func57 (by kernel_rfl) (by kernel_rfl) (by kernel_rfl) (by kernel_rfl) (fun _=>rfl)
noncomputable def qjK:Env:={ tt:=qj,glob:=qa,spec:=[(62,qf yx yI we)],body:=[(57,Tryz.f57)],loops:=[((57,3),qE qau qar (qg qD)),((57,12),qE q83 q8i (qg vD))],nimp:=0 }
noncomputable def zP (ps:List PV):TR:=qW qjK 57 Tryz.f57 true uy uw ps
theorem qpQ:EnvOK qjK Tryz.prog:=⟨qm qc,
 all_cons yh (q8),
 all_cons (zp Tryz.func57 (by kernel_rfl) (by kernel_rfl) qlp) (all_cons (zp Tryz.func57 (by kernel_rfl) (by kernel_rfl) qiu) (q8)),
 all_cons (qh Tryz.func57 (by kernel_rfl)) (q8)⟩
theorem uc:wi Tryz.prog qa 57 (qf uy uw zP):=qt qk qpQ Tryz.func57 (by kernel_rfl) (by kernel_rfl) (fun _=>rfl)
def qcg:FIn:={ args:=[(.imm [.str,.str,.str])],h:=[] }
def qcf:List FOut:=[{ res:=(.tuple [.bool,(.agg [(.int .i64),(.int .i64),(.int .i64)]),(.int .i64)]),h:=[] }]
noncomputable def qi0:Env:={ tt:=qj,glob:=qa,spec:=[(56,qf q31 q2X zQ),(57,qf uy uw zP)],body:=[(19,Tryz.f19)],loops:=[],nimp:=0 }
noncomputable def j2 (ps:List PV):TR:=qW qi0 19 Tryz.f19 true qcg qcf ps
theorem qo9:EnvOK qi0 Tryz.prog:=⟨qm qc,
 all_cons q2N (all_cons uc (q8)),
 q8,
 all_cons (qh Tryz.func19 (by kernel_rfl)) (q8)⟩
theorem qmb:wi Tryz.prog qa 19 (qf qcg qcf j2):=qt qk qo9 Tryz.func19 (by kernel_rfl) (by kernel_rfl) (fun _=>rfl)
def qfs:FIn:={ args:=[(.agg [(.int .i64),(.int .i64),(.int .i64)])],h:=[] }
def qfv:List FOut:=[{ res:=(.agg [(.int .i64),(.int .i64),(.int .i64)]),h:=[] }]
noncomputable def qnj:Env:={ tt:=qj,glob:=qa,spec:=[],body:=[(20,Tryz.f20)],loops:=[],nimp:=0 }
noncomputable def q1D (ps:List PV):TR:=qW qnj 20 Tryz.f20 true qfs qfv ps
theorem qs5:EnvOK qnj Tryz.prog:=⟨qm qc,
 q8,
 q8,
 all_cons (qh Tryz.func20 (by kernel_rfl)) (q8)⟩
theorem qqP:wi Tryz.prog qa 20 (qf qfs qfv q1D):=qt qk qs5 Tryz.func20 (by kernel_rfl) (by kernel_rfl) (fun _=>rfl)
def q6H:FIn:={ args:=[(.imm [.str,.str,.str])],h:=[] }
def q6r:List FOut:=[{ res:=.bool,h:=[] }]
noncomputable def q1k:Env:={ tt:=qj,glob:=qa,spec:=[(12,qf q1V q1L qS),(17,qf qao q9f u6),(18,qf q77 q6Q zn),(19,qf qcg qcf j2),(20,qf qfs qfv q1D)],body:=[(4,Tryz.f4)],loops:=[],nimp:=0 }
noncomputable def q1u (ps:List PV):TR:=qW q1k 4 Tryz.f4 true q6H q6r ps
theorem qjh:EnvOK q1k Tryz.prog:=⟨qm qc,
 all_cons q26 (all_cons qbW (all_cons qd6 (all_cons qmb (all_cons qqP (q8))))),
 q8,
 all_cons (qh Tryz.func4 (by kernel_rfl)) (q8)⟩
theorem qh0:wi Tryz.prog qa 4 (qf q6H q6r q1u):=qt qk qjh Tryz.func4 (by kernel_rfl) (by kernel_rfl) (fun _=>rfl)
def q7P:FIn:={ args:=[(.agg [.str,.str,.str]),(.agg [.str,.str])],h:=[] }
def q7L:List FOut:=[{ res:=(.tuple [.bool,(.int .i64)]),h:=[] }]
def q5B:Tmpl:={ t:=[.any,.any,(.ptr 0 0),(.ptr 1 0),.any,.any,.any,.any,.any,.any,.any,.any,.any,.any,.any,.any,.any,.any,.any,.any,.any,(.vec 2),(.int .i64),(.int .i64),.any,.any,.any,.any,.any,.any,.any,.any,.any,.any,.any,.any,.any,.any,.any,.any,.any,.any,.any,.any,.any,.any,.any,.any,.any,.any,.any,.any,.any,.any,.any,.any,.any],h:=[.cells [.str,.str,.str],.cells [.str,.str],.vec 22 [.str]] }
def q5Z:List Out:=[{ x:=(.exit 0),tm:={ t:=[.any,.any,(.ptr 0 0),(.ptr 1 0),.any,.any,.any,.any,.any,.any,.any,.any,.any,.any,.any,.any,.any,.any,.any,.any,.any,.any,.any,.any,.any,.any,.any,.any,.any,.any,.any,.any,.any,.any,.any,.any,.any,.any,.any,.any,.any,.any,.any,.any,.any,.any,.any,.any,.any,.any,.any,.any,.any,.any,.any,.any,.any],h:=[.cells [.str,.str,.str],.cells [.str,.str]] } },{ x:=.ret,tm:={ t:=[.any,.any,.any,.any,.bool,(.int .i64),.any,.any,.any,.any,.any,.any,.any,.any,.any,.any,.any,.any,.any,.any,.any,.any,.any,.any,.any,.any,.any,.any,.any,.any,.any,.any,.any,.any,.any,.any,.any,.any,.any,.any,.any,.any,.any,.any,.any,.any,.any,.any,.any,.any,.any,.any,.any,.any,.any,.any,.any],h:=[] } }]
noncomputable def q2B:Env:={ tt:=qj,glob:=qa,spec:=[(15,qf ux uv zA),(52,qf q03 q05 zt),(58,qf kV kW zI),(59,qf q27 q28 ye)],body:=[(21,Tryz.f21)],loops:=[],nimp:=0 }
noncomputable def vO (ps:List PV):TR:=jx q2B 21 Tryz.f21 7 q5B q5Z ps
theorem qhm:EnvOK q2B Tryz.prog:=⟨qm qc,
 all_cons uk (all_cons kF (all_cons q34 (all_cons q4N (q8)))),
 q8,
 all_cons (qh Tryz.func21 (by kernel_rfl)) (q8)⟩
theorem qgn:qO Tryz.prog qa q2B.nimp (zo Tryz.prog q2B.iter 21) (wM Tryz.f21 7) (qE q5B q5Z (qg vO)):=
 qv qk qhm Tryz.func21 (by kernel_rfl) (by kernel_rfl) (by kernel_rfl) (by kernel_rfl) (fun _=>rfl)
noncomputable def qeT:Env:={ tt:=qj,glob:=qa,spec:=[(15,qf ux uv zA),(52,qf q03 q05 zt),(58,qf kV kW zI),(59,qf q27 q28 ye)],body:=[(21,Tryz.f21)],loops:=[((21,7),qE q5B q5Z (qg vO))],nimp:=0 }
noncomputable def ya (ps:List PV):TR:=qW qeT 21 Tryz.f21 true q7P q7L ps
theorem qjH:EnvOK qeT Tryz.prog:=⟨qm qc,
 all_cons uk (all_cons kF (all_cons q34 (all_cons q4N (q8)))),
 all_cons (zp Tryz.func21 (by kernel_rfl) (by kernel_rfl) qgn) (q8),
 all_cons (qh Tryz.func21 (by kernel_rfl)) (q8)⟩
theorem qj6:wi Tryz.prog qa 21 (qf q7P q7L ya):=qt qk qjH Tryz.func21 (by kernel_rfl) (by kernel_rfl) (fun _=>rfl)
def qj3:FIn:={ args:=[(.agg [.str,.str,.str]),(.agg [.str,.str])],h:=[] }
def qim:List FOut:=[{ res:=.bool,h:=[] }]
noncomputable def qpj:Env:={ tt:=qj,glob:=qa,spec:=[(97,qf q5C q5o jf),(98,qf qae q9s vu)],body:=[(60,Tryz.f60)],loops:=[],nimp:=0 }
noncomputable def q6w (ps:List PV):TR:=qW qpj 60 Tryz.f60 true qj3 qim ps
theorem qtC:EnvOK qpj Tryz.prog:=⟨qm qc,
 all_cons q7X (all_cons qch (q8)),
 q8,
 all_cons (qh Tryz.func60 (by kernel_rfl)) (q8)⟩
theorem qro:wi Tryz.prog qa 60 (qf qj3 qim q6w):=qt qk qtC Tryz.func60 (by kernel_rfl) (by kernel_rfl) (fun _=>rfl)
def q8a:FIn:={ args:=[(.agg [.str,.str,.str]),(.agg [.str,.str])],h:=[] }
def q7z:List FOut:=[{ res:=(.tuple [.bool,(.int .i64)]),h:=[] }]
noncomputable def qeP:Env:={ tt:=qj,glob:=qa,spec:=[(16,qf q20 q1S zz),(45,qf q5G q5K v8),(60,qf qj3 qim q6w)],body:=[(22,Tryz.f22)],loops:=[],nimp:=0 }
noncomputable def uh (ps:List PV):TR:=qW qeP 22 Tryz.f22 true q8a q7z ps
theorem qjU:EnvOK qeP Tryz.prog:=⟨qm qc,
 all_cons q21 (all_cons q7Q (all_cons qro (q8))),
 q8,
 all_cons (qh Tryz.func22 (by kernel_rfl)) (q8)⟩
theorem qj5:wi Tryz.prog qa 22 (qf q8a q7z uh):=qt qk qjU Tryz.func22 (by kernel_rfl) (by kernel_rfl) (fun _=>rfl)
def q3S:FIn:={ args:=[(.agg [.str,.str,.str]),(.agg [.str,.str])],h:=[] }
def q3Q:List FOut:=[{ res:=.bool,h:=[] }]
noncomputable def vL:Env:={ tt:=qj,glob:=qa,spec:=[(11,qf q3u q3o va),(12,qf q1V q1L qS),(21,qf q7P q7L ya),(22,qf q8a q7z uh)],body:=[(5,Tryz.f5)],loops:=[],nimp:=0 }
noncomputable def uo (ps:List PV):TR:=qW vL 5 Tryz.f5 true q3S q3Q ps
theorem qeW:EnvOK vL Tryz.prog:=⟨qm qc,
 all_cons q4t (all_cons q26 (all_cons qj6 (all_cons qj5 (q8)))),
 q8,
 all_cons (qh Tryz.func5 (by kernel_rfl)) (q8)⟩
theorem qeb:wi Tryz.prog qa 5 (qf q3S q3Q uo):=qt qk qeW Tryz.func5 (by kernel_rfl) (by kernel_rfl) (fun _=>rfl)
def qbU:FIn:={ args:=[(.imm [.str,.str,.str]),(.agg [(.int .i64),(.int .i64),(.int .i64)])],h:=[] }
def qbz:List FOut:=[{ res:=(.tuple [.bool,(.int .i64)]),h:=[] }]
noncomputable def qi9:Env:={ tt:=qj,glob:=qa,spec:=[(54,qf vw vt zl),(61,qf vC vA qU)],body:=[(23,Tryz.f23)],loops:=[],nimp:=0 }
noncomputable def uP (ps:List PV):TR:=qW qi9 23 Tryz.f23 true qbU qbz ps
theorem qnK:EnvOK qi9 Tryz.prog:=⟨qm qc,
 all_cons wR (all_cons vX (q8)),
 q8,
 all_cons (qh Tryz.func23 (by kernel_rfl)) (q8)⟩
theorem qmt:wi Tryz.prog qa 23 (qf qbU qbz uP):=qt qk qnK Tryz.func23 (by kernel_rfl) (by kernel_rfl) (fun _=>rfl)
def qfh:FIn:={ args:=[(.agg [(.int .i64),(.int .i64),(.int .i64)])],h:=[] }
def qg9:List FOut:=[{ res:=(.agg [(.int .i64),(.int .i64),(.int .i64)]),h:=[] }]
noncomputable def qn8:Env:={ tt:=qj,glob:=qa,spec:=[],body:=[(24,Tryz.f24)],loops:=[],nimp:=0 }
noncomputable def vU (ps:List PV):TR:=qW qn8 24 Tryz.f24 true qfh qg9 ps
theorem qrI:EnvOK qn8 Tryz.prog:=⟨qm qc,
 q8,
 q8,
 all_cons (qh Tryz.func24 (by kernel_rfl)) (q8)⟩
theorem qpq:wi Tryz.prog qa 24 (qf qfh qg9 vU):=qt qk qrI Tryz.func24 (by kernel_rfl) (by kernel_rfl) (fun _=>rfl)
def qcb:FIn:={ args:=[(.imm [.str,.str,.str]),(.agg [(.int .i64),(.int .i64),(.int .i64)])],h:=[] }
def qca:List FOut:=[{ res:=(.tuple [.bool,(.int .i64)]),h:=[] }]
def q7C:Tmpl:={ t:=[(.imm [.str,.str,.str]),.any,.any,(.ptr 0 0),.any,.any,.any,.any,.any,.any,.any,.any,.any,.any,.any,.any,.any,.any,(.vec 1),(.int .i64),(.int .i64),.any,.any,.any,.any,.any,.any,.any,.any,.any,.any,.any,.any,.any,.any,.any,.any,.any,.any,.any,.any,.any,.any,.any,.any,.any,.any,.any,.any],h:=[.cells [(.int .i64),(.int .i64),(.int .i64)],.vec 3 [(.int .i64)]] }
def q7Y:List Out:=[{ x:=(.exit 0),tm:={ t:=[(.imm [.str,.str,.str]),.any,.any,(.ptr 0 0),.any,.any,.any,.any,.any,.any,.any,.any,.any,.any,.any,.any,.any,.any,.any,.any,.any,.any,.any,.any,.any,.any,.any,.any,.any,.any,.any,.any,.any,.any,.any,.any,.any,.any,.any,.any,.any,.any,.any,.any,.any,.any,.any,.any,.any],h:=[.cells [(.int .i64),(.int .i64),(.int .i64)]] } },{ x:=.ret,tm:={ t:=[.any,.any,.any,.any,.bool,(.int .i64),.any,.any,.any,.any,.any,.any,.any,.any,.any,.any,.any,.any,.any,.any,.any,.any,.any,.any,.any,.any,.any,.any,.any,.any,.any,.any,.any,.any,.any,.any,.any,.any,.any,.any,.any,.any,.any,.any,.any,.any,.any,.any,.any],h:=[] } }]
noncomputable def q4p:Env:={ tt:=qj,glob:=qa,spec:=[(56,qf q31 q2X zQ),(62,qf yx yI we)],body:=[(25,Tryz.f25)],loops:=[],nimp:=0 }
noncomputable def zj (ps:List PV):TR:=jx q4p 25 Tryz.f25 7 q7C q7Y ps
theorem qkE:EnvOK q4p Tryz.prog:=⟨qm qc,
 all_cons q2N (all_cons yh (q8)),
 q8,
 all_cons (qh Tryz.func25 (by kernel_rfl)) (q8)⟩
theorem qiZ:qO Tryz.prog qa q4p.nimp (zo Tryz.prog q4p.iter 25) (wM Tryz.f25 7) (qE q7C q7Y (qg zj)):=
 qv qk qkE Tryz.func25 (by kernel_rfl) (by kernel_rfl) (by kernel_rfl) (by kernel_rfl) (fun _=>rfl)
noncomputable def qhw:Env:={ tt:=qj,glob:=qa,spec:=[(56,qf q31 q2X zQ),(62,qf yx yI we)],body:=[(25,Tryz.f25)],loops:=[((25,7),qE q7C q7Y (qg zj))],nimp:=0 }
noncomputable def uL (ps:List PV):TR:=qW qhw 25 Tryz.f25 true qcb qca ps
theorem qnM:EnvOK qhw Tryz.prog:=⟨qm qc,
 all_cons q2N (all_cons yh (q8)),
 all_cons (zp Tryz.func25 (by kernel_rfl) (by kernel_rfl) qiZ) (q8),
 all_cons (qh Tryz.func25 (by kernel_rfl)) (q8)⟩
theorem qlO:wi Tryz.prog qa 25 (qf qcb qca uL):=qt qk qnM Tryz.func25 (by kernel_rfl) (by kernel_rfl) (fun _=>rfl)
def q4O:FIn:={ args:=[(.imm [.str,.str,.str]),(.agg [(.int .i64),(.int .i64),(.int .i64)])],h:=[] }
def q4G:List FOut:=[{ res:=.bool,h:=[] }]
noncomputable def jo:Env:={ tt:=qj,glob:=qa,spec:=[(12,qf q1V q1L qS),(17,qf qao q9f u6),(23,qf qbU qbz uP),(24,qf qfh qg9 vU),(25,qf qcb qca uL)],body:=[(6,Tryz.f6)],loops:=[],nimp:=0 }
noncomputable def uY (ps:List PV):TR:=qW jo 6 Tryz.f6 true q4O q4G ps
theorem qff:EnvOK jo Tryz.prog:=⟨qm qc,
 all_cons q26 (all_cons qbW (all_cons qmt (all_cons qpq (all_cons qlO (q8))))),
 q8,
 all_cons (qh Tryz.func6 (by kernel_rfl)) (q8)⟩
theorem qf6:wi Tryz.prog qa 6 (qf q4O q4G uY):=qt qk qff Tryz.func6 (by kernel_rfl) (by kernel_rfl) (fun _=>rfl)
def qdr:FIn:={ args:=[(.imm [.str,.str,.str])],h:=[] }
def qdK:List FOut:=[{ res:=(.imm [(.int .i64)]),h:=[] }]
def q9I:Tmpl:={ t:=[(.imm [.str,.str,.str]),.any,.any,(.int .i64),(.int .i64),.any,.any,.any,.any,.any,.any,.any,.any,.any,.any,.any,.any,.any,.any,.any,.any,.any,.any,.any,.any,.any,.any,.any,.any,.any,.any,.any,.any,.any,.any,.any,.any,.any,.any,.any,.any,.any,.any,.any,.any,.any,.any,.any,.any,.any,.any,.any,.any,.any,.any,.any,.any,.any,.any,.any,.any,.any,.any,.any,.any,.any,.any,.any,.any,.any,.any,.any,.any,.any,.any,.any,.any,.any,.any,.any,.any,.any,.any,.any,.any,.any,.any,.any,.any],h:=[] }
def qak:List Out:=[{ x:=(.exit 2),tm:={ t:=[(.imm [.str,.str,.str]),.any,.any,(.int .i64),.any,.any,.any,.any,.any,.any,.any,.any,.any,.any,.any,.any,.any,.any,.any,.any,.any,.any,.any,.any,.any,.any,.any,.any,.any,.any,.any,.any,.any,.any,.any,.any,.any,.any,.any,.any,.any,.any,.any,.any,.any,.any,.any,.any,.any,.any,.any,.any,.any,.any,.any,.any,.any,.any,.any,.any,.any,.any,.any,.any,.any,.any,.any,.any,.any,.any,.any,.any,.any,.any,.any,.any,.any,.any,.any,.any,.any,.any,.any,.any,.any,.any,.any,.any,.any],h:=[] } },{ x:=.ret,tm:={ t:=[.any,.any,(.vec 2),.any,.any,.any,.any,.any,.any,.any,.any,.any,.any,.any,.any,.any,.any,.any,.any,.any,.any,.any,.any,.any,.any,.any,.any,.any,.any,.any,.any,.any,.any,.any,.any,.any,.any,.any,.any,.any,.any,.any,.any,.any,.any,.any,.any,.any,.any,.any,.any,.any,.any,.any,.any,.any,.any,.any,.any,.any,.any,.any,.any,.any,.any,.any,.any,.any,.any,.any,.any,.any,.any,.any,.any,.any,.any,.any,.any,.any,.any,.any,.any,.any,.any,.any,.any,.any,.any],h:=[.dead,.dead,.vec 3 [(.int .i64)]] } }]
noncomputable def q5e:Env:={ tt:=qj,glob:=qa,spec:=[(57,qf uy uw zP)],body:=[(64,Tryz.f64)],loops:=[],nimp:=0 }
noncomputable def jE (ps:List PV):TR:=jx q5e 64 Tryz.f64 8 q9I qak ps
theorem qlY:EnvOK q5e Tryz.prog:=⟨qm qc,
 all_cons uc (q8),
 q8,
 all_cons (qh Tryz.func64 (by kernel_rfl)) (q8)⟩
theorem qjt:qO Tryz.prog qa q5e.nimp (zo Tryz.prog q5e.iter 64) (wM Tryz.f64 8) (qE q9I qak (qg jE)):=
 qv qk qlY Tryz.func64 (by kernel_rfl) (by kernel_rfl) (by kernel_rfl) (by kernel_rfl) (fun _=>rfl)
def qac:Tmpl:={ t:=[(.imm [.str,.str,.str]),.any,.any,(.int .i64),.any,.any,.any,.any,.any,.any,.any,.any,.any,.any,.any,.any,.any,.any,.any,.any,.any,.any,.any,.any,.any,.any,.any,.any,.any,.any,.any,.any,.any,.any,.any,.any,.any,.any,.any,.any,.any,.any,.any,.any,.any,.any,.any,.any,.any,.any,.any,.any,.any,.any,.any,.any,.any,.any,.any,.any,.any,.any,.any,.any,.any,.any,.any,.any,.any,.any,.any,.any,.any,.any,.any,.any,.any,.any,.any,.any,.any,.any,.any,.any,.any,.any,.any,.any,.any],h:=[] }
def qa0:List Out:=[{ x:=(.exit 0),tm:={ t:=[(.imm [.str,.str,.str]),.any,.any,.any,.any,.any,.any,.any,.any,.any,.any,.any,.any,.any,.any,.any,.any,.any,.any,.any,.any,.any,.any,.any,.any,.any,.any,.any,.any,.any,.any,.any,.any,.any,.any,.any,.any,.any,.any,.any,.any,.any,.any,.any,.any,.any,.any,.any,.any,.any,.any,.any,.any,.any,.any,.any,.any,.any,.any,.any,.any,.any,.any,.any,.any,.any,.any,.any,.any,.any,.any,.any,.any,.any,.any,.any,.any,.any,.any,.any,.any,.any,.any,.any,.any,.any,.any,.any,.any],h:=[] } },{ x:=.ret,tm:={ t:=[.any,.any,(.vec 2),.any,.any,.any,.any,.any,.any,.any,.any,.any,.any,.any,.any,.any,.any,.any,.any,.any,.any,.any,.any,.any,.any,.any,.any,.any,.any,.any,.any,.any,.any,.any,.any,.any,.any,.any,.any,.any,.any,.any,.any,.any,.any,.any,.any,.any,.any,.any,.any,.any,.any,.any,.any,.any,.any,.any,.any,.any,.any,.any,.any,.any,.any,.any,.any,.any,.any,.any,.any,.any,.any,.any,.any,.any,.any,.any,.any,.any,.any,.any,.any,.any,.any,.any,.any,.any,.any],h:=[.dead,.dead,.vec 3 [(.int .i64)]] } }]
noncomputable def q5y:Env:={ tt:=qj,glob:=qa,spec:=[(57,qf uy uw zP)],body:=[(64,Tryz.f64)],loops:=[((64,8),qE q9I qak (qg jE))],nimp:=0 }
noncomputable def j4 (ps:List PV):TR:=jx q5y 64 Tryz.f64 3 qac qa0 ps
theorem qmw:EnvOK q5y Tryz.prog:=⟨qm qc,
 all_cons uc (q8),
 all_cons (zp Tryz.func64 (by kernel_rfl) (by kernel_rfl) qjt) (q8),
 all_cons (qh Tryz.func64 (by kernel_rfl)) (q8)⟩
theorem qkM:qO Tryz.prog qa q5y.nimp (zo Tryz.prog q5y.iter 64) (wM Tryz.f64 3) (qE qac qa0 (qg j4)):=
 qv qk qmw Tryz.func64 (by kernel_rfl) (by kernel_rfl) (by kernel_rfl) (by kernel_rfl) (fun _=>rfl)
def q8g:Tmpl:={ t:=[(.imm [.str,.str,.str]),.any,.any,.any,.any,.any,.any,(.int .i64),(.int .i64),(.int .i64),.any,.any,.any,.any,.any,.any,.any,.any,.any,.any,.any,.any,.any,.any,.any,.any,.any,.any,.any,.any,.any,.any,.any,.any,.any,.any,.any,.any,.any,.any,.any,.any,.any,.any,.any,.any,.any,.any,.any,.any,.any,.any,.any,.any,.any,.any,.any,.any,.any,.any,.any,.any,.any,.any,.any,.any,.any,.any,.any,.any,.any,.any,.any,.any,.any,.any,.any,.any,.any,.any,.any,.any,.any,.any,.any,.any,.any,.any,.any],h:=[] }
def q7w:List Out:=[{ x:=(.exit 8),tm:={ t:=[(.imm [.str,.str,.str]),.any,.any,.any,.any,.any,.any,(.int .i64),(.int .i64),.any,.any,.any,.any,.any,.any,.any,.any,.any,.any,.any,.any,.any,.any,.any,.any,.any,.any,.any,.any,.any,.any,.any,.any,.any,.any,.any,.any,.any,.any,.any,.any,.any,.any,.any,.any,.any,.any,.any,.any,.any,.any,.any,.any,.any,.any,.any,.any,.any,.any,.any,.any,.any,.any,.any,.any,.any,.any,.any,.any,.any,.any,.any,.any,.any,.any,.any,.any,.any,.any,.any,.any,.any,.any,.any,.any,.any,.any,.any,.any],h:=[] } },{ x:=.ret,tm:={ t:=[.any,.any,(.vec 2),.any,.any,.any,.any,.any,.any,.any,.any,.any,.any,.any,.any,.any,.any,.any,.any,.any,.any,.any,.any,.any,.any,.any,.any,.any,.any,.any,.any,.any,.any,.any,.any,.any,.any,.any,.any,.any,.any,.any,.any,.any,.any,.any,.any,.any,.any,.any,.any,.any,.any,.any,.any,.any,.any,.any,.any,.any,.any,.any,.any,.any,.any,.any,.any,.any,.any,.any,.any,.any,.any,.any,.any,.any,.any,.any,.any,.any,.any,.any,.any,.any,.any,.any,.any,.any,.any],h:=[.dead,.dead,.vec 3 [(.int .i64)]] } }]
noncomputable def q4o:Env:={ tt:=qj,glob:=qa,spec:=[(57,qf uy uw zP)],body:=[(64,Tryz.f64)],loops:=[],nimp:=0 }
noncomputable def vF (ps:List PV):TR:=jx q4o 64 Tryz.f64 27 q8g q7w ps
theorem qkl:EnvOK q4o Tryz.prog:=⟨qm qc,
 all_cons uc (q8),
 q8,
 all_cons (qh Tryz.func64 (by kernel_rfl)) (q8)⟩
theorem qj0:qO Tryz.prog qa q4o.nimp (zo Tryz.prog q4o.iter 64) (wM Tryz.f64 27) (qE q8g q7w (qg vF)):=
 qv qk qkl Tryz.func64 (by kernel_rfl) (by kernel_rfl) (by kernel_rfl) (by kernel_rfl) (fun _=>rfl)
def q81:Tmpl:={ t:=[(.imm [.str,.str,.str]),.any,.any,.any,.any,.any,.any,(.int .i64),(.int .i64),.any,.any,.any,.any,.any,.any,.any,.any,.any,.any,.any,.any,.any,.any,.any,.any,.any,.any,.any,.any,.any,.any,.any,.any,.any,.any,.any,.any,.any,.any,.any,.any,.any,.any,.any,.any,.any,.any,.any,.any,.any,.any,.any,.any,.any,.any,.any,.any,.any,.any,.any,.any,.any,.any,.any,.any,.any,.any,.any,.any,.any,.any,.any,.any,.any,.any,.any,.any,.any,.any,.any,.any,.any,.any,.any,.any,.any,.any,.any,.any],h:=[] }
def q7Z:List Out:=[{ x:=(.exit 6),tm:={ t:=[(.imm [.str,.str,.str]),.any,.any,.any,.any,.any,.any,(.int .i64),.any,.any,.any,.any,.any,.any,.any,.any,.any,.any,.any,.any,.any,.any,.any,.any,.any,.any,.any,.any,.any,.any,.any,.any,.any,.any,.any,.any,.any,.any,.any,.any,.any,.any,.any,.any,.any,.any,.any,.any,.any,.any,.any,.any,.any,.any,.any,.any,.any,.any,.any,.any,.any,.any,.any,.any,.any,.any,.any,.any,.any,.any,.any,.any,.any,.any,.any,.any,.any,.any,.any,.any,.any,.any,.any,.any,.any,.any,.any,.any,.any],h:=[] } },{ x:=.ret,tm:={ t:=[.any,.any,(.vec 2),.any,.any,.any,.any,.any,.any,.any,.any,.any,.any,.any,.any,.any,.any,.any,.any,.any,.any,.any,.any,.any,.any,.any,.any,.any,.any,.any,.any,.any,.any,.any,.any,.any,.any,.any,.any,.any,.any,.any,.any,.any,.any,.any,.any,.any,.any,.any,.any,.any,.any,.any,.any,.any,.any,.any,.any,.any,.any,.any,.any,.any,.any,.any,.any,.any,.any,.any,.any,.any,.any,.any,.any,.any,.any,.any,.any,.any,.any,.any,.any,.any,.any,.any,.any,.any,.any],h:=[.dead,.dead,.vec 3 [(.int .i64)]] } }]
noncomputable def q4z:Env:={ tt:=qj,glob:=qa,spec:=[(57,qf uy uw zP)],body:=[(64,Tryz.f64)],loops:=[((64,27),qE q8g q7w (qg vF))],nimp:=0 }
noncomputable def jd (ps:List PV):TR:=jx q4z 64 Tryz.f64 22 q81 q7Z ps
theorem qkb:EnvOK q4z Tryz.prog:=⟨qm qc,
 all_cons uc (q8),
 all_cons (zp Tryz.func64 (by kernel_rfl) (by kernel_rfl) qj0) (q8),
 all_cons (qh Tryz.func64 (by kernel_rfl)) (q8)⟩
theorem qij:qO Tryz.prog qa q4z.nimp (zo Tryz.prog q4z.iter 64) (wM Tryz.f64 22) (qE q81 q7Z (qg jd)):=
 qv qk qkb Tryz.func64 (by kernel_rfl) (by kernel_rfl) (by kernel_rfl) (by kernel_rfl) (fun _=>rfl)
def q87:Tmpl:={ t:=[(.imm [.str,.str,.str]),.any,.any,.any,.any,.any,.any,(.int .i64),.any,.any,.any,.any,.any,.any,.any,.any,.any,.any,.any,.any,.any,.any,.any,.any,.any,.any,.any,.any,.any,.any,.any,.any,.any,.any,.any,.any,.any,.any,.any,.any,.any,.any,.any,.any,.any,.any,.any,.any,.any,.any,.any,.any,.any,.any,.any,.any,.any,.any,.any,.any,.any,.any,.any,.any,.any,.any,.any,.any,.any,.any,.any,.any,.any,.any,.any,.any,.any,.any,.any,.any,.any,.any,.any,.any,.any,.any,.any,.any,.any],h:=[] }
def q84:List Out:=[{ x:=(.exit 4),tm:={ t:=[.any,.any,.any,.any,.any,.any,.any,.any,.any,.any,.any,.any,.any,.any,.any,.any,.any,.any,.any,.any,.any,.any,.any,.any,.any,.any,.any,.any,.any,.any,.any,.any,.any,.any,.any,.any,.any,.any,.any,.any,.any,.any,.any,.any,.any,.any,.any,.any,.any,.any,.any,.any,.any,.any,.any,.any,.any,.any,.any,.any,.any,.any,.any,.any,.any,.any,.any,.any,.any,.any,.any,.any,.any,.any,.any,.any,.any,.any,.any,.any,.any,.any,.any,.any,.any,.any,.any,.any,.any],h:=[] } },{ x:=.ret,tm:={ t:=[.any,.any,(.vec 2),.any,.any,.any,.any,.any,.any,.any,.any,.any,.any,.any,.any,.any,.any,.any,.any,.any,.any,.any,.any,.any,.any,.any,.any,.any,.any,.any,.any,.any,.any,.any,.any,.any,.any,.any,.any,.any,.any,.any,.any,.any,.any,.any,.any,.any,.any,.any,.any,.any,.any,.any,.any,.any,.any,.any,.any,.any,.any,.any,.any,.any,.any,.any,.any,.any,.any,.any,.any,.any,.any,.any,.any,.any,.any,.any,.any,.any,.any,.any,.any,.any,.any,.any,.any,.any,.any],h:=[.dead,.dead,.vec 3 [(.int .i64)]] } }]
noncomputable def q4B:Env:={ tt:=qj,glob:=qa,spec:=[(57,qf uy uw zP)],body:=[(64,Tryz.f64)],loops:=[((64,22),qE q81 q7Z (qg jd))],nimp:=0 }
noncomputable def u7 (ps:List PV):TR:=jx q4B 64 Tryz.f64 17 q87 q84 ps
theorem qkA:EnvOK q4B Tryz.prog:=⟨qm qc,
 all_cons uc (q8),
 all_cons (zp Tryz.func64 (by kernel_rfl) (by kernel_rfl) qij) (q8),
 all_cons (qh Tryz.func64 (by kernel_rfl)) (q8)⟩
theorem qiY:qO Tryz.prog qa q4B.nimp (zo Tryz.prog q4B.iter 64) (wM Tryz.f64 17) (qE q87 q84 (qg u7)):=
 qv qk qkA Tryz.func64 (by kernel_rfl) (by kernel_rfl) (by kernel_rfl) (by kernel_rfl) (fun _=>rfl)
noncomputable def qkU:Env:={ tt:=qj,glob:=qa,spec:=[(57,qf uy uw zP)],body:=[(64,Tryz.f64)],loops:=[((64,3),qE qac qa0 (qg j4)),((64,17),qE q87 q84 (qg u7))],nimp:=0 }
noncomputable def q39 (ps:List PV):TR:=qW qkU 64 Tryz.f64 true qdr qdK ps
theorem qoC:EnvOK qkU Tryz.prog:=⟨qm qc,
 all_cons uc (q8),
 all_cons (zp Tryz.func64 (by kernel_rfl) (by kernel_rfl) qkM) (all_cons (zp Tryz.func64 (by kernel_rfl) (by kernel_rfl) qiY) (q8)),
 all_cons (qh Tryz.func64 (by kernel_rfl)) (q8)⟩
theorem qnC:wi Tryz.prog qa 64 (qf qdr qdK q39):=qt qk qoC Tryz.func64 (by kernel_rfl) (by kernel_rfl) (fun _=>rfl)
def q2O:FIn:={ args:=[(.imm [.str,.str,.str])],h:=[] }
def q2J:List FOut:=[{ res:=(.tuple [(.imm [(.int .i64)]),(.int .i64)]),h:=[] }]
noncomputable def q7p:Env:={ tt:=qj,glob:=qa,spec:=[(56,qf q31 q2X zQ),(64,qf qdr qdK q39)],body:=[(27,Tryz.f27)],loops:=[],nimp:=0 }
noncomputable def ww (ps:List PV):TR:=qW q7p 27 Tryz.f27 true q2O q2J ps
theorem qdl:EnvOK q7p Tryz.prog:=⟨qm qc,
 all_cons q2N (all_cons qnC (q8)),
 q8,
 all_cons (qh Tryz.func27 (by kernel_rfl)) (q8)⟩
theorem qcP:wi Tryz.prog qa 27 (qf q2O q2J ww):=qt qk qdl Tryz.func27 (by kernel_rfl) (by kernel_rfl) (fun _=>rfl)
def q6k:FIn:={ args:=[(.imm [.str,.str,.str])],h:=[] }
def q6i:List FOut:=[{ res:=(.tuple [(.imm [(.int .i64)]),(.int .i64)]),h:=[] }]
def q3M:Tmpl:={ t:=[(.imm [.str,.str,.str]),.any,.any,.any,.any,(.ptr 0 0),(.vec 1),(.int .i64),(.ptr 2 0),.any,.any,.any,.any,.any,.any,.any,.any,.any,(.imm [.str,.str,.str]),(.int .i64),(.int .i64),.any,.any,.any,.any,(.imm [.str,.str,.str]),(.int .i64),(.int .i64),.any,.any,.any,.any,.any,.any,.any,.any,.any,.any,.any,.any,.any,.any,.any,.any,.any,.any,.any,.any,.any,.any,.any,.any,.any,.any,.any,.any,.any,.any,.any,.any,.any,.any,.any,.any,.any,.any,.any,.any,.any],h:=[.cells [(.int .i64)],.vec 3 [(.int .i64)],.cells [.str,.str,.str]] }
def q3T:List Out:=[{ x:=(.exit 2),tm:={ t:=[(.imm [.str,.str,.str]),.any,.any,.any,.any,(.ptr 0 0),(.vec 1),.any,.any,.any,.any,.any,.any,.any,.any,.any,.any,.any,(.imm [.str,.str,.str]),(.int .i64),(.int .i64),.any,.any,.any,.any,.any,.any,.any,.any,.any,.any,.any,.any,.any,.any,.any,.any,.any,.any,.any,.any,.any,.any,.any,.any,.any,.any,.any,.any,.any,.any,.any,.any,.any,.any,.any,.any,.any,.any,.any,.any,.any,.any,.any,.any,.any,.any,.any,.any],h:=[.cells [(.int .i64)],.vec 3 [(.int .i64)]] } }]
noncomputable def q0P:Env:={ tt:=qj,glob:=qa,spec:=[(49,qf jl jm qM),(54,qf vw vt zl)],body:=[(28,Tryz.f28)],loops:=[],nimp:=0 }
noncomputable def zF (ps:List PV):TR:=jx q0P 28 Tryz.f28 15 q3M q3T ps
theorem qeX:EnvOK q0P Tryz.prog:=⟨qm qc,
 all_cons yf (all_cons wR (q8)),
 q8,
 all_cons (qh Tryz.func28 (by kernel_rfl)) (q8)⟩
theorem qdP:qO Tryz.prog qa q0P.nimp (zo Tryz.prog q0P.iter 28) (wM Tryz.f28 15) (qE q3M q3T (qg zF)):=
 qv qk qeX Tryz.func28 (by kernel_rfl) (by kernel_rfl) (by kernel_rfl) (by kernel_rfl) (fun _=>rfl)
def q4L:Tmpl:={ t:=[(.imm [.str,.str,.str]),.any,.any,.any,.any,(.ptr 0 0),(.vec 1),.any,.any,.any,.any,.any,.any,.any,.any,.any,.any,.any,(.imm [.str,.str,.str]),(.int .i64),(.int .i64),.any,.any,.any,.any,.any,.any,.any,.any,.any,.any,.any,.any,.any,.any,.any,.any,.any,.any,.any,.any,.any,.any,.any,.any,.any,.any,.any,.any,.any,.any,.any,.any,.any,.any,.any,.any,.any,.any,.any,.any,.any,.any,.any,.any,.any,.any,.any,.any],h:=[.cells [(.int .i64)],.vec 3 [(.int .i64)]],pro:=[(6,3,[(.int .i64)])] }
def q4C:List Out:=[{ x:=(.exit 0),tm:={ t:=[.any,.any,.any,.any,.any,(.ptr 0 0),(.vec 1),.any,.any,.any,.any,.any,.any,.any,.any,.any,.any,.any,.any,.any,.any,.any,.any,.any,.any,.any,.any,.any,.any,.any,.any,.any,.any,.any,.any,.any,.any,.any,.any,.any,.any,.any,.any,.any,.any,.any,.any,.any,.any,.any,.any,.any,.any,.any,.any,.any,.any,.any,.any,.any,.any,.any,.any,.any,.any,.any,.any,.any,.any],h:=[.cells [(.int .i64)],.vec 3 [(.int .i64)]] } }]
noncomputable def q1T:Env:={ tt:=qj,glob:=qa,spec:=[(49,qf jl jm qM),(54,qf vw vt zl)],body:=[(28,Tryz.f28)],loops:=[((28,15),qE q3M q3T (qg zF))],nimp:=0 }
noncomputable def wY (ps:List PV):TR:=jx q1T 28 Tryz.f28 9 q4L q4C ps
theorem qgq:EnvOK q1T Tryz.prog:=⟨qm qc,
 all_cons yf (all_cons wR (q8)),
 all_cons (zp Tryz.func28 (by kernel_rfl) (by kernel_rfl) qdP) (q8),
 all_cons (qh Tryz.func28 (by kernel_rfl)) (q8)⟩
theorem qeU:qO Tryz.prog qa q1T.nimp (zo Tryz.prog q1T.iter 28) (wM Tryz.f28 9) (qE q4L q4C (qg wY)):=
 qv qk qgq Tryz.func28 (by kernel_rfl) (by kernel_rfl) (by kernel_rfl) (by kernel_rfl) (fun _=>rfl)
noncomputable def qd7:Env:={ tt:=qj,glob:=qa,spec:=[(49,qf jl jm qM),(54,qf vw vt zl)],body:=[(28,Tryz.f28)],loops:=[((28,9),qE q4L q4C (qg wY))],nimp:=0 }
noncomputable def vJ (ps:List PV):TR:=qW qd7 28 Tryz.f28 true q6k q6i ps
theorem qjp:EnvOK qd7 Tryz.prog:=⟨qm qc,
 all_cons yf (all_cons wR (q8)),
 all_cons (zp Tryz.func28 (by kernel_rfl) (by kernel_rfl) qeU) (q8),
 all_cons (qh Tryz.func28 (by kernel_rfl)) (q8)⟩
theorem qhq:wi Tryz.prog qa 28 (qf q6k q6i vJ):=qt qk qjp Tryz.func28 (by kernel_rfl) (by kernel_rfl) (fun _=>rfl)
def qdQ:FIn:={ args:=[(.imm [.str,.str,.str])],h:=[] }
def qdn:List FOut:=[{ res:=(.imm [(.int .i64)]),h:=[] }]
def q8e:Tmpl:={ t:=[(.imm [.str,.str,.str]),.any,.any,(.vec 0),(.int .i64),.bool,(.int .i64),.any,.any,.any,.any,.any,.any,.any,.any,.any,.any,.any,.any,.any,.any,.any,.any,.any,.any,.any,.any,.any,.any,.any,.any,.any,.any,.any,.any,.any,.any,.any,.any,.any,.any,.any,.any,.any,.any,.any,.any,.any,.any,.any,.any,.any,.any,.any,.any,.any,.any,.any,.any],h:=[.vec 3 [(.int .i64)]] }
def q7I:List Out:=[{ x:=(.exit 2),tm:={ t:=[(.imm [.str,.str,.str]),.any,.any,(.vec 0),(.int .i64),.bool,.any,.any,.any,.any,.any,.any,.any,.any,.any,.any,.any,.any,.any,.any,.any,.any,.any,.any,.any,.any,.any,.any,.any,.any,.any,.any,.any,.any,.any,.any,.any,.any,.any,.any,.any,.any,.any,.any,.any,.any,.any,.any,.any,.any,.any,.any,.any,.any,.any,.any,.any,.any,.any],h:=[.vec 3 [(.int .i64)]] } }]
noncomputable def q4l:Env:={ tt:=qj,glob:=qa,spec:=[(88,qf q2f q2j wC)],body:=[(65,Tryz.f65)],loops:=[],nimp:=0 }
noncomputable def zC (ps:List PV):TR:=jx q4l 65 Tryz.f65 11 q8e q7I ps
theorem qjI:EnvOK q4l Tryz.prog:=⟨qm qc,
 all_cons q3f (q8),
 q8,
 all_cons (qh Tryz.func65 (by kernel_rfl)) (q8)⟩
theorem qjd:qO Tryz.prog qa q4l.nimp (zo Tryz.prog q4l.iter 65) (wM Tryz.f65 11) (qE q8e q7I (qg zC)):=
 qv qk qjI Tryz.func65 (by kernel_rfl) (by kernel_rfl) (by kernel_rfl) (by kernel_rfl) (fun _=>rfl)
def q9D:Tmpl:={ t:=[(.imm [.str,.str,.str]),.any,.any,(.vec 0),(.int .i64),.any,.any,.any,.any,.any,.any,.any,.any,.any,.any,.any,.any,.any,.any,.any,.any,.any,.any,.any,.any,.any,.any,.any,.any,.any,.any,.any,.any,.any,.any,.any,.any,.any,.any,.any,.any,.any,.any,.any,.any,.any,.any,.any,.any,.any,.any,.any,.any,.any,.any,.any,.any,.any,.any],h:=[.vec 3 [(.int .i64)]],pro:=[(3,3,[(.int .i64)])] }
def q9x:List Out:=[{ x:=(.exit 0),tm:={ t:=[.any,.any,.any,(.vec 0),.any,.any,.any,.any,.any,.any,.any,.any,.any,.any,.any,.any,.any,.any,.any,.any,.any,.any,.any,.any,.any,.any,.any,.any,.any,.any,.any,.any,.any,.any,.any,.any,.any,.any,.any,.any,.any,.any,.any,.any,.any,.any,.any,.any,.any,.any,.any,.any,.any,.any,.any,.any,.any,.any,.any],h:=[.vec 3 [(.int .i64)]] } }]
noncomputable def q5n:Env:={ tt:=qj,glob:=qa,spec:=[(88,qf q2f q2j wC)],body:=[(65,Tryz.f65)],loops:=[((65,11),qE q8e q7I (qg zC))],nimp:=0 }
noncomputable def uZ (ps:List PV):TR:=jx q5n 65 Tryz.f65 4 q9D q9x ps
theorem qm4:EnvOK q5n Tryz.prog:=⟨qm qc,
 all_cons q3f (q8),
 all_cons (zp Tryz.func65 (by kernel_rfl) (by kernel_rfl) qjd) (q8),
 all_cons (qh Tryz.func65 (by kernel_rfl)) (q8)⟩
theorem qkv:qO Tryz.prog qa q5n.nimp (zo Tryz.prog q5n.iter 65) (wM Tryz.f65 4) (qE q9D q9x (qg uZ)):=
 qv qk qm4 Tryz.func65 (by kernel_rfl) (by kernel_rfl) (by kernel_rfl) (by kernel_rfl) (fun _=>rfl)
noncomputable def qjM:Env:={ tt:=qj,glob:=qa,spec:=[(88,qf q2f q2j wC)],body:=[(65,Tryz.f65)],loops:=[((65,4),qE q9D q9x (qg uZ))],nimp:=0 }
noncomputable def q36 (ps:List PV):TR:=qW qjM 65 Tryz.f65 true qdQ qdn ps
theorem qqS:EnvOK qjM Tryz.prog:=⟨qm qc,
 all_cons q3f (q8),
 all_cons (zp Tryz.func65 (by kernel_rfl) (by kernel_rfl) qkv) (q8),
 all_cons (qh Tryz.func65 (by kernel_rfl)) (q8)⟩
theorem qnt:wi Tryz.prog qa 65 (qf qdQ qdn q36):=qt qk qqS Tryz.func65 (by kernel_rfl) (by kernel_rfl) (fun _=>rfl)
def q6z:FIn:={ args:=[(.imm [.str,.str,.str])],h:=[] }
def q6e:List FOut:=[{ res:=(.tuple [(.imm [(.int .i64)]),(.int .i64)]),h:=[] }]
noncomputable def qcS:Env:={ tt:=qj,glob:=qa,spec:=[(56,qf q31 q2X zQ),(65,qf qdQ qdn q36)],body:=[(29,Tryz.f29)],loops:=[],nimp:=0 }
noncomputable def vK (ps:List PV):TR:=qW qcS 29 Tryz.f29 true q6z q6e ps
theorem qiK:EnvOK qcS Tryz.prog:=⟨qm qc,
 all_cons q2N (all_cons qnt (q8)),
 q8,
 all_cons (qh Tryz.func29 (by kernel_rfl)) (q8)⟩
theorem qh3:wi Tryz.prog qa 29 (qf q6z q6e vK):=qt qk qiK Tryz.func29 (by kernel_rfl) (by kernel_rfl) (fun _=>rfl)
def q7T:FIn:={ args:=[(.imm [(.int .i64)]),(.imm [(.int .i64)])],h:=[] }
def q7M:List FOut:=[{ res:=.bool,h:=[] }]
def q5D:Tmpl:={ t:=[(.imm [(.int .i64)]),(.imm [(.int .i64)]),.any,.any,.any,(.int .i64),.any,.any,.any,.any,.any,.any,.any,.any,.any,.any,.any,.any,.any,.any,.any,.any,.any,.any,.any,.any],h:=[] }
def q5U:List Out:=[{ x:=(.exit 0),tm:={ t:=[.any,.any,.any,.any,.any,.any,.any,.any,.any,.any,.any,.any,.any,.any,.any,.any,.any,.any,.any,.any,.any,.any,.any,.any,.any,.any],h:=[] } },{ x:=.ret,tm:={ t:=[.any,.any,.any,.any,.bool,.any,.any,.any,.any,.any,.any,.any,.any,.any,.any,.any,.any,.any,.any,.any,.any,.any,.any,.any,.any,.any],h:=[] } }]
noncomputable def q2D:Env:={ tt:=qj,glob:=qa,spec:=[],body:=[(30,Tryz.f30)],loops:=[],nimp:=0 }
noncomputable def jL (ps:List PV):TR:=jx q2D 30 Tryz.f30 6 q5D q5U ps
theorem qhb:EnvOK q2D Tryz.prog:=⟨qm qc,
 q8,
 q8,
 all_cons (qh Tryz.func30 (by kernel_rfl)) (q8)⟩
theorem qfJ:qO Tryz.prog qa q2D.nimp (zo Tryz.prog q2D.iter 30) (wM Tryz.f30 6) (qE q5D q5U (qg jL)):=
 qv qk qhb Tryz.func30 (by kernel_rfl) (by kernel_rfl) (by kernel_rfl) (by kernel_rfl) (fun _=>rfl)
noncomputable def qeS:Env:={ tt:=qj,glob:=qa,spec:=[],body:=[(30,Tryz.f30)],loops:=[((30,6),qE q5D q5U (qg jL))],nimp:=0 }
noncomputable def jX (ps:List PV):TR:=qW qeS 30 Tryz.f30 true q7T q7M ps
theorem qlr:EnvOK qeS Tryz.prog:=⟨qm qc,
 q8,
 all_cons (zp Tryz.func30 (by kernel_rfl) (by kernel_rfl) qfJ) (q8),
 all_cons (qh Tryz.func30 (by kernel_rfl)) (q8)⟩
theorem qji:wi Tryz.prog qa 30 (qf q7T q7M jX):=qt qk qlr Tryz.func30 (by kernel_rfl) (by kernel_rfl) (fun _=>rfl)
def q1K:FIn:={ args:=[(.imm [.str,.str,.str])],h:=[] }
def q1Y:List FOut:=[{ res:=.bool,h:=[] }]
noncomputable def jP:Env:={ tt:=qj,glob:=qa,spec:=[(12,qf q1V q1L qS),(17,qf qao q9f u6),(26,qf kZ q01 zy),(27,qf q2O q2J ww),(28,qf q6k q6i vJ),(29,qf q6z q6e vK),(30,qf q7T q7M jX)],body:=[(7,Tryz.f7)],loops:=[],nimp:=0 }
noncomputable def jN (ps:List PV):TR:=qW jP 7 Tryz.f7 true q1K q1Y ps
theorem qc5:EnvOK jP Tryz.prog:=⟨qm qc,
 all_cons q26 (all_cons qbW (all_cons q52 (all_cons qcP (all_cons qhq (all_cons qh3 (all_cons qji (q8))))))),
 q8,
 all_cons (qh Tryz.func7 (by kernel_rfl)) (q8)⟩
theorem qb3:wi Tryz.prog qa 7 (qf q1K q1Y jN):=qt qk qc5 Tryz.func7 (by kernel_rfl) (by kernel_rfl) (fun _=>rfl)
end Go.Eng

